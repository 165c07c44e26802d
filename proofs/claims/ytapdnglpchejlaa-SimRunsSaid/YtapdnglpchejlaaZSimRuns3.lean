/- Contracts of package ssa: what is known where, by going on till nothing turns. -/
import Derived.Test.YtapdnglpchejlaaZSimRuns2
import Derived.Test.YtapdnglpchejlaaProg
import Derived.KernelRfl
namespace Go.Proofs.Ytapdnglpchejlaa
open Go Go.VL

def V.del (h : V) (r : Nat) : V := fun b => if b = r then none else h b
theorem del_le (h : V) (r : Nat) : Le (V.del h r) h := by
  intro b o hb
  unfold V.del at hb
  split at hb
  · cases hb
  · exact hb
theorem del_self (h : V) (r : Nat) : V.del h r r = none := by simp [V.del]
theorem del_ne {h : V} {r b : Nat} (hne : b ≠ r) : V.del h r b = h b := by simp [V.del, hne]
theorem mset_map {l : List (Option Nat)} {n : Nat} {x : Option Nat} : (l.map Value.map).set n (.map x) = (l.set n x).map Value.map := by rw [List.map_set]

/- the keys that a set loses -/
noncomputable def loses (s t : Int → Bool) : Bool := @decide (∃ v, s v = true ∧ t v = false) (Classical.propDecidable _)
theorem loses_true {s t : Int → Bool} : loses s t = true ↔ ∃ v, s v = true ∧ t v = false := by unfold loses; exact @decide_eq_true_iff _ (Classical.propDecidable _)
theorem loses_false {s t : Int → Bool} : loses s t = false ↔ ∀ v, s v = true → t v = true := by
  unfold loses
  rw [@decide_eq_false_iff_not _ (Classical.propDecidable _)]
  constructor
  · intro h v hv
    cases ht : t v with
    | true => rfl
    | false => exact absurd ⟨v, hv, ht⟩ h
  · rintro h ⟨v, h1, h2⟩
    rw [h v h1] at h2; cases h2

theorem c_meet_new {h1 h : V} {s : Sl} {vals : List (Option Nat)} {n : Int} {r2 : Nat} {R : Value → V → Prop} (l : Le h1 h) (o : OwnS h1 h s 73 1 (vals.map Value.map)) (h0 : 0 ≤ n) (hn : vals[n.toNat]? = some none)
    (hR : ∀ h', Le h1 h' → OwnS h1 h' s 73 1 ((vals.set n.toNat (some r2)).map Value.map) → (∀ b, (∀ a, s.a = some a → b ≠ a.block) → h' b = h b) → R (.bool true) h') : ACalls Try.prog 70 [sV s, iV n, .map (some r2)] h R := by
  have hlt : n.toNat < vals.length := (List.getElem?_eq_some_iff.1 hn).1
  have hv : vals[n.toNat] = none := by rw [List.getElem?_eq_getElem hlt] at hn; exact Option.some.inj hn
  have hmaps : isSl (fun h a x => cellq h a = some (Value.map x)) 1 h s vals := o.sl fun _ _ _ h => h
  refine S70_ok _ _ _ _ _ (hmaps.ix h0 hlt fun a ha => ⟨none, by rw [← hv]; exact ha, cond_b (fun _ => ?_) (fun e => by cases e)⟩)
  refine OwnS.set o l h0 (by simpa using hlt) fun h' l' o' f' => Wk_self (hR h' l' (by rw [mset_map] at o'; exact o') f')

theorem c_meet_old {h : V} {s : Sl} {vals : List (Option Nat)} {n : Int} {r1 r2 : Nat} {o1 o2 : Obj} {t1 t2 : Int → Bool} {R : Value → V → Prop} (hmaps : isSl (fun h a x => cellq h a = some (Value.map x)) 1 h s vals) (h0 : 0 ≤ n) (hn : vals[n.toNat]? = some (some r1))
    (hr1 : h r1 = some o1) (hs1 : SetRep o1 t1) (hr2 : h r2 = some o2) (hs2 : SetRep o2 t2)
    (hR : ∀ h' o1', h' r1 = some o1' → SetRep o1' (fun v => t1 v && t2 v) → (∀ b, b ≠ r1 → h b ≠ none → h' b = h b) → R (.bool (loses t1 t2)) h') : ACalls Try.prog 70 [sV s, iV n, .map (some r2)] h R := by
  have hlt : n.toNat < vals.length := (List.getElem?_eq_some_iff.1 hn).1
  have hv : vals[n.toNat] = some r1 := by rw [List.getElem?_eq_getElem hlt] at hn; exact Option.some.inj hn
  refine S70_ok _ _ _ _ _ (hmaps.ix h0 hlt fun a ha => ⟨some r1, by rw [← hv]; exact ha, cond_b (fun e => by cases e) (fun _ => ?_)⟩)
  refine hmaps.ix h0 hlt fun a2 ha2 => ⟨some r1, by rw [← hv]; exact ha2, ?_⟩
  obtain ⟨m, hm, hg⟩ := hs1
  have hs1 : SetRep o1 t1 := ⟨m, hm, hg⟩
  refine Rng_map (kd := .bool) hr1 hm fun it h3 hit l3 f3 hI => ?_
  have hne : it ≠ r1 := fun e => by subst e; rw [hit] at hr1; cases hr1
  refine Lp_iter (kd := .bool) (m0 := m)
    (fun m' left st hh => (∀ b, b ≠ r1 → h b ≠ none → hh b = h b) ∧ (∀ k, mget m' k = if t1 k && (decide (k ∈ mkeys left) || t2 k) then some true else none) ∧ (∀ k ∈ mkeys left, t1 k = true) ∧ (st.1 = true ↔ ∃ k, t1 k = true ∧ k ∉ mkeys left ∧ t2 k = false)) hI
    ⟨fun b hb hbn => f3 b (fun e => by subst e; exact hbn hit), fun k => ?_, fun k hk => (SetRep.mem hm hg).1 hk, ⟨fun h => by simp at h, fun ⟨k, h1, h2, _⟩ => absurd ((SetRep.mem hm hg).2 h1) h2⟩⟩ ?_ ?_
  · rw [hg k]
    cases hk : t1 k with
    | false => simp
    | true => have := (SetRep.mem hm hg).2 hk; simp [this]
  · rintro m' left ⟨st, u⟩ hh h' p K hI1 ⟨fr, hc, hle, hst⟩ hp hf hI2 hK
    have hpk : p.1 ∈ mkeys left := List.mem_map.2 ⟨p, hp, rfl⟩
    have hp1 : t1 p.1 = true := hle _ hpk
    have fr' : ∀ b, b ≠ r1 → h b ≠ none → h' b = h b := fun b hb hbn => (hf b (fun e => by subst e; exact hbn hit)).trans (fr b hb hbn)
    -- what the other map says
    have look : ∀ (K : Bool → Bool → Prop), K (t2 p.1) (t2 p.1) → Look h' (some r2) (.int .i64) (.int .i64 p.1) (.one .bool) false K := by
      intro K0 hK0
      by_cases e : r2 = r1
      · subst e
        rw [hr1] at hr2
        cases hr2
        obtain ⟨o3, ho3, hm3⟩ := hI2.map
        refine Look_map (kd := .bool) ho3 hm3 ?_
        have e12 : t2 p.1 = true := by
          obtain ⟨m2, hm2, hg2⟩ := hs2
          obtain ⟨es, clk, e1, q1, _⟩ := hm.ex
          obtain ⟨es', clk', e2, q2, _⟩ := hm2.ex
          rw [e1] at e2
          cases e2
          have hin := (SetRep.mem hm hg).2 hp1
          have : m.map (fun p => (Value.int .i64 p.1, Value.bool p.2)) = m2.map (fun p => (Value.int .i64 p.1, Value.bool p.2)) := q1.symm.trans q2
          have : mkeys m = mkeys m2 := by
            have := congrArg (List.map (fun x : Value × Value => match x.1 with | .int _ n => n | _ => 0)) this
            rw [List.map_map, List.map_map] at this
            exact this
          rw [this] at hin
          exact (SetRep.mem hm2 hg2).1 hin
        have e := hc p.1
        rw [hp1, e12] at e
        rw [e12] at hK0
        rw [e]
        simpa using hK0
      · exact SetRep.look ((fr' r2 e (by rw [hr2]; simp)).trans hr2) hs2 hK0
    refine unK_i (look _ (cond_not (fun hn2 => ?_) (fun hy2 => ?_)))
    · -- it goes
      have hmaps' : ∀ a, repBool h a true → True := fun _ _ => trivial
      refine hmaps.ix h0 hlt fun a3 ha3 => ⟨some r1, ?_, ?_⟩
      · rw [hv] at ha3
        have hblk : a3.block ≠ r1 ∧ h a3.block ≠ none := by
          unfold cellq at ha3
          constructor
          · intro e; rw [e, hr1] at ha3
            obtain ⟨es, clk, e1, _⟩ := hm.ex
            rw [e1] at ha3; cases ha3
          · intro e; rw [e] at ha3; cases ha3
        unfold cellq at ha3 ⊢
        rw [fr' _ hblk.1 hblk.2]
        exact ha3
      · refine MDel_iter hI2 (by rw [keys_filter]; exact fun h => h.2 rfl) fun h6 f6 hI3 => ?_
        obtain ⟨o3, ho3, hm3⟩ := hI2.map
        refine Wk_self (hK _ _ _ hI3 ⟨fun b hb hbn => (f6 b hb).trans (fr' b hb hbn), fun k => ?_, fun k hk => hle k (keys_filter.1 hk).1, ⟨fun _ => ⟨p.1, hp1, by rw [keys_filter]; exact fun h => h.2 rfl, hn2⟩, fun _ => rfl⟩⟩)
        rw [mget_mdel hm3.nodup]
        by_cases e : p.1 = k
        · subst e
          have : ¬ (p.1 ∈ mkeys (left.filter fun q => decide (q.1 ≠ p.1))) := by rw [keys_filter]; exact fun h => h.2 rfl
          simp only [if_true, this, decide_false, Bool.false_or]
          rw [show t2 p.1 = false from hn2]
          simp
        · rw [if_neg e, hc k]
          have : (k ∈ mkeys (left.filter fun q => decide (q.1 ≠ p.1))) ↔ k ∈ mkeys left := by rw [keys_filter]; exact ⟨fun h => h.1, fun h => ⟨h, fun x => e x.symm⟩⟩
          simp only [this]
    · refine Wk_self (hK _ _ _ hI2 ⟨fr', fun k => ?_, fun k hk => hle k (keys_filter.1 hk).1, hst.trans ⟨?_, ?_⟩⟩)
      · rw [hc k]
        by_cases e : k = p.1
        · subst e
          rw [show t2 p.1 = true from hy2]
          simp
        · have : (k ∈ mkeys (left.filter fun q => decide (q.1 ≠ p.1))) ↔ k ∈ mkeys left := by rw [keys_filter]; exact ⟨fun h => h.1, fun h => ⟨h, e⟩⟩
          simp only [this]
      · rintro ⟨k, h1, h2, h3⟩
        exact ⟨k, h1, fun h => h2 (keys_filter.1 h).1, h3⟩
      · rintro ⟨k, h1, h2, h3⟩
        refine ⟨k, h1, fun h => h2 (keys_filter.2 ⟨h, fun e => ?_⟩), h3⟩
        subst e
        rw [show t2 p.1 = true from hy2] at h3; cases h3
  · rintro m' ⟨st, u⟩ hh K hI1 ⟨fr, hc, hle, hst⟩
    obtain ⟨o3, ho3, hm3⟩ := hI1.map
    have hb : st = loses t1 t2 := by
      rw [Bool.eq_iff_iff, loses_true]
      have hst : st = true ↔ _ := hst
      rw [hst]
      simp [mkeys]
    have := hR hh o3 ho3 ⟨m', hm3, fun k => by rw [hc k]; simp [mkeys]⟩ fr
    rw [← hb] at this
    exact Wk_self this
end Go.Proofs.Ytapdnglpchejlaa

/- Contracts of package ssa: known. -/
namespace Go.Proofs.Ytapdnglpchejlaa
open Go Go.VL

theorem sum_le {α : Type} {f g : α → Nat} : ∀ {l : List α}, (∀ x ∈ l, f x ≤ g x) → (l.map f).sum ≤ (l.map g).sum
  | [], _ => Nat.le_refl _
  | x :: l, h => by
    have h1 := h x List.mem_cons_self
    have h2 := sum_le (l := l) fun y hy => h y (List.mem_cons_of_mem _ hy)
    simp only [List.map_cons, List.sum_cons]; omega
theorem sum_lt {α : Type} {f g : α → Nat} : ∀ {l : List α}, (∀ x ∈ l, f x ≤ g x) → (∃ x ∈ l, f x < g x) → (l.map f).sum < (l.map g).sum
  | [], _, ⟨_, h, _⟩ => by simp at h
  | x :: l, h, ⟨y, hy, hlt⟩ => by
    have h1 := h x List.mem_cons_self
    have h2 := sum_le (l := l) fun y hy => h y (List.mem_cons_of_mem _ hy)
    simp only [List.map_cons, List.sum_cons]
    rcases List.mem_cons.1 hy with e | e
    · subst e; omega
    · have := sum_lt (l := l) (fun y hy => h y (List.mem_cons_of_mem _ hy)) ⟨y, e, hlt⟩
      omega
theorem sum_set {α : Type} {f : α → Nat} : ∀ {l : List α} {n : Nat} {x y : α}, l[n]? = some x → ((l.set n y).map f).sum + f x = (l.map f).sum + f y
  | [], _, _, _, h => by simp at h
  | z :: l, 0, x, y, h => by
    simp at h; subst h
    simp only [List.set_cons_zero, List.map_cons, List.sum_cons]; omega
  | z :: l, n + 1, x, y, h => by
    have := sum_set (f := f) (l := l) (n := n) (x := x) (y := y) (by simpa using h)
    simp only [List.set_cons_succ, List.map_cons, List.sum_cons]; omega
theorem countP_le {α : Type} {p q : α → Bool} : ∀ {l : List α}, (∀ x ∈ l, p x = true → q x = true) → l.countP p ≤ l.countP q
  | [], _ => Nat.le_refl _
  | x :: l, h => by
    have h1 := h x List.mem_cons_self
    have h2 := countP_le (l := l) fun y hy => h y (List.mem_cons_of_mem _ hy)
    simp only [List.countP_cons]
    cases hp : p x with
    | true => rw [h1 hp]; simpa using h2
    | false => simp; omega
theorem countP_lt {α : Type} {p q : α → Bool} : ∀ {l : List α}, (∀ x ∈ l, p x = true → q x = true) → (∃ x ∈ l, q x = true ∧ p x = false) → l.countP p < l.countP q
  | [], _, ⟨_, h, _⟩ => by simp at h
  | x :: l, h, ⟨y, hy, hq, hp⟩ => by
    have h1 := h x List.mem_cons_self
    have h2 := countP_le (l := l) fun y hy => h y (List.mem_cons_of_mem _ hy)
    simp only [List.countP_cons]
    rcases List.mem_cons.1 hy with e | e
    · subst e; rw [hq, hp]; simp; omega
    · have h3 := countP_lt (l := l) (fun y hy => h y (List.mem_cons_of_mem _ hy)) ⟨y, e, hq, hp⟩
      cases hp : p x with
      | true => rw [h1 hp]; simpa using h3
      | false => simp; omega

def wtA (U : List Int) (T : Nat → Int → Bool) : Option Nat → Nat
  | none => U.length + 1
  | some r => U.countP (T r)
def muA (U : List Int) (A : List (Option Nat)) (T : Nat → Int → Bool) : Nat := (A.map (wtA U T)).sum
def upT (T : Nat → Int → Bool) (r : Nat) (t : Int → Bool) : Nat → Int → Bool := fun q => if q = r then t else T q
theorem upT_self (T : Nat → Int → Bool) (r : Nat) (t : Int → Bool) : upT T r t r = t := by simp [upT]
theorem upT_ne {T : Nat → Int → Bool} {r q : Nat} {t : Int → Bool} (h : q ≠ r) : upT T r t q = T q := by simp [upT, h]

structure KW (hB hh : V) (s : Sl) (U : List Int) (A : List (Option Nat)) (T : Nat → Int → Bool) : Prop where
  le : Le hB hh
  own : OwnS hB hh s 73 1 (A.map Value.map)
  set : ∀ (n : Nat) r, A[n]? = some (some r) → ∃ o, hh r = some o ∧ SetRep o (T r)
  new : ∀ (n : Nat) r, A[n]? = some (some r) → hB r = none
  inU : ∀ (n : Nat) r, A[n]? = some (some r) → ∀ v, T r v = true → v ∈ U
  zero : ∀ r, A[0]? = some (some r) → ∀ v, T r v = false

theorem noCells {cs : Array Value} {t : TypeId} {g : Nat × Nat} {s : Int → Bool} (h : SetRep (.cells cs t g) s) : False := by
  obtain ⟨m, hm, _⟩ := h
  obtain ⟨es, clk, e, _⟩ := hm.ex
  cases e
theorem KW.ne {hB hh : V} {s : Sl} {U : List Int} {A : List (Option Nat)} {T : Nat → Int → Bool} (k : KW hB hh s U A T) {r : Nat} {o : Obj} {t : Int → Bool} (hr : hh r = some o) (hs : SetRep o t) : ∀ a, s.a = some a → r ≠ a.block := by
  intro a ha e
  obtain ⟨_, arr, harr⟩ := k.own.blk ha
  rw [← e, hr] at harr
  cases harr
  exact noCells hs
theorem KW.maps {hB hh : V} {s : Sl} {U : List Int} {A : List (Option Nat)} {T : Nat → Int → Bool} (k : KW hB hh s U A T) : isSl (fun h a x => cellq h a = some (Value.map x)) 1 hh s A := k.own.sl fun _ _ _ h => h
/- a store of a set into the slice -/
theorem KW.put {hB hh h' : V} {s : Sl} {U : List Int} {A : List (Option Nat)} {T : Nat → Int → Bool} (k : KW hB hh s U A T) {n r2 : Nat} {o2 : Obj} (hn : n < A.length) (hr2 : hh r2 = some o2) (hs2 : SetRep o2 (T r2)) (hB2 : hB r2 = none) (hU2 : ∀ v, T r2 v = true → v ∈ U) (h0 : n = 0 → ∀ v, T r2 v = false)
    (l' : Le hB h') (o' : OwnS hB h' s 73 1 ((A.set n (some r2)).map Value.map)) (f' : ∀ b, (∀ a, s.a = some a → b ≠ a.block) → h' b = hh b) : KW hB h' s U (A.set n (some r2)) T ∧ h' r2 = some o2 := by
  have hr2' : h' r2 = some o2 := (f' r2 (k.ne hr2 hs2)).trans hr2
  have hget : ∀ (m : Nat) r, (A.set n (some r2))[m]? = some (some r) → (m = n ∧ r = r2) ∨ (m ≠ n ∧ A[m]? = some (some r)) := by
    intro m r h
    rw [List.getElem?_set] at h
    by_cases e : n = m
    · subst e
      simp [hn] at h
      exact .inl ⟨rfl, h.symm⟩
    · rw [if_neg e] at h; exact .inr ⟨fun x => e x.symm, h⟩
  refine ⟨⟨l', o', fun m r h => ?_, fun m r h => ?_, fun m r h v hv => ?_, fun r h v => ?_⟩, hr2'⟩
  · rcases hget m r h with ⟨_, rfl⟩ | ⟨_, h⟩
    · exact ⟨o2, hr2', hs2⟩
    · obtain ⟨o, ho, hs⟩ := k.set m r h
      exact ⟨o, (f' r (k.ne ho hs)).trans ho, hs⟩
  · rcases hget m r h with ⟨_, rfl⟩ | ⟨_, h⟩
    · exact hB2
    · exact k.new m r h
  · rcases hget m r h with ⟨_, rfl⟩ | ⟨_, h⟩
    · exact hU2 v hv
    · exact k.inU m r h v hv
  · rcases hget 0 r h with ⟨e, rfl⟩ | ⟨_, h⟩
    · exact h0 e.symm v
    · exact k.zero r h v
theorem mu_put {U : List Int} {A : List (Option Nat)} {T : Nat → Int → Bool} {n r2 : Nat} (hn : A[n]? = some none) : muA U (A.set n (some r2)) T < muA U A T := by
  have h1 := sum_set (f := wtA U T) (y := some r2) hn
  have h2 : U.countP (T r2) ≤ U.length := List.countP_le_length
  simp only [wtA] at h1
  unfold muA
  omega
theorem mu_cong {U : List Int} {A : List (Option Nat)} {T T' : Nat → Int → Bool} (h : ∀ (n : Nat) r, A[n]? = some (some r) → T' r = T r) : muA U A T' = muA U A T := by
  unfold muA
  congr 1
  apply List.map_congr_left
  intro x hx
  cases x with
  | none => rfl
  | some r =>
    obtain ⟨n, hn, hx⟩ := List.getElem_of_mem hx
    simp only [wtA]
    rw [h n r (by rw [List.getElem?_eq_getElem hn, hx])]

/- what meeting does, by the maps' own names -/
noncomputable def meetW (A : List (Option Nat)) (T : Nat → Int → Bool) (n r2 : Nat) : List (Option Nat) × (Nat → Int → Bool) × Bool := match A[n]? with
  | some (some r1) => (A, upT T r1 (fun v => T r1 v && T r2 v), loses (T r1) (T r2))
  | some none => (A.set n (some r2), T, true)
  | none => (A, T, false)
theorem c_meet {hB hh : V} {s : Sl} {U : List Int} {A : List (Option Nat)} {T : Nat → Int → Bool} {n : Int} {r2 : Nat} {o2 : Obj} {R : Value → V → Prop} (k : KW hB hh s U A T) (h0 : 1 ≤ n) (hn : n.toNat < A.length)
    (hr2 : hh r2 = some o2) (hs2 : SetRep o2 (T r2)) (hB2 : hB r2 = none) (hU2 : ∀ v, T r2 v = true → v ∈ U)
    (hR : ∀ h' A' T' b, meetW A T n.toNat r2 = (A', T', b) → (∀ q, hh q ≠ none → h' q ≠ none) → KW hB h' s U A' T' → (∃ o, h' r2 = some o ∧ SetRep o (T' r2)) → T' r2 = T r2 → A'.length = A.length → (b = true → muA U A' T' < muA U A T) →
      (b = false → A' = A ∧ T' = T ∧ ∃ r1, A[n.toNat]? = some (some r1) ∧ ∀ v, T r1 v = true → T r2 v = true) → R (.bool b) h') : ACalls Try.prog 70 [sV s, iV n, .map (some r2)] hh R := by
  cases hA : A[n.toNat]'hn with
  | none =>
    have hA' : A[n.toNat]? = some none := by rw [List.getElem?_eq_getElem hn, hA]
    refine c_meet_new k.le k.own (by omega) hA' fun h' l' o' f' => ?_
    obtain ⟨k', hr2'⟩ := k.put hn hr2 hs2 hB2 hU2 (fun e => by omega) l' o' f'
    have live : ∀ q, hh q ≠ none → h' q ≠ none := fun q hq => by
      by_cases e : ∃ a, s.a = some a ∧ q = a.block
      · obtain ⟨a, ha, rfl⟩ := e
        obtain ⟨_, arr, harr⟩ := o'.blk ha
        rw [harr]; simp
      · rw [f' q fun a ha x => e ⟨a, ha, x⟩]; exact hq
    exact hR h' _ T true (by unfold meetW; rw [hA']) live k' ⟨o2, hr2', hs2⟩ rfl (by simp) (fun _ => mu_put hA') (fun e => by cases e)
  | some r1 =>
    have hA' : A[n.toNat]? = some (some r1) := by rw [List.getElem?_eq_getElem hn, hA]
    obtain ⟨o1, hr1, hs1⟩ := k.set _ _ hA'
    refine c_meet_old k.maps (by omega) hA' hr1 hs1 hr2 hs2 fun h' o1' hr1' hs1' f' => ?_
    have l' : Le hB h' := fun b ob hb => by
      have e : b ≠ r1 := fun e => by subst e; rw [k.new _ _ hA'] at hb; cases hb
      have := k.le b ob hb
      rw [f' b e (by rw [this]; simp)]; exact this
    have own' : OwnS hB h' s 73 1 (A.map Value.map) := k.own.frame fun a ob ha hob => by
      rw [f' a.block (fun e => k.ne hr1 hs1 a ha e.symm) (by rw [hob]; simp)]; exact hob
    have hset : ∀ r o t, hh r = some o → SetRep o t → (r = r1 → t = T r1) → ∃ o', h' r = some o' ∧ SetRep o' (if r = r1 then (fun v => T r1 v && T r2 v) else t) := by
      intro r o t ho hs _
      by_cases e : r = r1
      · subst e; rw [if_pos rfl]; exact ⟨o1', hr1', hs1'⟩
      · rw [if_neg e]; exact ⟨o, (f' r e (by rw [ho]; simp)).trans ho, hs⟩
    have hup : ∀ r, upT T r1 (fun v => T r1 v && T r2 v) r = if r = r1 then (fun v => T r1 v && T r2 v) else T r := fun r => rfl
    have hsub : ∀ r v, upT T r1 (fun v => T r1 v && T r2 v) r v = true → T r v = true := by
      intro r v h
      rw [hup] at h
      by_cases e : r = r1
      · subst e; rw [if_pos rfl] at h; exact (Bool.and_eq_true_iff.1 h).1
      · rw [if_neg e] at h; exact h
    have e2 : upT T r1 (fun v => T r1 v && T r2 v) r2 = T r2 := by
      rw [hup]
      by_cases e : r2 = r1
      · subst e; rw [if_pos rfl]; funext v; simp
      · rw [if_neg e]
    have k' : KW hB h' s U A (upT T r1 (fun v => T r1 v && T r2 v)) := by
      refine ⟨l', own', fun m r h => ?_, k.new, fun m r h v hv => k.inU m r h v (hsub r v hv), fun r h v => ?_⟩
      · obtain ⟨o, ho, hs⟩ := k.set m r h
        exact hset r o _ ho hs (fun e => by rw [e])
      · cases hv : upT T r1 (fun v => T r1 v && T r2 v) r v with
        | false => rfl
        | true => rw [← k.zero r h v]; exact (hsub r v hv).symm
    have live : ∀ q, hh q ≠ none → h' q ≠ none := fun q hq => by
      by_cases e : q = r1
      · subst e; rw [hr1']; simp
      · rw [f' q e hq]; exact hq
    refine hR h' A _ _ (by unfold meetW; rw [hA']) live k' ?_ e2 rfl (fun hl => ?_) (fun hl => ?_)
    · exact hset r2 o2 _ hr2 hs2 (fun e => by rw [e])
    · obtain ⟨v, hv1, hv2⟩ := loses_true.1 hl
      refine sum_lt (fun x _ => ?_) ⟨some r1, List.mem_of_getElem? hA', ?_⟩
      · cases x with
        | none => exact Nat.le_refl _
        | some r => exact countP_le fun v _ h => hsub r v h
      · refine countP_lt (fun v _ h => hsub r1 v h) ⟨v, k.inU _ _ hA' v hv1, hv1, ?_⟩
        rw [upT_self, hv2]; simp
    · have hl := loses_false.1 hl
      refine ⟨rfl, ?_, r1, hA', hl⟩
      funext r v
      rw [hup]
      by_cases e : r = r1
      · subst e
        rw [if_pos rfl]
        cases hv : T r v with
        | false => simp
        | true => simp [hl v hv]
      · rw [if_neg e]
end Go.Proofs.Ytapdnglpchejlaa

/- What known computes, by names of one's own: the same whatever the memory is. -/
namespace Go.Proofs.Ytapdnglpchejlaa
open Go Go.VL

structure KSt where
  A : List (Option Nat)
  S : List (Int → Bool)
noncomputable def meetF (st : KSt) (n h2 : Nat) : KSt × Bool := match st.A[n]? with
  | some (some h1) => (⟨st.A, st.S.set h1 (fun v => (st.S.getD h1 fun _ => false) v && (st.S.getD h2 fun _ => false) v)⟩, loses (st.S.getD h1 fun _ => false) (st.S.getD h2 fun _ => false))
  | some none => (⟨st.A.set n (some h2), st.S⟩, true)
  | none => (st, false)
noncomputable def waysF (h2 : Nat) (s : KSt × Bool) (w : EdgeD) : KSt × Bool := ((meetF s.1 w.to.toNat h2).1, s.2 || (meetF s.1 w.to.toNat h2).2)
noncomputable def rchB (bs : List BlockD) (n : Nat) : Bool := @decide (Rch bs n) (Classical.propDecidable _)
theorem rchB_iff {bs : List BlockD} {n : Nat} : rchB bs n = true ↔ Rch bs n := by unfold rchB; exact @decide_eq_true_iff _ (Classical.propDecidable _)
/- the block's way through, once its set is there -/
noncomputable def goF (bk : BlockD) (h : Nat) (s : KSt × Bool) : KSt × Bool :=
  bk.e.ways.foldl (waysF s.1.S.length) (⟨s.1.A, s.1.S ++ [afterD (s.1.S.getD h (fun _ => false)) bk]⟩, s.2)
noncomputable def blockF (bs : List BlockD) (k : Nat) (s : KSt × Bool) : KSt × Bool :=
  if rchB bs k = true then
    match bs[k]? with
    | none => s
    | some bk =>
      match s.1.A[k]? with
      | some (some h) => goF bk h s
      | some none => if k = 0 then goF bk s.1.S.length (⟨s.1.A.set 0 (some s.1.S.length), s.1.S ++ [fun (_ : Int) => false]⟩, true) else s
      | none => s
  else s
noncomputable def roundF (bs : List BlockD) : Nat → KSt → KSt × Bool
  | 0, st => (st, false)
  | k + 1, st => blockF bs k (roundF bs k st)
inductive KRun (bs : List BlockD) : KSt → KSt → Prop where
  | stop {st : KSt} : (roundF bs bs.length st).2 = false → KRun bs st (roundF bs bs.length st).1
  | go {st f : KSt} : (roundF bs bs.length st).2 = true → KRun bs (roundF bs bs.length st).1 f → KRun bs st f
theorem KRun.det {bs : List BlockD} {st f g : KSt} (h1 : KRun bs st f) (h2 : KRun bs st g) : f = g := by
  induction h1 with
  | stop e =>
    cases h2 with
    | stop _ => rfl
    | go e' _ => rw [e] at e'; cases e'
  | go e _ ih =>
    cases h2 with
    | stop e' => rw [e] at e'; cases e'
    | go _ h => exact ih h

structure Ref (hh : V) (ids : List Nat) (st : KSt) (A : List (Option Nat)) (T : Nat → Int → Bool) : Prop where
  a : A = st.A.map (Option.map fun h => ids.getD h 0)
  len : ids.length = st.S.length
  t : ∀ (h : Nat) r, ids[h]? = some r → st.S.getD h (fun _ => false) = T r
  nd : ids.Nodup
  bd : ∀ (n : Nat) h, st.A[n]? = some (some h) → h < ids.length
  live : ∀ r ∈ ids, hh r ≠ none
theorem Ref.view {hh h' : V} {ids : List Nat} {st : KSt} {A : List (Option Nat)} {T : Nat → Int → Bool} (r : Ref hh ids st A T) (l : ∀ q, hh q ≠ none → h' q ≠ none) : Ref h' ids st A T := ⟨r.a, r.len, r.t, r.nd, r.bd, fun q hq => l q (r.live q hq)⟩
theorem Ref.le {hh h' : V} {ids : List Nat} {st : KSt} {A : List (Option Nat)} {T : Nat → Int → Bool} (r : Ref hh ids st A T) (l : Le hh h') : Ref h' ids st A T := r.view fun q hq => by
  cases e : hh q with
  | none => exact absurd e hq
  | some o => rw [l _ _ e]; simp
theorem Ref.get {hh : V} {ids : List Nat} {st : KSt} {A : List (Option Nat)} {T : Nat → Int → Bool} (r : Ref hh ids st A T) (n : Nat) : A[n]? = (st.A[n]?).map (Option.map fun h => ids.getD h 0) := by rw [r.a, List.getElem?_map]
theorem Ref.isS {hh : V} {ids : List Nat} {st : KSt} {A : List (Option Nat)} {T : Nat → Int → Bool} (r : Ref hh ids st A T) {n q : Nat} (h : A[n]? = some (some q)) : ∃ i, st.A[n]? = some (some i) ∧ ids[i]? = some q ∧ st.S.getD i (fun _ => false) = T q := by
  rw [r.get n] at h
  cases e : st.A[n]? with
  | none => rw [e] at h; cases h
  | some x =>
    rw [e] at h
    cases x with
    | none => simp at h
    | some i =>
      have hi := r.bd n i e
      simp [List.getElem?_eq_getElem hi] at h
      have : ids[i]? = some q := by rw [List.getElem?_eq_getElem hi, h]
      exact ⟨i, rfl, this, r.t i q this⟩
theorem Ref.isN {hh : V} {ids : List Nat} {st : KSt} {A : List (Option Nat)} {T : Nat → Int → Bool} (r : Ref hh ids st A T) {n : Nat} (h : A[n]? = some none) : st.A[n]? = some none := by
  rw [r.get n] at h
  cases e : st.A[n]? with
  | none => rw [e] at h; cases h
  | some x =>
    rw [e] at h
    cases x with
    | none => rfl
    | some i => simp at h
theorem Ref.fresh {hh h' : V} {ids : List Nat} {st : KSt} {A : List (Option Nat)} {T : Nat → Int → Bool} (r : Ref hh ids st A T) {q : Nat} {t : Int → Bool} (hq : hh q = none) (l : Le hh h') (hq' : h' q ≠ none) :
    Ref h' (ids ++ [q]) ⟨st.A, st.S ++ [t]⟩ A (upT T q t) ∧ (ids ++ [q])[st.S.length]? = some q := by
  have hni : q ∉ ids := fun hm => r.live q hm hq
  have r' := r.le l
  have hA : st.A.map (Option.map fun h => ids.getD h 0) = st.A.map (Option.map fun h => (ids ++ [q]).getD h 0) := by
    apply List.map_congr_left
    intro x hx
    cases x with
    | none => rfl
    | some i =>
      obtain ⟨n, hn, hx⟩ := List.getElem_of_mem hx
      have hi := r.bd n i (by rw [List.getElem?_eq_getElem hn, hx])
      simp only [Option.map_some, List.getD_eq_getElem?_getD, List.getElem?_append_left hi]
  refine ⟨⟨by rw [r.a]; exact hA, by simp [r.len], fun h x hx => ?_, ?_, fun n h hn => ?_, fun x hx => ?_⟩, ?_⟩
  · rcases Nat.lt_or_ge h ids.length with g | g
    · rw [List.getElem?_append_left g] at hx
      have hxm : x ∈ ids := List.mem_of_getElem? hx
      have : x ≠ q := fun e => hni (e ▸ hxm)
      rw [upT_ne this, ← r.t h x hx]
      simp only [List.getD_eq_getElem?_getD]
      rw [List.getElem?_append_left (by rw [← r.len]; exact g)]
    · rw [List.getElem?_append_right g] at hx
      have e : h - ids.length = 0 := by
        have := (List.getElem?_eq_some_iff.1 hx).1
        simp at this; omega
      rw [e] at hx
      simp at hx
      subst hx
      have e2 : h = st.S.length := by rw [← r.len]; omega
      subst e2
      rw [upT_self]
      simp [List.getD_eq_getElem?_getD]
  · rw [List.nodup_append]
    refine ⟨r.nd, by simp, fun a ha b hb => ?_⟩
    rw [List.mem_singleton.1 hb]
    exact fun e => hni (e ▸ ha)
  · have := r.bd n h hn
    simp; omega
  · rcases List.mem_append.1 hx with g | g
    · exact r'.live x g
    · rw [List.mem_singleton.1 g]; exact hq'
  · rw [← r.len]; simp
theorem Ref.meet {hh h' : V} {ids : List Nat} {st : KSt} {A A' : List (Option Nat)} {T T' : Nat → Int → Bool} {n h2 r2 : Nat} {b : Bool} (r : Ref hh ids st A T) (h2r : ids[h2]? = some r2) (e : meetW A T n r2 = (A', T', b)) (live : ∀ q, hh q ≠ none → h' q ≠ none) :
    Ref h' ids (meetF st n h2).1 A' T' ∧ (meetF st n h2).2 = b := by
  have r' := r.view live
  have e2 := r.t h2 r2 h2r
  unfold meetW at e
  cases hA : A[n]? with
  | none =>
    rw [hA] at e
    cases e
    have : st.A[n]? = none := by
      have := r.get n
      rw [hA] at this
      cases x : st.A[n]? with
      | none => rfl
      | some y => rw [x] at this; cases this
    unfold meetF
    rw [this]
    exact ⟨r', rfl⟩
  | some x =>
    cases x with
    | none =>
      rw [hA] at e
      cases e
      unfold meetF
      rw [r.isN hA]
      refine ⟨⟨?_, r.len, r.t, r.nd, fun m h hm => ?_, r'.live⟩, rfl⟩
      · rw [r.a, List.map_set]
        simp [List.getD_eq_getElem?_getD, h2r]
      · simp only [List.getElem?_set] at hm
        split at hm
        · split at hm
          · cases hm; exact (List.getElem?_eq_some_iff.1 h2r).1
          · cases hm
        · exact r.bd m h hm
    | some r1 =>
      rw [hA] at e
      obtain ⟨h1, a1, i1, t1⟩ := r.isS hA
      cases e
      unfold meetF
      rw [a1]
      refine ⟨⟨r.a, by simp [r.len], fun h x hx => ?_, r.nd, r.bd, r'.live⟩, by show loses _ _ = _; rw [t1, e2]⟩
      have hlt := (List.getElem?_eq_some_iff.1 hx).1
      rw [r.len] at hlt
      simp only [List.getD_eq_getElem?_getD, List.getElem?_set]
      by_cases g : h1 = h
      · subst g
        rw [i1] at hx
        cases hx
        rw [upT_self]
        simp only [List.getD_eq_getElem?_getD] at t1 e2
        rw [if_pos rfl, if_pos hlt, Option.getD_some, t1, e2]
      · have : x ≠ r1 := fun ex => by
          subst ex
          exact g ((List.getElem?_inj (List.getElem?_eq_some_iff.1 i1).1 r.nd).1 (i1.trans hx.symm))
        rw [if_neg g, upT_ne this, ← r.t h x hx, List.getD_eq_getElem?_getD]
end Go.Proofs.Ytapdnglpchejlaa

/- Contracts of package ssa: known, at last. -/
namespace Go.Proofs.Ytapdnglpchejlaa
open Go Go.VL

def wayFix (A : List (Option Nat)) (T : Nat → Int → Bool) (t : Int → Bool) (w : EdgeD) : Prop := ∃ r1, A[w.to.toNat]? = some (some r1) ∧ ∀ v, T r1 v = true → t v = true
def blockFix (A : List (Option Nat)) (T : Nat → Int → Bool) (b : Nat) (bk : BlockD) : Prop :=
  (b = 0 → ∃ r, A[0]? = some (some r)) ∧ ∀ r, A[b]? = some (some r) → ∀ w ∈ bk.e.ways, wayFix A T (afterD (T r) bk) w
def FixA (bs : List BlockD) (A : List (Option Nat)) (T : Nat → Int → Bool) : Prop := ∀ (b : Nat) bk, Rch bs b → bs[b]? = some bk → blockFix A T b bk
def agreeT (A : List (Option Nat)) (T T' : Nat → Int → Bool) : Prop := ∀ (n : Nat) r, A[n]? = some (some r) → T' r = T r

/- what holds within a round that began with A0, T0 -/
structure KJ (hB hh : V) (s : Sl) (U : List Int) (A0 : List (Option Nat)) (T0 : Nat → Int → Bool) (turned : Bool) (A : List (Option Nat)) (T : Nat → Int → Bool) : Prop where
  w : KW hB hh s U A T
  len : A.length = A0.length
  mu : muA U A T ≤ muA U A0 T0
  lt : turned = true → muA U A T < muA U A0 T0
  eq : turned = false → A = A0 ∧ agreeT A0 T0 T
theorem KJ.view {hB hh h' : V} {s : Sl} {U : List Int} {A0 A : List (Option Nat)} {T0 T : Nat → Int → Bool} {tu : Bool} (k : KJ hB hh s U A0 T0 tu A T) (l : Le hh h') : KJ hB h' s U A0 T0 tu A T :=
  ⟨⟨k.w.le.trans l, k.w.own.le l, fun n r h => let ⟨o, h1, h2⟩ := k.w.set n r h; ⟨o, l _ _ h1, h2⟩, k.w.new, k.w.inU, k.w.zero⟩, k.len, k.mu, k.lt, k.eq⟩
theorem KW.view {hB hh h' : V} {s : Sl} {U : List Int} {A : List (Option Nat)} {T : Nat → Int → Bool} (k : KW hB hh s U A T) (l : Le hh h') : KW hB h' s U A T :=
  ⟨k.le.trans l, k.own.le l, fun n r h => let ⟨o, h1, h2⟩ := k.set n r h; ⟨o, l _ _ h1, h2⟩, k.new, k.inU, k.zero⟩
/- a new set, beside those of the slice -/
theorem KJ.fresh {hB hh h' : V} {s : Sl} {U : List Int} {A0 A : List (Option Nat)} {T0 T : Nat → Int → Bool} {tu : Bool} (k : KJ hB hh s U A0 T0 tu A T) {r : Nat} {t : Int → Bool} (hr : hh r = none) (l : Le hh h') :
    KJ hB h' s U A0 T0 tu A (upT T r t) ∧ ∀ (n : Nat) q, A[n]? = some (some q) → upT T r t q = T q := by
  have hne : ∀ (n : Nat) q, A[n]? = some (some q) → upT T r t q = T q := fun n q hq => by
    obtain ⟨o, ho, _⟩ := k.w.set n q hq
    exact upT_ne fun e => by subst e; rw [hr] at ho; cases ho
  have hmu : muA U A (upT T r t) = muA U A T := mu_cong hne
  refine ⟨⟨⟨k.w.le.trans l, k.w.own.le l, fun n q h => ?_, k.w.new, fun n q h v hv => ?_, fun q h v => ?_⟩, k.len, by rw [hmu]; exact k.mu, fun h => by rw [hmu]; exact k.lt h, fun h => ?_⟩, hne⟩
  · obtain ⟨o, h1, h2⟩ := k.w.set n q h
    rw [hne n q h]; exact ⟨o, l _ _ h1, h2⟩
  · rw [hne n q h] at hv; exact k.w.inU n q h v hv
  · rw [hne 0 q h]; exact k.w.zero q h v
  · obtain ⟨e1, e2⟩ := k.eq h
    refine ⟨e1, fun n q hq => ?_⟩
    subst e1
    rw [hne n q hq]; exact e2 n q hq

theorem made_mem {bs : List BlockD} {b : BlockD} (hb : b ∈ bs) {s : Int → Bool} (hs : ∀ v, s v = true → v ∈ bs.flatMap madeB) : ∀ v, afterD s b v = true → v ∈ bs.flatMap madeB := by
  intro v hv
  unfold afterD at hv
  rw [Bool.or_eq_true_iff, Bool.or_eq_true_iff] at hv
  rcases hv with (h | h) | h
  · exact hs v h
  · exact List.mem_flatMap.2 ⟨b, hb, List.mem_append_left _ (List.contains_iff_mem.1 h)⟩
  · exact List.mem_flatMap.2 ⟨b, hb, List.mem_append_right _ (List.contains_iff_mem.1 h)⟩

theorem c_known {h : V} {nm : ByteArray} {s : Sl} {bs : List BlockD} {R : Value → V → Prop} (hs : isBlocks h s bs) (hfew : bs.length ≤ 1048576) (hto : ∀ b ∈ bs, ∀ w ∈ b.e.ways, 1 ≤ w.to ∧ w.to.toNat < bs.length)
    (hR : ∀ s' h' A T, Le h h' → isSl (fun h a x => cellq h a = some (Value.map x)) 1 h' s' A → A.length = bs.length → (∀ (n : Nat) r, A[n]? = some (some r) → ∃ o, h' r = some o ∧ SetRep o (T r)) → (∀ r, A[0]? = some (some r) → ∀ v, T r v = false) → FixA bs A T → (∃ ids st, Ref h' ids st A T ∧ KRun bs ⟨List.replicate bs.length none, []⟩ st) → R (sV s') h') :
    ACalls Try.prog 44 [.agg ⟨[.string nm, sV s]⟩] h R := by
  refine S44_ok _ _ _ _ (New_box fun r1 h1 hr1 l1 b1 => ⟨s, b1.cell rfl, ?_⟩)
  refine MkSl_own (by rw [hs.len]; omega) (by omega) fun s14 h2 l2 o2 n2 f2 a2 => ?_
  rw [hs.len] at o2 n2
  refine ⟨(nm, s, ()), (b1.le l2).cells, c_Reach (hs.le mono_block (l1.trans l2)) hfew fun x16 h3 out l3 o3 outl hout => ⟨_, rfl, ?_⟩⟩
  obtain ⟨a14, ha14⟩ := a2
  obtain ⟨n14, arr14, h14⟩ := o2.blk ha14
  -- what stays through it all: everything but the slice of sets
  have lB : Le (V.del h3 a14.block) h3 := del_le _ _
  have lhB : Le h1 (V.del h3 a14.block) := fun b ob hb => by
    have e : b ≠ a14.block := fun e => by subst e; rw [n14] at hb; cases hb
    rw [del_ne e]; exact l3 _ _ (l2 _ _ hb)
  have hsB : isBlocks (V.del h3 a14.block) s bs := hs.le mono_block (l1.trans lhB)
  have b1B : Box (V.del h3 a14.block) r1 [.string nm, sV s] 63 := b1.le lhB
  have xB : isSl repBool 1 (V.del h3 a14.block) x16 out := by
    refine (OwnS.frame (h0 := h2) (h := h3) o3 fun a ob ha hob => ?_).bools
    rw [del_ne (fun e => ?_)]
    · exact hob
    · obtain ⟨e1, _⟩ := o3.blk ha
      rw [e, h14] at e1; cases e1
  have hrep : List.replicate bs.length (Value.map none) = (List.replicate bs.length (none : Option Nat)).map Value.map := by rw [List.map_replicate]
  have oB : OwnS (V.del h3 a14.block) h3 s14 73 1 ((List.replicate bs.length (none : Option Nat)).map Value.map) := by
    rw [← hrep]
    obtain ⟨p1, p2, p3, p4⟩ := o2.le l3
    rcases p4 with ⟨ha, _⟩ | ⟨r, off, arr, ha, _, hr, hz, ht⟩
    · rw [ha14] at ha; cases ha
    · refine ⟨p1, p2, p3, .inr ⟨r, off, arr, ha, ?_, hr, hz, ht⟩⟩
      rw [ha14] at ha
      have e : a14 = ⟨r, off, none⟩ := Option.some.inj ha
      rw [e]; exact del_self _ _
  generalize V.del h3 a14.block = hB at *
  have lhh : Le h hB := l1.trans lhB
  have hno : ∀ (n : Nat) r, (List.replicate bs.length (none : Option Nat))[n]? ≠ some (some r) := by
    intro n r e
    rw [List.getElem?_replicate] at e
    split at e <;> simp at e
  have k0 : KW hB h3 s14 (bs.flatMap madeB) (List.replicate bs.length none) (fun _ _ => false) := ⟨lB, oB, fun n r e => absurd e (hno n r), fun n r e => absurd e (hno n r), fun n r e => absurd e (hno n r), fun r e => absurd e (hno 0 r)⟩
  have ref0 : Ref h3 [] ⟨List.replicate bs.length none, []⟩ (List.replicate bs.length none) (fun _ _ => false) := by
    refine ⟨by simp, rfl, fun h r hr => by simp at hr, List.nodup_nil, fun n h hn => absurd hn (hno n h), fun r hr => by simp at hr⟩
  refine Lp_inv (fun n st hh => ∃ A T, KW hB hh s14 (bs.flatMap madeB) A T ∧ A.length = bs.length ∧ (st.1 = true → muA (bs.flatMap madeB) A T + 1 ≤ n) ∧ (st.1 = false → FixA bs A T) ∧ ∃ ids ks, Ref hh ids ks A T ∧ (st.1 = true → ∀ f, KRun bs ks f → KRun bs ⟨List.replicate bs.length none, []⟩ f) ∧ (st.1 = false → KRun bs ⟨List.replicate bs.length none, []⟩ ks))
    ⟨_, _, k0, by simp, fun _ => Nat.le_refl _, fun e => (by cases e), [], _, ref0, fun _ f hf => hf, fun e => by cases e⟩ ?_
  rintro n ⟨tu, u⟩ h4 K ⟨A0, T0, k0, len0, m0, x0, ids0, ks0, r0, go0, stop0⟩ hK
  refine cond_b (fun ht => ⟨s, (b1B.le k0.le).cell rfl, ?_⟩) (fun ht => Wk_self (hR s14 h4 A0 T0 (lhh.trans k0.le) k0.maps len0 k0.set k0.zero (x0 ht) ⟨ids0, ks0, r0, stop0 ht⟩))
  have m0 := m0 ht
  refine Lp_count bs.length (fun k st hh => ∃ A T, KJ hB hh s14 (bs.flatMap madeB) A0 T0 st.1 A T ∧ st.2 = ((k : Int), ()) ∧ (st.1 = false → ∀ b bk, b < k → Rch bs b → bs[b]? = some bk → blockFix A0 T0 b bk) ∧ ∃ ids, Ref hh ids (roundF bs k ks0).1 A T ∧ (roundF bs k ks0).2 = st.1)
    ⟨A0, T0, ⟨k0, rfl, Nat.le_refl _, fun e => (by cases e), fun _ => ⟨rfl, fun _ _ _ => rfl⟩⟩, rfl, fun _ b bk hb => by omega, ids0, r0, rfl⟩ ?_
  rintro k ⟨tu1, kk, u⟩ h5 K1 hk ⟨A1, T1, j1, hk2, hf1, ids1, rf1, fl1⟩ hK1
  obtain ⟨rfl, -⟩ := hk2
  refine cond_dec (fun hlt => ?_) (fun hge => ?_)
  · have hk' : k < bs.length := by have := hs.len; simp only at hlt; omega
    have hbm : bs[k] ∈ bs := List.getElem_mem hk'
    have hbk : bs[k]? = some bs[k] := List.getElem?_eq_getElem hk'
    refine elem_block hsB j1.w.le hk' rfl rfl fun p i w hp hi hw q7 h7 l7 l7' hr7 b7 => ?_
    have j7 := j1.view l7'
    have len1 : A1.length = bs.length := j1.len.trans len0
    -- a block that is passed over
    have r7 : Ref h7 ids1 (roundF bs k ks0).1 A1 T1 := rf1.le l7'
    have fl1 : (roundF bs k ks0).2 = tu1 := fl1
    have skip : ∀ hh, KJ hB hh s14 (bs.flatMap madeB) A0 T0 tu1 A1 T1 → Ref hh ids1 (roundF bs k ks0).1 A1 T1 → blockF bs k (roundF bs k ks0) = roundF bs k ks0 → (Rch bs k → tu1 = false → blockFix A0 T0 k bs[k]) → Wk hh fun h' => K1 (tu1, IntKind.wrap .i64 ((k : Int) + 1), ()) h' := by
      intro hh jj rr sk hx
      refine Wk_self (hK1 _ _ hk' ⟨A1, T1, jj, by rw [wnat hk' hs.bd], fun h b bk hb hr hbk' => ?_, ids1, by show Ref hh ids1 (blockF bs k (roundF bs k ks0)).1 A1 T1; rw [sk]; exact rr, by show (blockF bs k (roundF bs k ks0)).2 = _; rw [sk]; exact fl1⟩)
      rcases Nat.lt_or_ge b k with g | g
      · exact hf1 h b bk g hr hbk'
      · have e : b = k := by omega
        subst e
        rw [hbk] at hbk'
        cases hbk'
        exact hx hr h
    refine Cut_i (fun _ hh => h7 = hh ∧ Rch bs k ∧ (k ≠ 0 → ∃ r, A1[k]? = some (some r))) (fun J hJ => ?_) ?_
    · refine (xB.le mono_bool l7).ixn (by omega) fun a ha => ⟨_, ha, cond_not (fun hn => ?_) (fun hy => cond_dec (fun hpos => ?_) (fun hz => ?_))⟩
      · have nork : ¬ Rch bs k := fun hr => by
          have := (hout k).2 hr
          rw [List.getElem?_eq_getElem (by omega)] at this
          have hn : out[k] = false := hn
          rw [hn] at this; cases this
        refine skip h7 j7 r7 (by unfold blockF; rw [if_neg (fun e => nork (rchB_iff.1 e))]) fun hr => ?_
        have := (hout k).2 hr
        rw [List.getElem?_eq_getElem (by omega)] at this
        have hn : out[k] = false := hn
        rw [hn] at this; cases this
      · have hrk : Rch bs k := (hout k).1 (by rw [List.getElem?_eq_getElem (by omega)]; exact congrArg some hy)
        have hpos : (k : Int) > 0 := hpos
        cases hx : A1[k]'(by omega) with
        | none =>
          have hn1 := r7.isN (n := k) (by rw [List.getElem?_eq_getElem (by omega), hx])
          refine j7.w.maps.ixn (by omega) fun a ha => ⟨_, ha, cond_b (fun _ => skip h7 j7 r7 (by unfold blockF; rw [if_pos (rchB_iff.2 hrk), hbk]; simp only [hn1]; rw [if_neg (by omega)]) fun _ h => ⟨fun e => by omega, fun r hr => ?_⟩) (fun e => by rw [hx] at e; cases e)⟩
          rw [← (j1.eq h).1, List.getElem?_eq_getElem (by omega), hx] at hr
          cases hr
        | some r =>
          refine j7.w.maps.ixn (by omega) fun a ha => ⟨_, ha, cond_b (fun e => by rw [hx] at e; cases e) (fun _ => Wk_self (hJ _ _ ⟨rfl, hrk, fun _ => ⟨r, by rw [List.getElem?_eq_getElem (by omega), hx]⟩⟩))⟩
      · have hrk : Rch bs k := (hout k).1 (by rw [List.getElem?_eq_getElem (by omega)]; exact congrArg some hy)
        have hz : ¬ (k : Int) > 0 := hz
        exact Wk_self (hJ _ _ ⟨rfl, hrk, fun e => by omega⟩)
    · rintro _ _ ⟨rfl, hrk, hsome⟩
      -- the set of the first block
      refine Cut_i (fun st hh => ∃ A2 T2 r, KJ hB hh s14 (bs.flatMap madeB) A0 T0 st.1 A2 T2 ∧ A2[k]? = some (some r) ∧ Box hh q7 (blockV bs[k] p i w) 60 ∧ (st.1 = false → tu1 = false) ∧ ∃ ids ks i2, Ref hh ids ks A2 T2 ∧ ids[i2]? = some r ∧ blockF bs k (roundF bs k ks0) = goF bs[k] i2 (ks, st.1)) (fun J hJ => ?_) ?_
      · cases hx : A1[k]'(by omega) with
        | some r =>
          obtain ⟨i2, e1, e2, _⟩ := r7.isS (n := k) (q := r) (by rw [List.getElem?_eq_getElem (by omega), hx])
          refine j7.w.maps.ixn (by omega) fun a ha => ⟨_, ha, cond_b (fun e => by rw [hx] at e; cases e) (fun _ => Wk_self (hJ _ _ ⟨A1, T1, r, j7, by rw [List.getElem?_eq_getElem (by omega), hx], b7, fun h => h, ids1, _, i2, r7, e2, ?_⟩))⟩
          unfold blockF
          rw [if_pos (rchB_iff.2 hrk), hbk]
          simp only [e1]
          rw [← fl1]
        | none =>
          have hk0 : k = 0 := by
            apply Classical.byContradiction
            intro e
            obtain ⟨r, hr⟩ := hsome e
            rw [List.getElem?_eq_getElem (by omega), hx] at hr
            cases hr
          have hnone : A1[k]? = some none := by rw [List.getElem?_eq_getElem (by omega), hx]
          refine j7.w.maps.ixn (by omega) fun a ha => ⟨_, ha, cond_b (fun _ => ?_) (fun e => by rw [hx] at e; cases e)⟩
          intro r49 hr49
          have l8 := le_upd hr49 (.map #[] 0)
          obtain ⟨j8, hne8⟩ := j7.fresh (t := fun _ => false) hr49 l8
          obtain ⟨rf8, i8⟩ := r7.fresh (t := fun _ => false) hr49 l8 (by rw [upd_self]; simp)
          have ho8 : (h7.upd r49 (.map #[] 0)) r49 = some (.map #[] 0) := upd_self _ _ _
          have b8 := b7.le l8
          generalize h7.upd r49 (.map #[] 0) = h8 at *
          have hB49 : hB r49 = none := (j7.w.le).nil hr49
          refine OwnS.set j8.w.own j8.w.le (i := (k : Int)) (by omega) (by simpa using (by omega : k < A1.length)) fun h9 l9 o9 f9 => ?_
          have o9 : OwnS hB h9 s14 73 1 ((A1.set k (some r49)).map Value.map) := by rw [List.map_set]; simpa using o9
          obtain ⟨k9, hr9⟩ := j8.w.put (by omega) ho8 (by rw [upT_self]; exact SetRep.empty) hB49 (fun v hv => by rw [upT_self] at hv; cases hv) (fun _ v => by rw [upT_self]) l9 o9 f9
          have hmu := mu_put (U := bs.flatMap madeB) (T := upT T1 r49 fun _ => false) (r2 := r49) hnone
          have b9 : Box h9 q7 (blockV bs[k] p i w) 60 := by
            refine (f9 q7 fun a ha e => ?_).trans b8
            obtain ⟨_, arr, harr⟩ := j1.w.own.blk ha
            rw [← e, hr7] at harr; cases harr
          have live9 : ∀ q, h8 q ≠ none → h9 q ≠ none := fun q hq => by
            by_cases e : ∃ a, s14.a = some a ∧ q = a.block
            · obtain ⟨a, ha, rfl⟩ := e
              obtain ⟨_, arr, harr⟩ := o9.blk ha
              rw [harr]; simp
            · rw [f9 q fun a ha x => e ⟨a, ha, x⟩]; exact hq
          obtain ⟨rf9, _⟩ := rf8.meet (h' := h9) (n := k) (b := true) (A' := A1.set k (some r49)) i8 (by unfold meetW; rw [hnone]) live9
          refine Wk_self (hJ _ _ ⟨_, _, r49, ⟨k9, by simpa using j8.len, by have := j8.mu; omega, fun _ => by have := j8.mu; omega, fun e => by cases e⟩, by simp [show k < A1.length by omega], b9, fun e => (by cases e), _, _, _, rf9, i8, ?_⟩)
          have hn1 := r7.isN (n := k) hnone
          unfold blockF meetF
          rw [if_pos (rchB_iff.2 hrk), hbk]
          simp only [hn1]
          rw [if_pos hk0]
          subst hk0
          rfl
      · rintro ⟨tu3, u⟩ h9 ⟨A2, T2, r, j2, hr2, b9, htu, ids2, ks2, i2, rf2, hi2, heq2⟩
        have len2 : A2.length = bs.length := j2.len.trans len0
        have hx2 : A2[k]'(by omega) = some r := by rw [List.getElem?_eq_getElem (by omega)] at hr2; exact Option.some.inj hr2
        obtain ⟨ob, hob, hsob⟩ := j2.w.set _ _ hr2
        refine j2.w.maps.ixn (by omega) fun a ha => ⟨some r, by rw [← hx2]; exact ha, (p, i, bs[k].e.kind, bs[k].e.val, w, bs[k].e.trap, ()), b9.cells, ?_⟩
        refine c_after hob hsob (hp.le mono_int j2.w.le) (hi.le mono_ins j2.w.le) fun r' o' h10 l10 hn' ho' hs' => ⟨_, rfl, w, by rw [Addr.add_add]; exact (b9.le l10).cell rfl, ?_⟩
        obtain ⟨j3, hne3⟩ := j2.fresh (t := afterD (T2 r) bs[k]) hn' l10
        obtain ⟨rf3, hi3⟩ := rf2.fresh (t := afterD (T2 r) bs[k]) hn' l10 (by rw [ho']; simp)
        have hB' : hB r' = none := j2.w.le.nil hn'
        have hU' := made_mem hbm (j2.w.inU _ _ hr2)
        refine Lp_count bs[k].e.ways.length (fun j st hh => ∃ A T, KJ hB hh s14 (bs.flatMap madeB) A0 T0 st.1 A T ∧ st.2 = ((j : Int), ()) ∧ T r' = afterD (T2 r) bs[k] ∧ (∃ o, hh r' = some o ∧ SetRep o (T r')) ∧
            (st.1 = false → tu3 = false ∧ ∀ v ∈ bs[k].e.ways.take j, wayFix A0 T0 (afterD (T2 r) bs[k]) v) ∧
            Ref hh (ids2 ++ [r']) ((bs[k].e.ways.take j).foldl (waysF ks2.S.length) (⟨ks2.A, ks2.S ++ [afterD (T2 r) bs[k]]⟩, tu3)).1 A T ∧ ((bs[k].e.ways.take j).foldl (waysF ks2.S.length) (⟨ks2.A, ks2.S ++ [afterD (T2 r) bs[k]]⟩, tu3)).2 = st.1)
          ⟨A2, _, j3, rfl, upT_self _ _ _, ⟨o', ho', by rw [upT_self]; exact hs'⟩, fun e => ⟨e, by simp⟩, rf3, rfl⟩ ?_
        rintro j ⟨tu4, jj, u⟩ h11 K2 hj ⟨A4, T4, j4, hj2, hT4, ⟨o4, ho4, hs4⟩, hf4, rf4, fl4⟩ hK2
        obtain ⟨rfl, -⟩ := hj2
        refine cond_dec (fun hlt => ?_) (fun hge => ?_)
        · have hj' : j < bs[k].e.ways.length := by have := hw.len; simp only at hlt; omega
          have hwm : bs[k].e.ways[j] ∈ bs[k].e.ways := List.getElem_mem hj'
          obtain ⟨hto1, hto2⟩ := hto _ hbm _ hwm
          have len4 : A4.length = bs.length := j4.len.trans len0
          refine elem_edge hw j4.w.le hj' rfl rfl fun q hq r10 h13 l13 l13' hr10 b10 => ⟨_, b10.cell rfl, ?_⟩
          have j5 := j4.view l13'
          refine c_meet j5.w hto1 (by omega) (l13' _ _ ho4) hs4 hB' (by rw [hT4]; exact hU') fun h14 A5 T5 tb em5 live5 k5 hr5 hT5 len5 hlt5 heq5 => ⟨_, rfl, ?_⟩
          obtain ⟨rf5, fl5⟩ := (rf4.le l13').meet (n := bs[k].e.ways[j].to.toNat) hi3 em5 live5
          have fold5 : (bs[k].e.ways.take (j + 1)).foldl (waysF ks2.S.length) (⟨ks2.A, ks2.S ++ [afterD (T2 r) bs[k]]⟩, tu3) = waysF ks2.S.length ((bs[k].e.ways.take j).foldl (waysF ks2.S.length) (⟨ks2.A, ks2.S ++ [afterD (T2 r) bs[k]]⟩, tu3)) bs[k].e.ways[j] := foldl_take _ _ _ hj'
          have keep : muA (bs.flatMap madeB) A5 T5 ≤ muA (bs.flatMap madeB) A4 T4 := by
            cases tb with
            | true => exact Nat.le_of_lt (hlt5 rfl)
            | false => obtain ⟨e1, e2, _⟩ := heq5 rfl; rw [e1, e2]; exact Nat.le_refl _
          have hT5' : T5 r' = afterD (T2 r) bs[k] := hT5.trans hT4
          refine cond_b (fun hy => ?_) (fun hn => ?_)
          · have hy : tb = true := hy
            have := j4.mu
            have := hlt5 hy
            exact Wk_self (hK2 _ _ hj' ⟨A5, T5, ⟨k5, len5.trans j4.len, by omega, fun _ => by omega, fun e => by cases e⟩, by rw [wnat hj' hw.bd], hT5', hr5, fun e => (by cases e), by rw [fold5]; exact rf5, by rw [fold5]; show (_ || _) = true; rw [fl5, hy, Bool.or_true]⟩)
          · have hn : tb = false := hn
            obtain ⟨e1, e2, r1, hr1, hsub⟩ := heq5 hn
            subst e1 e2
            refine Wk_self (hK2 _ _ hj' ⟨A5, T5, ⟨k5, j4.len, j4.mu, j4.lt, j4.eq⟩, by rw [wnat hj' hw.bd], hT4, hr5, fun e => ⟨(hf4 e).1, fun v hv => ?_⟩, by rw [fold5]; exact rf5, by rw [fold5]; show (_ || _) = tu4; rw [fl5, hn, Bool.or_false]; exact fl4⟩)
            rw [List.take_succ_eq_append_getElem hj'] at hv
            rcases List.mem_append.1 hv with g | g
            · exact (hf4 e).2 v g
            · rw [List.mem_singleton.1 g]
              obtain ⟨g1, g2⟩ := j4.eq e
              subst g1
              refine ⟨r1, hr1, fun v hv => ?_⟩
              rw [← hT4]
              exact hsub v (by rw [g2 _ _ hr1]; exact hv)
        · have : j = bs[k].e.ways.length := by have := hw.len; simp only at hge; omega
          subst this
          rw [List.take_of_length_le (Nat.le_refl _)] at hf4 rf4 fl4
          have er : roundF bs (k + 1) ks0 = bs[k].e.ways.foldl (waysF ks2.S.length) (⟨ks2.A, ks2.S ++ [afterD (T2 r) bs[k]]⟩, tu3) := by
            show blockF bs k (roundF bs k ks0) = _
            rw [heq2]
            unfold goF
            rw [rf2.t _ _ hi2]
          refine Wk_self (hK1 _ _ hk' ⟨A4, T4, j4, by rw [wnat hk' hs.bd], fun e b bk hb hr hbk' => ?_, _, by rw [er]; exact rf4, by rw [er]; exact fl4⟩)
          obtain ⟨e3, hways⟩ := hf4 e
          rcases Nat.lt_or_ge b k with g | g
          · exact hf1 (htu e3) b bk g hr hbk'
          · have eb : b = k := by omega
            subst eb
            rw [hbk] at hbk'
            cases hbk'
            obtain ⟨g1, g2⟩ := j2.eq e3
            subst g1
            refine ⟨fun e0 => ⟨r, by rw [← e0]; exact hr2⟩, fun q hq v hv => ?_⟩
            rw [hr2] at hq
            cases hq
            have := hways v hv
            rw [g2 _ _ hr2] at this
            exact this
  · have : k = bs.length := by have := hs.len; simp only at hge; omega
    subst this
    have fl1 : (roundF bs bs.length ks0).2 = tu1 := fl1
    refine Wk_self (hK (if tu1 then n - 1 else 0) _ _ ?_ ⟨A1, T1, j1.w, j1.len.trans len0, fun e => ?_, fun e => ?_, ids1, _, rf1, fun e f hf => go0 ht f (.go (fl1.trans e) hf), fun e => go0 ht _ (.stop (fl1.trans e))⟩)
    · split <;> omega
    · have e : tu1 = true := e
      rw [if_pos e]
      have := j1.lt e
      omega
    · have e : tu1 = false := e
      obtain ⟨g1, g2⟩ := j1.eq e
      subst g1
      intro b bk hr hbk
      have hb : b < bs.length := (List.getElem?_eq_some_iff.1 hbk).1
      have := hf1 e b bk hb hr hbk
      refine ⟨this.1, fun r hr v hv => ?_⟩
      obtain ⟨r1, h1, h2⟩ := this.2 r hr v hv
      refine ⟨r1, h1, fun v hv => ?_⟩
      rw [g2 _ _ h1] at hv
      rw [g2 _ _ hr]
      exact h2 v hv
end Go.Proofs.Ytapdnglpchejlaa

/- Contracts of package ssa: Check. -/
namespace Go.Proofs.Ytapdnglpchejlaa
open Go Go.VL

def arrOk (a : ArrD) : Prop := 0 ≤ a.size ∧ a.size ≤ 4096 ∧ 0 ≤ a.hold ∧ a.hold ≤ 2
def blockOk (p : ProgD) (f : FuncD) (b : BlockD) : Prop := endsD f.blocks b.e = true ∧ ∀ i ∈ b.ins, rightD p i = true
def knownRun (bs : List BlockD) : Prop := ∃ st, KRun bs ⟨List.replicate bs.length none, []⟩ st ∧ ∀ (b : Nat) h bk, st.A[b]? = some (some h) → bs[b]? = some bk → usedD (st.S.getD h fun _ => false) bk = true
def knownOk (bs : List BlockD) : Prop := knownRun bs ∧ ∃ A T, A.length = bs.length ∧ (∀ r, A[0]? = some (some r) → ∀ v, T r v = false) ∧ FixA bs A T ∧ ∀ (b : Nat) r bk, A[b]? = some (some r) → bs[b]? = some bk → usedD (T r) bk = true
def funcOk (p : ProgD) (f : FuncD) : Prop := f.blocks ≠ [] ∧ f.params.length ≤ 6 ∧ onceD f.blocks = true ∧ (∀ b ∈ f.blocks, blockOk p f b) ∧ knownOk f.blocks
structure CheckOk (p : ProgD) : Prop where
  arrs : ∀ a ∈ p.arrays, arrOk a
  main0 : 0 ≤ p.main
  main1 : p.main.toNat < p.funcs.length
  main2 : ∀ f, p.funcs[p.main.toNat]? = some f → f.params = []
  funcs : ∀ f ∈ p.funcs, funcOk p f

def fewB (bs : List BlockD) : Prop := bs.length ≤ 1024 ∧ ∀ b ∈ bs, b.params.length ≤ 1024 ∧ b.ins.length ≤ 1024
theorem wayOk_to {bs : List BlockD} {w : EdgeD} (h : wayOk bs w = true) : 1 ≤ w.to ∧ w.to.toNat < bs.length := by
  unfold wayOk at h
  rw [Bool.and_eq_true_iff] at h
  refine ⟨by simpa using h.1, ?_⟩
  have := h.2
  split at this
  · rename_i b hb; exact (List.getElem?_eq_some_iff.1 hb).1
  · cases this
theorem endsD_ways {bs : List BlockD} {e : EndD} (h : endsD bs e = true) : ∀ w ∈ e.ways, wayOk bs w = true := by
  unfold endsD at h
  repeat (split at h; · cases h)
  exact List.all_eq_true.1 h

theorem c_Check {h : V} {p : ProgD} {sa sf : Sl} {R : Value → V → Prop} (ha : isArrs h sa p.arrays) (hf : isFuncs h sf p.funcs) (hfew : ∀ f ∈ p.funcs, fewB f.blocks)
    (hR : ∀ n : Int, n = 0 ∨ n = 40 → (n = 0 ↔ CheckOk p) → R (iV n) h) : ACalls Try.prog 17 [.agg ⟨[sV sa, sV sf, iV p.main]⟩] h R := by
  have h40 : ¬ CheckOk p → R (iV 40) h := fun hn => hR 40 (.inr rfl) ⟨fun e => (by cases e), fun e => absurd e hn⟩
  refine S17_ok _ _ _ _ _ (New_box fun r1 h1 hr1 l1 b1 => ⟨sa, b1.cell rfl, ?_⟩)
  refine Lp_count p.arrays.length (fun k st hh => st = ((k : Int), ()) ∧ Le h1 hh ∧ ∀ a ∈ p.arrays.take k, arrOk a) ⟨rfl, Le.refl _, by simp⟩ ?_
  rintro k _ h2 K hk ⟨rfl, l2, hall⟩ hK
  refine cond_dec (fun hlt => ?_) (fun hge => ?_)
  · have hk' : k < p.arrays.length := by have := ha.len; simp only at hlt; omega
    refine elem_arr ha (l1.trans l2) hk' rfl rfl fun r4 h4 l4 l4' hr4 b4 => ?_
    have bad : ∀ {x : Prop}, x → (arrOk p.arrays[k] → ¬ x) → Wk h4 fun h' => R (iV 40) h' := fun hx hn => Wk_le l4 (h40 fun ok => hn (ok.arrs _ (List.getElem_mem hk')) hx)
    refine ⟨_, b4.cell rfl, cond_dec (fun n1 => bad (show p.arrays[k].size < 0 from n1) fun ok => by have := ok.1; omega) (fun n1 => ⟨_, b4.cell rfl, cond_dec (fun n2 => bad (show p.arrays[k].size > 4096 from n2) fun ok => by have := ok.2.1; omega) (fun n2 => ⟨_, b4.cell rfl, cond_dec (fun n3 => bad (show p.arrays[k].hold < 0 from n3) fun ok => by have := ok.2.2.1; omega) (fun n3 => ⟨_, b4.cell rfl, cond_dec (fun n4 => bad (show p.arrays[k].hold > 2 from n4) fun ok => by have := ok.2.2.2; omega) (fun n4 => ?_)⟩)⟩)⟩)⟩
    refine Wk_self (hK _ _ hk' ⟨by rw [wnat hk' ha.bd], l2.trans l4', fun a hm => ?_⟩)
    rw [List.take_succ_eq_append_getElem hk'] at hm
    rcases List.mem_append.1 hm with g | g
    · exact hall a g
    · rw [List.mem_singleton.1 g]
      have n1 : ¬ p.arrays[k].size < 0 := n1
      have n2 : ¬ p.arrays[k].size > 4096 := n2
      have n3 : ¬ p.arrays[k].hold < 0 := n3
      have n4 : ¬ p.arrays[k].hold > 2 := n4
      exact ⟨by omega, by omega, by omega, by omega⟩
  · have : k = p.arrays.length := by have := ha.len; simp only at hge; omega
    subst this
    rw [List.take_of_length_le (Nat.le_refl _)] at hall
    have l02 := l1.trans l2
    have b2 := b1.le l2
    have hf2 := hf.le mono_func l02
    refine Cut_i (fun _ hh => h2 = hh ∧ 0 ≤ p.main ∧ p.main.toNat < p.funcs.length ∧ ∀ f, p.funcs[p.main.toNat]? = some f → f.params = []) (fun J hJ => ?_) ?_
    · refine ⟨_, b2.cell rfl, cond_dec (fun m0 => Wk_le l02 (h40 fun ok => by have := ok.main0; have m0 : p.main < 0 := m0; omega)) (fun m0 => ⟨_, b2.cell rfl, _, b2.cell rfl, cond_dec (fun m1 => Wk_le l02 (h40 fun ok => by have := ok.main0; have := ok.main1; have := hf.len; have m1 : p.main ≥ (sf.n : Int) := m1; omega)) (fun m1 => ⟨_, b2.cell rfl, _, b2.cell rfl, ?_⟩)⟩)⟩
      have m0 : ¬ p.main < 0 := m0
      have m1 : ¬ p.main ≥ (sf.n : Int) := m1
      have mlt : p.main.toNat < p.funcs.length := ix_lt hf (by omega) (by omega)
      refine hf2.ix (by omega) mlt fun a ⟨s, hs, hc⟩ => ⟨((p.funcs[p.main.toNat]'mlt).name, s, ()), hc, c_Params hs fun s' hs' => ⟨_, rfl, cond_dec (fun m2 => Wk_le l02 (h40 fun ok => ?_)) (fun m2 => Wk_self (hJ _ _ ⟨rfl, by omega, mlt, fun f hf' => ?_⟩))⟩⟩
      · have m2 : (s'.n : Int) > 0 := m2
        have e : s'.n = (p.funcs[p.main.toNat]'mlt).params.length := hs'.len
        rw [ok.main2 _ (List.getElem?_eq_getElem mlt)] at e
        simp at e; omega
      rw [List.getElem?_eq_getElem mlt] at hf'
      cases hf'
      have m2 : ¬ (s'.n : Int) > 0 := m2
      have e : s'.n = (p.funcs[p.main.toNat]'mlt).params.length := hs'.len
      exact List.eq_nil_of_length_eq_zero (by omega)
    · rintro _ _ ⟨rfl, m0, m1, m2⟩
      refine ⟨sf, b2.cell rfl, ?_⟩
      refine Lp_count p.funcs.length (fun k st hh => st = ((k : Int), ()) ∧ Le h2 hh ∧ ∀ f ∈ p.funcs.take k, funcOk p f) ⟨rfl, Le.refl _, by simp⟩ ?_
      rintro k _ h11 K1 hk ⟨rfl, l11, hfs⟩ hK1
      refine cond_dec (fun hlt => ?_) (fun hge => ?_)
      · have hk' : k < p.funcs.length := by have := hf.len; simp only at hlt; omega
        have hfm : p.funcs[k] ∈ p.funcs := List.getElem_mem hk'
        obtain ⟨few1, few2⟩ := hfew _ hfm
        refine elem_func hf2 l11 hk' rfl rfl fun sb hsb r6 h13 l13 l13' hr6 b6 => ?_
        generalize hfd : p.funcs[k] = f at *
        have l03 := l02.trans l13
        have B40 : ∀ {hh}, Le h13 hh → ¬ funcOk p f → Wk hh fun h' => R (iV 40) h' := fun l hn => Wk_le (l03.trans l) (h40 fun ok => hn (ok.funcs _ hfm))
        refine Cut_i (fun _ hh => h13 = hh ∧ f.blocks ≠ [] ∧ f.params.length ≤ 6 ∧ onceD f.blocks = true) (fun J hJ => ?_) ?_
        · refine ⟨_, b6.cell rfl, cond_eqi (fun g0 => B40 (Le.refl _) fun ok => ?_) (fun g0 => ⟨(f.name, sb, ()), b6.cells, c_Params (hsb.le mono_block l13) fun s' hs' => ⟨_, rfl, cond_dec (fun g1 => B40 (Le.refl _) fun ok => ?_) (fun g1 => ⟨(f.name, sb, ()), b6.cells, c_once (hsb.le mono_block l13) few2 ⟨_, rfl, cond_not (fun g2 => B40 (Le.refl _) fun ok => by have g2 : onceD f.blocks = false := g2; rw [ok.2.2.1] at g2; cases g2) (fun g2 => Wk_self (hJ _ _ ⟨rfl, ?_, ?_, g2⟩))⟩⟩)⟩⟩)⟩
          · have g0 : (sb.n : Int) = 0 := g0
            exact ok.1 (List.eq_nil_of_length_eq_zero (by have := hsb.len; omega))
          · have g1 : (s'.n : Int) > 6 := g1
            have e : s'.n = f.params.length := hs'.len
            have := ok.2.1
            omega
          · intro e
            have g0 : (sb.n : Int) ≠ 0 := g0
            have := hsb.len
            rw [e] at this
            simp at this; omega
          · have g1 : ¬ (s'.n : Int) > 6 := g1
            have e : s'.n = f.params.length := hs'.len
            omega
        · rintro _ _ ⟨rfl, g0, g1, g2⟩
          refine ⟨sb, b6.cell rfl, ?_⟩
          refine Lp_count f.blocks.length (fun j st hh => st = ((j : Int), ()) ∧ Le h13 hh ∧ ∀ b ∈ f.blocks.take j, blockOk p f b) ⟨rfl, Le.refl _, by simp⟩ ?_
          rintro j _ h15 K2 hj ⟨rfl, l15, hbs⟩ hK2
          refine cond_dec (fun hlt => ?_) (fun hge => ?_)
          · have hj' : j < f.blocks.length := by have := hsb.len; simp only at hlt; omega
            refine elem_block (hsb.le mono_block l13) l15 hj' rfl rfl fun q i w hq hi hw r8 h17 l17 l17' hr8 b8 => ?_
            have b1' := b2.le (l13.trans l17)
            have hw' : isEdges h17 w f.blocks[j].e.ways := hw.le mono_edge l17
            refine ⟨(f.name, sb, ()), (b6.le l17).cells, (f.blocks[j].e.kind, f.blocks[j].e.val, w, f.blocks[j].e.trap, ()), ?_, c_ends ((hsb.le mono_block l13).le mono_block l17) hw' ⟨_, rfl, cond_not (fun e1 => B40 l17 fun ok => by have e1 : endsD f.blocks f.blocks[j].e = false := e1; rw [(ok.2.2.2.1 _ (List.getElem_mem hj')).1] at e1; cases e1) (fun e1 => ⟨i, b8.cell rfl, ?_⟩)⟩⟩
            · refine cellsAt_of fun n v hv => ?_
              rw [Addr.add_add]
              refine b8.cell ?_
              rw [Nat.zero_add]
              match n, hv with
              | 0, hv => exact hv
              | 1, hv => exact hv
              | 2, hv => exact hv
              | 3, hv => exact hv
            · refine c_contains_ins (q := fun i => !rightD p i) (hi.le mono_ins l17) (fun i' p' K' hp' hK' => ?_) ⟨_, rfl, cond_b (fun e2 => B40 l17 fun ok => ?_) (fun e2 => ?_)⟩
              · exact c_wrong b1'.cells (ha.le mono_arr (l03.trans l17)) (hf.le mono_func (l03.trans l17)) hp' ⟨_, rfl, hK'⟩
              · obtain ⟨i', hi', e3⟩ := List.any_eq_true.1 e2
                rw [(ok.2.2.2.1 _ (List.getElem_mem hj')).2 i' hi'] at e3
                cases e3
              · refine Wk_self (hK2 _ _ hj' ⟨by rw [wnat hj' hsb.bd], l17, fun b hm => ?_⟩)
                rw [List.take_succ_eq_append_getElem hj'] at hm
                rcases List.mem_append.1 hm with g | g
                · exact hbs b g
                · rw [List.mem_singleton.1 g]
                  refine ⟨e1, fun i' hi' => ?_⟩
                  have := List.any_eq_false.1 e2 i' hi'
                  simpa using this
          · have : j = f.blocks.length := by have := hsb.len; simp only at hge; omega
            subst this
            rw [List.take_of_length_le (Nat.le_refl _)] at hbs
            have hto : ∀ b ∈ f.blocks, ∀ w ∈ b.e.ways, 1 ≤ w.to ∧ w.to.toNat < f.blocks.length := fun b hb w hw => wayOk_to (endsD_ways (hbs b hb).1 w hw)
            have hsb5 := (hsb.le mono_block l13).le mono_block l15
            refine ⟨(f.name, sb, ()), (b6.le l15).cells, c_known hsb5 (by omega) hto fun s' h23 A T l23 hA lenA hset hzero hfix ⟨ids, st, rf, run⟩ => ⟨_, rfl, ?_⟩⟩
            have lA := l15.trans l23
            refine Lp_count A.length (fun m st hh => st = ((m : Int), ()) ∧ h23 = hh ∧ ∀ (b : Nat) r bk, b < m → A[b]? = some (some r) → f.blocks[b]? = some bk → usedD (T r) bk = true) ⟨rfl, rfl, fun b _ _ hb => by omega⟩ ?_
            rintro m _ _ K3 hm ⟨rfl, rfl, hused⟩ hK3
            refine cond_dec (fun hlt => ?_) (fun hge => ?_)
            · have hm' : m < A.length := by have := hA.len; simp only at hlt; omega
              have hmb : m < f.blocks.length := by omega
              refine hA.ixn hm' fun a ha' => ⟨A[m], ha', ?_⟩
              cases hx : A[m] with
              | none =>
                refine cond_not (fun e => by cases e) (fun _ => Wk_self (hK3 _ _ hm' ⟨by rw [wnat hm' hA.bd], rfl, fun b r bk hb hbr hbk => ?_⟩))
                rcases Nat.lt_or_ge b m with g | g
                · exact hused b r bk g hbr hbk
                · have : b = m := by omega
                  subst this
                  rw [List.getElem?_eq_getElem hm', hx] at hbr
                  cases hbr
              | some r =>
                have hAm : A[m]? = some (some r) := by rw [List.getElem?_eq_getElem hm', hx]
                obtain ⟨o, ho, hso⟩ := hset m r hAm
                refine cond_not (fun _ => ⟨sb, (b6.le lA).cell rfl, ?_⟩) (fun e => by cases e)
                refine (hsb5.le mono_block l23).ixn hmb fun a2 ⟨q, i, w, hq, hi, hw, hc⟩ => ⟨(q, i, _, _, w, _, ()), hc, c_used ho hso hq hi hw ⟨_, rfl, cond_not (fun hu => B40 lA fun ok => ?_) (fun hu => Wk_self (hK3 _ _ hm' ⟨by rw [wnat hm' hA.bd], rfl, fun b r' bk hb hbr hbk => ?_⟩))⟩⟩
                · obtain ⟨⟨st', run', hu'⟩, _⟩ := ok.2.2.2.2
                  cases run.det run'
                  obtain ⟨i3, e1, e2, e3⟩ := rf.isS hAm
                  have := hu' m i3 _ e1 (List.getElem?_eq_getElem hmb)
                  rw [e3] at this
                  have hu : usedD (T r) f.blocks[m] = false := hu
                  rw [hu] at this; cases this
                rcases Nat.lt_or_ge b m with g | g
                · exact hused b r' bk g hbr hbk
                · have : b = m := by omega
                  subst this
                  rw [hAm] at hbr
                  rw [List.getElem?_eq_getElem hmb] at hbk
                  cases hbr
                  cases hbk
                  exact hu
            · have : m = A.length := by have := hA.len; simp only at hge; omega
              subst this
              refine Wk_self (hK1 _ _ hk' ⟨by rw [wnat hk' hf.bd], (l11.trans l13').trans lA, fun f' hm => ?_⟩)
              rw [List.take_succ_eq_append_getElem hk'] at hm
              rcases List.mem_append.1 hm with g | g
              · exact hfs f' g
              · rw [List.mem_singleton.1 g, hfd]
                refine ⟨g0, g1, g2, hbs, ⟨st, run, fun b h bk hb hbk => ?_⟩, A, T, lenA, hzero, hfix, fun b r bk hb hbk => hused b r bk (List.getElem?_eq_some_iff.1 hb).1 hb hbk⟩
                have hlt := rf.bd b h hb
                have hi := List.getElem?_eq_getElem hlt
                have hA' : A[b]? = some (some ids[h]) := by rw [rf.get b, hb]; simp [List.getD_eq_getElem?_getD, hi]
                rw [rf.t h _ hi]
                exact hused b _ bk (List.getElem?_eq_some_iff.1 hA').1 hA' hbk
      · have : k = p.funcs.length := by have := hf.len; simp only at hge; omega
        subst this
        rw [List.take_of_length_le (Nat.le_refl _)] at hfs
        exact Wk_le (l02.trans l11) (hR 0 (.inl rfl) ⟨fun _ => ⟨hall, m0, m1, m2, hfs⟩, fun _ => rfl⟩)
end Go.Proofs.Ytapdnglpchejlaa

/- What functions of the program ask of a view of memory: printed by shal.py. -/
namespace Go.Proofs.Ytapdnglpchejlaa
open Go Go.VL
set_option maxRecDepth 100000
/- palings/palingslaw07.Few -/
def an14 : An := (.two .nil (.cut [] (.two .nil (.two (.two .nil .nil) .nil)) (.two (.two .nil (.one (.loop [(24, (.one (.int .i64)))] (.two .nil (.two (.two .nil .nil) (.two (.one (.two .nil (.cut [] (.two .nil (.two (.two .nil .nil) .nil)) (.two .nil (.one (.loop [(41, (.one (.int .i64)))] (.two .nil (.two (.two .nil .nil) (.two (.one (.two .nil (.cut [] (.two .nil (.two (.two .nil .nil) .nil)) (.two (.two .nil (.one (.loop [(65, (.one (.int .i64)))] (.two .nil (.two (.two .nil .nil) (.two (.one (.two .nil (.two .nil (.two (.two .nil .nil) .nil)))) .nil)))))) (.two .nil (.one (.loop [(78, (.one (.int .i64)))] (.two .nil (.two (.two .nil .nil) (.two (.one (.two .nil (.two .nil (.two (.two .nil .nil) .nil)))) .nil)))))))))) .nil))))))))) .nil)))))) (.two .nil .nil))))
def S14 (p0_0 : Sl) (p0_1 : Sl) (p0_2 : Int) (h : V) (R : Value → V → Prop) : Prop :=
  New h (.cells #[(.slice p0_0.a p0_0.n p0_0.c), (.slice p0_1.a p0_1.n p0_1.c), (.int .i64 p0_2)] 25) fun r1 h1 =>
  Cut (σ := (Unit)) (fun _ h2 =>
  Ld h2 (Addr.add (⟨r1, 0, none⟩) 1) .sl fun (x22 : Sl) =>
  Lp (σ := (Int × Unit)) (fun K s_1 h3 =>
  cond (decide (s_1.1 < (((x22.n : Nat) : Int))))
  (Ix x22 s_1.1 2 fun a26 =>
  LdA h3 a26 [.str, .sl] fun (x27 : ((ByteArray) × (Sl) × Unit)) =>
  New h3 (.cells #[(.string (⟨#[]⟩)), (.slice none 0 0)] 63) fun r4 h4 =>
  StL h4 (⟨r4, 0, none⟩) 0 [(.string x27.1), (.slice x27.2.1.a x27.2.1.n x27.2.1.c)] fun h5 =>
  Cut (σ := (Unit)) (fun _ h6 =>
  Ld h6 (Addr.add (⟨r4, 0, none⟩) 1) .sl fun (x39 : Sl) =>
  Lp (σ := (Int × Unit)) (fun K_1 s_3 h7 =>
  cond (decide (s_3.1 < (((x39.n : Nat) : Int))))
  (Ix x39 s_3.1 6 fun a43 =>
  LdA h7 a43 [.sl, .sl, (.int .i64), (.int .i64), .sl, (.int .i64)] fun (x44 : ((Sl) × (Sl) × (Int) × (Int) × (Sl) × (Int) × Unit)) =>
  New h7 (.cells #[(.slice none 0 0), (.slice none 0 0), (.int .i64 ((0 : Int))), (.int .i64 ((0 : Int))), (.slice none 0 0), (.int .i64 ((0 : Int)))] 60) fun r6 h8 =>
  StL h8 (⟨r6, 0, none⟩) 0 [(.slice x44.1.a x44.1.n x44.1.c), (.slice x44.2.1.a x44.2.1.n x44.2.1.c), (.int .i64 x44.2.2.1), (.int .i64 x44.2.2.2.1), (.slice x44.2.2.2.2.1.a x44.2.2.2.2.1.n x44.2.2.2.2.1.c), (.int .i64 x44.2.2.2.2.2.1)] fun h9 =>
  Cut (σ := (Unit)) (fun _ h10 =>
  Ld h10 (Addr.add (⟨r6, 0, none⟩) 1) .sl fun (x63 : Sl) =>
  Lp (σ := (Int × Unit)) (fun K_2 s_5 h11 =>
  cond (decide (s_5.1 < (((x63.n : Nat) : Int))))
  (Ix x63 s_5.1 7 fun a67 =>
  LdA h11 a67 [(.int .i64), (.int .i64), .sl, (.int .i64), (.int .i64), (.int .i64), (.int .i64)] fun (x68 : ((Int) × (Int) × (Sl) × (Int) × (Int) × (Int) × (Int) × Unit)) =>
  New h11 (.cells #[(.int .i64 ((0 : Int))), (.int .i64 ((0 : Int))), (.slice none 0 0), (.int .i64 ((0 : Int))), (.int .i64 ((0 : Int))), (.int .i64 ((0 : Int))), (.int .i64 ((0 : Int)))] 51) fun r8 h12 =>
  StL h12 (⟨r8, 0, none⟩) 0 [(.int .i64 x68.1), (.int .i64 x68.2.1), (.slice x68.2.2.1.a x68.2.2.1.n x68.2.2.1.c), (.int .i64 x68.2.2.2.1), (.int .i64 x68.2.2.2.2.1), (.int .i64 x68.2.2.2.2.2.1), (.int .i64 x68.2.2.2.2.2.2.1)] fun h13 =>
  Ld h13 (Addr.add (⟨r8, 0, none⟩) 2) .sl fun (x70 : Sl) =>
  cond (decide ((((x70.n : Nat) : Int)) > ((20 : Int))))
  (Wk h13 fun h14 => R (.bool false) h14)
  (Wk h13 fun h15 => K_2 (IntKind.wrap .i64 (s_5.1 + ((1 : Int))), ()) h15))
  (Ld h11 (Addr.add (Addr.add (⟨r6, 0, none⟩) 2) 2) .sl fun (x76 : Sl) =>
  Lp (σ := (Int × Unit)) (fun K_3 s_6 h16 =>
  cond (decide (s_6.1 < (((x76.n : Nat) : Int))))
  (Ix x76 s_6.1 2 fun a80 =>
  LdA h16 a80 [(.int .i64), .sl] fun (x81 : ((Int) × (Sl) × Unit)) =>
  New h16 (.cells #[(.int .i64 ((0 : Int))), (.slice none 0 0)] 55) fun r10 h17 =>
  StL h17 (⟨r10, 0, none⟩) 0 [(.int .i64 x81.1), (.slice x81.2.1.a x81.2.1.n x81.2.1.c)] fun h18 =>
  Ld h18 (Addr.add (⟨r10, 0, none⟩) 1) .sl fun (x83 : Sl) =>
  cond (decide ((((x83.n : Nat) : Int)) > ((20 : Int))))
  (Wk h18 fun h19 => R (.bool false) h19)
  (Wk h18 fun h20 => K_3 (IntKind.wrap .i64 (s_6.1 + ((1 : Int))), ()) h20))
  (Wk h16 fun h21 => K_1 (IntKind.wrap .i64 (s_3.1 + ((1 : Int))), ()) h21))
  ((0 : Int), ()) h11))
  ((0 : Int), ()) h10) fun J_2 =>
  Ld h9 (Addr.add (⟨r6, 0, none⟩) 0) .sl fun (x46 : Sl) =>
  cond (decide ((((x46.n : Nat) : Int)) > ((20 : Int))))
  (Wk h9 fun h22 => R (.bool false) h22)
  (Ld h9 (Addr.add (⟨r6, 0, none⟩) 1) .sl fun (x51 : Sl) =>
  cond (decide ((((x51.n : Nat) : Int)) > ((40 : Int))))
  (Wk h9 fun h23 => R (.bool false) h23)
  (Ld h9 (Addr.add (Addr.add (⟨r6, 0, none⟩) 2) 2) .sl fun (x58 : Sl) =>
  cond (decide ((((x58.n : Nat) : Int)) > ((5 : Int))))
  (Wk h9 fun h24 => R (.bool false) h24)
  (Wk h9 fun h25 => J_2 (()) h25))))
  (Wk h7 fun h26 => K (IntKind.wrap .i64 (s_1.1 + ((1 : Int))), ()) h26))
  ((0 : Int), ()) h6) fun J_1 =>
  Ld h5 (Addr.add (⟨r4, 0, none⟩) 1) .sl fun (x29 : Sl) =>
  cond (decide ((((x29.n : Nat) : Int)) > ((30 : Int))))
  (Wk h5 fun h27 => R (.bool false) h27)
  (Ld h5 (Addr.add (⟨r4, 0, none⟩) 0) .str fun (x34 : ByteArray) =>
  cond (decide ((((ByteArray.size x34 : Nat) : Int)) > ((40 : Int))))
  (Wk h5 fun h28 => R (.bool false) h28)
  (Wk h5 fun h29 => J_1 (()) h29)))
  (Wk h3 fun h30 => R (.bool true) h30))
  ((0 : Int), ()) h2) fun J =>
  Ld h1 (Addr.add (⟨r1, 0, none⟩) 0) .sl fun (x12 : Sl) =>
  cond (decide ((((x12.n : Nat) : Int)) > ((10 : Int))))
  (Wk h1 fun h31 => R (.bool false) h31)
  (Ld h1 (Addr.add (⟨r1, 0, none⟩) 1) .sl fun (x17 : Sl) =>
  cond (decide ((((x17.n : Nat) : Int)) > ((5 : Int))))
  (Wk h1 fun h32 => R (.bool false) h32)
  (Wk h1 fun h33 => J (()) h33))
theorem S14_eq (p0_0 : Sl) (p0_1 : Sl) (p0_2 : Int) (h : V) (R : Value → V → Prop) : ABody Try.prog an14 Try.f14 [(.agg ⟨[(.slice p0_0.a p0_0.n p0_0.c), (.slice p0_1.a p0_1.n p0_1.c), (.int .i64 p0_2)]⟩)] h R = S14 p0_0 p0_1 p0_2 h R := by kernel_rfl
theorem S14_ok (p0_0 : Sl) (p0_1 : Sl) (p0_2 : Int) (h : V) (R : Value → V → Prop) (hk : S14 p0_0 p0_1 p0_2 h R) : ACalls Try.prog 14 [(.agg ⟨[(.slice p0_0.a p0_0.n p0_0.c), (.slice p0_1.a p0_1.n p0_1.c), (.int .i64 p0_2)]⟩)] h R :=
  ABody_sound mixed Try.func14 Try.call14 (by kernel_rfl) (by kernel_rfl) (an := an14) (by rw [S14_eq]; exact hk)

end Go.Proofs.Ytapdnglpchejlaa

/- Contracts: Few. -/
namespace Go.Proofs.Ytapdnglpchejlaa
open Go Go.VL

structure FewIns (i : InsD) : Prop where
  args : i.args.length ≤ 20
structure FewBlock (b : BlockD) : Prop where
  params : b.params.length ≤ 20
  ins : b.ins.length ≤ 40
  ways : b.e.ways.length ≤ 5
  args : ∀ i ∈ b.ins, i.args.length ≤ 20
  wargs : ∀ w ∈ b.e.ways, w.args.length ≤ 20
structure FewFunc (f : FuncD) : Prop where
  blocks : f.blocks.length ≤ 30
  name : f.name.size ≤ 40
  all : ∀ b ∈ f.blocks, FewBlock b
structure FewOk (p : ProgD) : Prop where
  arrays : p.arrays.length ≤ 10
  funcs : p.funcs.length ≤ 5
  all : ∀ f ∈ p.funcs, FewFunc f

theorem mem_take_succ {α : Type} {l : List α} {k : Nat} {P : α → Prop} (hk : k < l.length) (h : ∀ x ∈ l.take k, P x) (hx : P l[k]) : ∀ x ∈ l.take (k + 1), P x := by
  intro x hm
  rw [List.take_succ_eq_append_getElem hk] at hm
  rcases List.mem_append.1 hm with g | g
  · exact h x g
  · rw [List.mem_singleton.1 g]; exact hx

theorem c_Few {h : V} {p : ProgD} {sa sf : Sl} {R : Value → V → Prop} (ha : isArrs h sa p.arrays) (hf : isFuncs h sf p.funcs) (hR : ∀ b : Bool, (b = true → FewOk p) → R (.bool b) h) : ACalls Try.prog 14 [.agg ⟨[sV sa, sV sf, iV p.main]⟩] h R := by
  have hF : R (.bool false) h := hR false (fun e => by cases e)
  refine S14_ok _ _ _ _ _ (New_box fun r1 h1 hr1 l1 b1 => ?_)
  refine Cut_i (fun _ hh => h1 = hh ∧ p.arrays.length ≤ 10 ∧ p.funcs.length ≤ 5) (fun J hJ => ?_) ?_
  · refine ⟨sa, b1.cell rfl, cond_dec (fun _ => Wk_le l1 hF) (fun g1 => ⟨sf, b1.cell rfl, cond_dec (fun _ => Wk_le l1 hF) (fun g2 => Wk_self (hJ _ _ ⟨rfl, ?_, ?_⟩))⟩)⟩
    · have g1 : ¬ (sa.n : Int) > 10 := g1
      have := ha.len; omega
    · have g2 : ¬ (sf.n : Int) > 5 := g2
      have := hf.len; omega
  · rintro _ _ ⟨rfl, g1, g2⟩
    refine ⟨sf, b1.cell rfl, ?_⟩
    refine Lp_count p.funcs.length (fun k st hh => st = ((k : Int), ()) ∧ Le h1 hh ∧ ∀ f ∈ p.funcs.take k, FewFunc f) ⟨rfl, Le.refl _, by simp⟩ ?_
    rintro k _ h3 K hk ⟨rfl, l3, hall⟩ hK
    refine cond_dec (fun hlt => ?_) (fun hge => ?_)
    · have hk' : k < p.funcs.length := by have := hf.len; simp only at hlt; omega
      refine elem_func hf (l1.trans l3) hk' rfl rfl fun sb hsb r4 h5 l5 l5' hr4 b4 => ?_
      refine Cut_i (fun _ hh => h5 = hh ∧ p.funcs[k].blocks.length ≤ 30 ∧ p.funcs[k].name.size ≤ 40) (fun J hJ => ?_) ?_
      · refine ⟨sb, b4.cell rfl, cond_dec (fun _ => Wk_le l5 hF) (fun g3 => ⟨p.funcs[k].name, b4.cell rfl, cond_dec (fun _ => Wk_le l5 hF) (fun g4 => Wk_self (hJ _ _ ⟨rfl, ?_, ?_⟩))⟩)⟩
        · have g3 : ¬ (sb.n : Int) > 30 := g3
          have := hsb.len; omega
        · have g4 : ¬ ((p.funcs[k].name.size : Nat) : Int) > 40 := g4
          omega
      · rintro _ _ ⟨rfl, g3, g4⟩
        refine ⟨sb, b4.cell rfl, ?_⟩
        refine Lp_count p.funcs[k].blocks.length (fun j st hh => st = ((j : Int), ()) ∧ Le h5 hh ∧ ∀ b ∈ p.funcs[k].blocks.take j, FewBlock b) ⟨rfl, Le.refl _, by simp⟩ ?_
        rintro j _ h7 K1 hj ⟨rfl, l7, hbs⟩ hK1
        refine cond_dec (fun hlt => ?_) (fun hge => ?_)
        · have hj' : j < p.funcs[k].blocks.length := by have := hsb.len; simp only at hlt; omega
          refine elem_block hsb (l5.trans l7) hj' rfl rfl fun q i w hq hi hw r6 h9 l9 l9' hr6 b6 => ?_
          refine Cut_i (fun _ hh => h9 = hh ∧ p.funcs[k].blocks[j].params.length ≤ 20 ∧ p.funcs[k].blocks[j].ins.length ≤ 40 ∧ p.funcs[k].blocks[j].e.ways.length ≤ 5) (fun J hJ => ?_) ?_
          · refine ⟨q, b6.cell rfl, cond_dec (fun _ => Wk_le l9 hF) (fun g5 => ⟨i, b6.cell rfl, cond_dec (fun _ => Wk_le l9 hF) (fun g6 => ⟨w, by rw [Addr.add_add]; exact b6.cell rfl, cond_dec (fun _ => Wk_le l9 hF) (fun g7 => Wk_self (hJ _ _ ⟨rfl, ?_, ?_, ?_⟩))⟩)⟩)⟩
            · have g5 : ¬ (q.n : Int) > 20 := g5
              have := hq.len; omega
            · have g6 : ¬ (i.n : Int) > 40 := g6
              have := hi.len; omega
            · have g7 : ¬ (w.n : Int) > 5 := g7
              have := hw.len; omega
          · rintro _ _ ⟨rfl, g5, g6, g7⟩
            refine ⟨i, b6.cell rfl, ?_⟩
            refine Lp_count p.funcs[k].blocks[j].ins.length (fun m st hh => st = ((m : Int), ()) ∧ Le h9 hh ∧ ∀ i ∈ p.funcs[k].blocks[j].ins.take m, i.args.length ≤ 20) ⟨rfl, Le.refl _, by simp⟩ ?_
            rintro m _ h11 K2 hm ⟨rfl, l11, his⟩ hK2
            refine cond_dec (fun hlt => ?_) (fun hge => ?_)
            · have hm' : m < p.funcs[k].blocks[j].ins.length := by have := hi.len; simp only at hlt; omega
              refine elem_ins hi (l9.trans l11) hm' rfl rfl fun z hz r8 h13 l13 l13' hr8 b8 => ?_
              refine ⟨z, b8.cell rfl, cond_dec (fun _ => Wk_le l13 hF) (fun g8 => Wk_self (hK2 _ _ hm' ⟨by rw [wnat hm' hi.bd], l11.trans l13', mem_take_succ hm' his ?_⟩))⟩
              have g8 : ¬ (z.n : Int) > 20 := g8
              have := hz.len; omega
            · have : m = p.funcs[k].blocks[j].ins.length := by have := hi.len; simp only at hge; omega
              subst this
              rw [List.take_of_length_le (Nat.le_refl _)] at his
              refine ⟨w, by rw [Addr.add_add]; exact (b6.le l11).cell rfl, ?_⟩
              refine Lp_count p.funcs[k].blocks[j].e.ways.length (fun m st hh => st = ((m : Int), ()) ∧ Le h11 hh ∧ ∀ i ∈ p.funcs[k].blocks[j].e.ways.take m, i.args.length ≤ 20) ⟨rfl, Le.refl _, by simp⟩ ?_
              rintro n _ h16 K3 hn ⟨rfl, l16, hws⟩ hK3
              refine cond_dec (fun hlt => ?_) (fun hge => ?_)
              · have hn' : n < p.funcs[k].blocks[j].e.ways.length := by have := hw.len; simp only at hlt; omega
                refine elem_edge hw ((l9.trans l11).trans l16) hn' rfl rfl fun z hz r10 h18 l18 l18' hr10 b10 => ?_
                refine ⟨z, b10.cell rfl, cond_dec (fun _ => Wk_le l18 hF) (fun g8 => Wk_self (hK3 _ _ hn' ⟨by rw [wnat hn' hw.bd], l16.trans l18', mem_take_succ hn' hws ?_⟩))⟩
                have g8 : ¬ (z.n : Int) > 20 := g8
                have := hz.len; omega
              · have : n = p.funcs[k].blocks[j].e.ways.length := by have := hw.len; simp only at hge; omega
                subst this
                rw [List.take_of_length_le (Nat.le_refl _)] at hws
                exact Wk_self (hK1 _ _ hj' ⟨by rw [wnat hj' hsb.bd], ((l7.trans l9').trans l11).trans l16, mem_take_succ hj' hbs ⟨g5, g6, g7, his, hws⟩⟩)
        · have : j = p.funcs[k].blocks.length := by have := hsb.len; simp only at hge; omega
          subst this
          rw [List.take_of_length_le (Nat.le_refl _)] at hbs
          exact Wk_self (hK _ _ hk' ⟨by rw [wnat hk' hf.bd], (l3.trans l5').trans l7, mem_take_succ hk' hall ⟨g3, g4, hbs⟩⟩)
    · have : k = p.funcs.length := by have := hf.len; simp only at hge; omega
      subst this
      rw [List.take_of_length_le (Nat.le_refl _)] at hall
      exact Wk_le (l1.trans l3) (hR true fun _ => ⟨g1, g2, hall⟩)
end Go.Proofs.Ytapdnglpchejlaa

/- What a row reads of a program, as views have it. -/
namespace Go.Proofs.Ytapdnglpchejlaa
open Go Go.VL

noncomputable def fieldsT (t : TypeId) : Array Field := match Try.prog.underlying t with
  | some (.struct fs) => fs
  | _ => #[]
noncomputable def fieldK (t : TypeId) (j : Nat) : Option (TypeId × Nat) := ((fieldsT t)[j]?).map fun f => (f.type, f.offset)
section
variable {H : Type} {enc : TypeId × Value → H} {w : World} {base : Nat} {spare : Nat → Bool} {held : Bool}
abbrev RdT (enc : TypeId × Value → H) (w : World) (base : Nat) (spare : Nat → Bool) (held : Bool) (t : TypeId) (cs : List Value) : Prop := Rd enc Try.prog w base spare held t cs
theorem rd_fieldT {t u : TypeId} {j o c : Nat} {cs : List Value} (ht : Try.prog.underlying t = some (.struct (fieldsT t))) (hj : fieldK t j = some (u, o)) (hc : Try.prog.cellsOf u = c) (h : RdT enc w base spare held t cs) : RdT enc w base spare held u ((cs.drop o).take c) := by
  obtain ⟨_, h2⟩ := rd_field ht h
  obtain ⟨f, hf, e⟩ := Option.map_eq_some_iff.1 hj
  have := h2 j f hf
  cases e
  rw [hc] at this
  exact this
theorem len_T {t : TypeId} {n : Nat} {cs : List Value} (ht : Try.prog.underlying t = some (.struct (fieldsT t))) (hn : Try.prog.cellsOf t = n) (h : RdT enc w base spare held t cs) : cs.length = n := hn ▸ (rd_field ht h).1
theorem u3 : Try.prog.underlying 3 = some (.int .i64) := by kernel_rfl
theorem u2 : Try.prog.underlying 2 = some (.int .i64) := by kernel_rfl
theorem u49 : Try.prog.underlying 53 = some (.int .i64) := by kernel_rfl
theorem u51 : Try.prog.underlying 30 = some (.int .i64) := by kernel_rfl
theorem u57 : Try.prog.underlying 47 = some (.int .i64) := by kernel_rfl
theorem u58 : Try.prog.underlying 49 = some (.int .i64) := by kernel_rfl
theorem u64 : Try.prog.underlying 84 = some (.int .i64) := by kernel_rfl
theorem u9 : Try.prog.underlying 9 = some .string := by kernel_rfl
theorem u47 : Try.prog.underlying 48 = some (.slice 3) := by kernel_rfl
theorem u48 : Try.prog.underlying 52 = some (.slice 51) := by kernel_rfl
theorem u50 : Try.prog.underlying 56 = some (.slice 55) := by kernel_rfl
theorem u44 : Try.prog.underlying 61 = some (.slice 60) := by kernel_rfl
theorem u22 : Try.prog.underlying 22 = some (.slice 86) := by kernel_rfl
theorem u23 : Try.prog.underlying 23 = some (.slice 63) := by kernel_rfl
theorem u26 : Try.prog.underlying 67 = some (.slice 73) := by kernel_rfl
theorem u29 : Try.prog.underlying 73 = some (.map 3 4) := by kernel_rfl
theorem u74 : Try.prog.underlying 55 = some (.struct (fieldsT 55)) := by kernel_rfl
theorem u60 : Try.prog.underlying 51 = some (.struct (fieldsT 51)) := by kernel_rfl
theorem u55 : Try.prog.underlying 60 = some (.struct (fieldsT 60)) := by kernel_rfl
theorem u53 : Try.prog.underlying 58 = some (.struct (fieldsT 58)) := by kernel_rfl
theorem u46 : Try.prog.underlying 63 = some (.struct (fieldsT 63)) := by kernel_rfl
theorem u66 : Try.prog.underlying 86 = some (.struct (fieldsT 86)) := by kernel_rfl
theorem u25 : Try.prog.underlying 25 = some (.struct (fieldsT 25)) := by kernel_rfl

theorem rd_one {k : IntKind} {t : TypeId} {v : Value} (ht : Try.prog.underlying t = some (.int k)) (h : RdT enc w base spare held t [v]) : ∃ n, v = .int k n := by
  obtain ⟨n, e, _⟩ := rd_int ht h
  exact ⟨n, by cases e; rfl⟩
theorem rd_ints {cs : List Value} (h : RdT enc w base spare held 48 cs) : ∃ (s : Sl) (xs : List Int), cs = [sV s] ∧ isInts (V.of w) s xs :=
  rd_slice u47 (by kernel_rfl) (fun a cs' hat hl hr => by
    obtain ⟨n, rfl, _⟩ := rd_int u3 hr
    exact ⟨n, by have := (rd_at hat hl).1; rwa [Addr.add_z] at this⟩) h
theorem rd_edges {cs : List Value} (h : RdT enc w base spare held 56 cs) : ∃ (s : Sl) (xs : List EdgeD), cs = [sV s] ∧ isEdges (V.of w) s xs :=
  rd_slice u50 (by kernel_rfl) (fun a cs' hat hl hr => by
    have f0 := rd_fieldT (j := 0) (o := 0) u74 (by kernel_rfl) (by kernel_rfl : Try.prog.cellsOf 3 = 1) hr
    have f1 := rd_fieldT (j := 1) (o := 1) u74 (by kernel_rfl) (by kernel_rfl : Try.prog.cellsOf 48 = 1) hr
    have hc := rd_at hat hl
    match cs', hl with
    | [x, y], _ =>
      obtain ⟨n, rfl⟩ := rd_one u3 f0
      obtain ⟨s, xs, e, hs⟩ := rd_ints f1
      cases e
      exact ⟨⟨n, xs⟩, s, hs, hc⟩) h
theorem rd_inss {cs : List Value} (h : RdT enc w base spare held 52 cs) : ∃ (s : Sl) (xs : List InsD), cs = [sV s] ∧ isInss (V.of w) s xs :=
  rd_slice u48 (by kernel_rfl) (fun a cs' hat hl hr => by
    have f0 := rd_fieldT (j := 0) (o := 0) u60 (by kernel_rfl) (by kernel_rfl : Try.prog.cellsOf 47 = 1) hr
    have f1 := rd_fieldT (j := 1) (o := 1) u60 (by kernel_rfl) (by kernel_rfl : Try.prog.cellsOf 3 = 1) hr
    have f2 := rd_fieldT (j := 2) (o := 2) u60 (by kernel_rfl) (by kernel_rfl : Try.prog.cellsOf 48 = 1) hr
    have f3 := rd_fieldT (j := 3) (o := 3) u60 (by kernel_rfl) (by kernel_rfl : Try.prog.cellsOf 2 = 1) hr
    have f4 := rd_fieldT (j := 4) (o := 4) u60 (by kernel_rfl) (by kernel_rfl : Try.prog.cellsOf 49 = 1) hr
    have f5 := rd_fieldT (j := 5) (o := 5) u60 (by kernel_rfl) (by kernel_rfl : Try.prog.cellsOf 3 = 1) hr
    have f6 := rd_fieldT (j := 6) (o := 6) u60 (by kernel_rfl) (by kernel_rfl : Try.prog.cellsOf 3 = 1) hr
    have hc := rd_at hat hl
    match cs', hl with
    | [x0, x1, x2, x3, x4, x5, x6], _ =>
      obtain ⟨n0, rfl⟩ := rd_one u57 f0
      obtain ⟨n1, rfl⟩ := rd_one u3 f1
      obtain ⟨s, xs, e, hs⟩ := rd_ints f2
      obtain ⟨n3, rfl⟩ := rd_one u2 f3
      obtain ⟨n4, rfl⟩ := rd_one u58 f4
      obtain ⟨n5, rfl⟩ := rd_one u3 f5
      obtain ⟨n6, rfl⟩ := rd_one u3 f6
      cases e
      exact ⟨⟨n0, n1, xs, n3, n4, n5, n6⟩, s, hs, hc⟩) h
theorem rd_blocks {cs : List Value} (h : RdT enc w base spare held 61 cs) : ∃ (s : Sl) (xs : List BlockD), cs = [sV s] ∧ isBlocks (V.of w) s xs :=
  rd_slice u44 (by kernel_rfl) (fun a cs' hat hl hr => by
    have f0 := rd_fieldT (j := 0) (o := 0) u55 (by kernel_rfl) (by kernel_rfl : Try.prog.cellsOf 48 = 1) hr
    have f1 := rd_fieldT (j := 1) (o := 1) u55 (by kernel_rfl) (by kernel_rfl : Try.prog.cellsOf 52 = 1) hr
    have f2 := rd_fieldT (j := 2) (o := 2) u55 (by kernel_rfl) (by kernel_rfl : Try.prog.cellsOf 58 = 4) hr
    have hc := rd_at hat hl
    match cs', hl with
    | [x0, x1, x2, x3, x4, x5], _ =>
      obtain ⟨s0, ps, e0, hs0⟩ := rd_ints f0
      obtain ⟨s1, is, e1, hs1⟩ := rd_inss f1
      have g0 := rd_fieldT (j := 0) (o := 0) u53 (by kernel_rfl) (by kernel_rfl : Try.prog.cellsOf 53 = 1) f2
      have g1 := rd_fieldT (j := 1) (o := 1) u53 (by kernel_rfl) (by kernel_rfl : Try.prog.cellsOf 3 = 1) f2
      have g2 := rd_fieldT (j := 2) (o := 2) u53 (by kernel_rfl) (by kernel_rfl : Try.prog.cellsOf 56 = 1) f2
      have g3 := rd_fieldT (j := 3) (o := 3) u53 (by kernel_rfl) (by kernel_rfl : Try.prog.cellsOf 30 = 1) f2
      obtain ⟨n0, rfl⟩ := rd_one u49 g0
      obtain ⟨n1, rfl⟩ := rd_one u3 g1
      obtain ⟨s2, ws, e2, hs2⟩ := rd_edges g2
      obtain ⟨n3, rfl⟩ := rd_one u51 g3
      cases e0
      cases e1
      cases e2
      exact ⟨⟨ps, is, ⟨n0, n1, ws, n3⟩⟩, s0, s1, s2, hs0, hs1, hs2, hc⟩) h
theorem rd_funcs {cs : List Value} (h : RdT enc w base spare held 23 cs) : ∃ (s : Sl) (xs : List FuncD), cs = [sV s] ∧ isFuncs (V.of w) s xs :=
  rd_slice u23 (by kernel_rfl) (fun a cs' hat hl hr => by
    have f0 := rd_fieldT (j := 0) (o := 0) u46 (by kernel_rfl) (by kernel_rfl : Try.prog.cellsOf 9 = 1) hr
    have f1 := rd_fieldT (j := 1) (o := 1) u46 (by kernel_rfl) (by kernel_rfl : Try.prog.cellsOf 61 = 1) hr
    have hc := rd_at hat hl
    match cs', hl with
    | [x, y], _ =>
      obtain ⟨n, e0⟩ := rd_string u9 f0
      obtain ⟨s, xs, e, hs⟩ := rd_blocks f1
      cases e0
      cases e
      exact ⟨⟨n, xs⟩, s, hs, hc⟩) h
theorem rd_arrs {cs : List Value} (h : RdT enc w base spare held 22 cs) : ∃ (s : Sl) (xs : List ArrD), cs = [sV s] ∧ isArrs (V.of w) s xs :=
  rd_slice u22 (by kernel_rfl) (fun a cs' hat hl hr => by
    have f0 := rd_fieldT (j := 0) (o := 0) u66 (by kernel_rfl) (by kernel_rfl : Try.prog.cellsOf 9 = 1) hr
    have f1 := rd_fieldT (j := 1) (o := 1) u66 (by kernel_rfl) (by kernel_rfl : Try.prog.cellsOf 84 = 1) hr
    have f2 := rd_fieldT (j := 2) (o := 2) u66 (by kernel_rfl) (by kernel_rfl : Try.prog.cellsOf 3 = 1) hr
    have hc := rd_at hat hl
    match cs', hl with
    | [x, y, z], _ =>
      obtain ⟨n, e0⟩ := rd_string u9 f0
      obtain ⟨n1, rfl⟩ := rd_one u64 f1
      obtain ⟨n2, rfl⟩ := rd_one u3 f2
      cases e0
      exact ⟨⟨n, n1, n2⟩, hc⟩) h
theorem rd_prog {cs : List Value} (h : RdT enc w base spare held 25 cs) : ∃ (sa sf : Sl) (p : ProgD), cs = [sV sa, sV sf, iV p.main] ∧ isArrs (V.of w) sa p.arrays ∧ isFuncs (V.of w) sf p.funcs := by
  have f0 := rd_fieldT (j := 0) (o := 0) u25 (by kernel_rfl) (by kernel_rfl : Try.prog.cellsOf 22 = 1) h
  have f1 := rd_fieldT (j := 1) (o := 1) u25 (by kernel_rfl) (by kernel_rfl : Try.prog.cellsOf 23 = 1) h
  have f2 := rd_fieldT (j := 2) (o := 2) u25 (by kernel_rfl) (by kernel_rfl : Try.prog.cellsOf 3 = 1) h
  have hl := len_T u25 (by kernel_rfl : Try.prog.cellsOf 25 = 3) h
  match cs, hl with
  | [x, y, z], _ =>
    obtain ⟨sa, as_, e0, ha⟩ := rd_arrs f0
    obtain ⟨sf, fs, e1, hf⟩ := rd_funcs f1
    obtain ⟨n, rfl⟩ := rd_one u3 f2
    cases e0
    cases e1
    exact ⟨sa, sf, ⟨as_, fs, n⟩, rfl, ha, hf⟩
end
end Go.Proofs.Ytapdnglpchejlaa

/- What functions of the program ask of a view of memory: printed by shal.py. -/
namespace Go.Proofs.Ytapdnglpchejlaa
open Go Go.VL
set_option maxRecDepth 100000
/- palings/palingslaw08.few -/
def an15 : An := (.two .nil (.two (.two .nil (.two (.two .nil .nil) .nil)) (.two (.two .nil (.one (.loop [(10, (.one (.int .i64)))] (.two .nil (.two (.two .nil .nil) (.two (.one (.two .nil (.two .nil (.two (.two .nil .nil) .nil)))) .nil)))))) (.two .nil .nil))))
def S15 (p0 : Sl) (h : V) (R : Value → V → Prop) : Prop :=
  cond (decide ((((p0.n : Nat) : Int)) > ((20 : Int))))
  (Wk h fun h1 => R (.bool false) h1)
  (Lp (σ := (Int × Unit)) (fun K s h2 =>
  cond (decide (s.1 < (((p0.n : Nat) : Int))))
  (Ix p0 s.1 1 fun a12 =>
  Ld h2 a12 .sl fun (x13 : Sl) =>
  cond (decide ((((x13.n : Nat) : Int)) > ((100 : Int))))
  (Wk h2 fun h3 => R (.bool false) h3)
  (Wk h2 fun h4 => K (IntKind.wrap .i64 (s.1 + ((1 : Int))), ()) h4))
  (Wk h2 fun h5 => R (.bool true) h5))
  ((0 : Int), ()) h)
theorem S15_eq (p0 : Sl) (h : V) (R : Value → V → Prop) : ABody Try.prog an15 Try.f15 [(.slice p0.a p0.n p0.c)] h R = S15 p0 h R := by kernel_rfl
theorem S15_ok (p0 : Sl) (h : V) (R : Value → V → Prop) (hk : S15 p0 h R) : ACalls Try.prog 15 [(.slice p0.a p0.n p0.c)] h R :=
  ABody_sound mixed Try.func15 Try.call15 (by kernel_rfl) (by kernel_rfl) (an := an15) (by rw [S15_eq]; exact hk)

/- palings/sim.Run -/
def an16 : An := (.two .nil (.two (.two .nil (.two (.two .nil .nil) .nil)) (.two (.perm [0, 1, 2, 3, 4, 5, 6, 7] [3]) (.two .nil (.two (.one (.loop [] (.two (.two .nil (.two .nil .nil)) (.one (.two (.two .nil (.two (.two .nil .nil) .nil)) (.two .nil (.two .nil (.two (.two .nil .nil) .nil)))))))) (.two .nil .nil))))))
def S16 (p0_0 : Sl) (p0_1 : Sl) (p0_2 : Int) (p1 : Sl) (p2 : Int) (h : V) (R : Value → V → Prop) : Prop :=
  New h (.cells #[(.slice p0_0.a p0_0.n p0_0.c), (.slice p0_1.a p0_1.n p0_1.c), (.int .i64 p0_2)] 25) fun r3 h1 =>
  New h1 (.cells #[(.int .i64 ((0 : Int))), (.int .i64 ((0 : Int))), (.slice none 0 0), (.int .i64 ((0 : Int))), (.int .i64 ((0 : Int))), (.slice none 0 0)] 33) fun r6 h2 =>
  LdA h2 (⟨r3, 0, none⟩) [.sl, .sl, (.int .i64)] fun (x9 : ((Sl) × (Sl) × (Int) × Unit)) =>
  CallK Try.prog 17 [(.agg ⟨[(.slice x9.1.a x9.1.n x9.1.c), (.slice x9.2.1.a x9.2.1.n x9.2.1.c), (.int .i64 x9.2.2.1)]⟩)] h2 (.un (.one (.int .i64))) fun (x10 : Int) h3 =>
  cond (x10 != ((0 : Int)))
  (StL h3 (⟨r6, 0, none⟩) 0 [(.int .i64 ((0 : Int))), (.int .i64 ((0 : Int))), (.slice none 0 0), (.int .i64 ((0 : Int))), (.int .i64 ((0 : Int))), (.slice none 0 0)] fun h4 =>
  LdA h4 (⟨r6, 0, none⟩) [(.int .i64), (.int .i64), .sl, (.int .i64), (.int .i64), .sl] fun (y : ((Int) × (Int) × (Sl) × (Int) × (Int) × (Sl) × Unit)) =>
  Wk h4 fun h5 => R (.tuple ⟨[(.agg ⟨[(.int .i64 y.1), (.int .i64 y.2.1), (.slice y.2.2.1.a y.2.2.1.n y.2.2.1.c), (.int .i64 y.2.2.2.1), (.int .i64 y.2.2.2.2.1), (.slice y.2.2.2.2.2.1.a y.2.2.2.2.2.1.n y.2.2.2.2.2.1.c)]⟩), (.int .i64 ((40 : Int)))]⟩) h5)
  (LdA h3 (⟨r3, 0, none⟩) [.sl, .sl, (.int .i64)] fun (x13 : ((Sl) × (Sl) × (Int) × Unit)) =>
  LdA h3 (⟨r3, 0, none⟩) [.sl, .sl, (.int .i64)] fun (x14 : ((Sl) × (Sl) × (Int) × Unit)) =>
  CallK Try.prog 19 [(.agg ⟨[(.slice x14.1.a x14.1.n x14.1.c), (.slice x14.2.1.a x14.2.1.n x14.2.1.c), (.int .i64 x14.2.2.1)]⟩), (.slice p1.a p1.n p1.c)] h3 (.un (.one .sl)) fun (x16 : Sl) h6 =>
  Le h3 h6 ∧
  New h6 (.cells #[(.slice x13.1.a x13.1.n x13.1.c), (.slice x13.2.1.a x13.2.1.n x13.2.1.c), (.int .i64 x13.2.2.1), (.slice none 0 0), (.int .i64 ((0 : Int))), (.int .i64 ((0 : Int))), (.slice none 0 0), (.int .i64 ((0 : Int))), (.int .i64 ((0 : Int))), (.slice x16.a x16.n x16.c), (.bool false)] 97) fun r19 h7 =>
  Ld h7 (Addr.add (⟨r3, 0, none⟩) 2) (.int .i64) fun (x22 : Int) =>
  CallK Try.prog 36 [(.pointer (some (⟨r19, 0, none⟩))), (.int .i64 x22), (.slice none 0 0), (.int .i64 ((0 : Int)))] h7 (.un (.one .bool)) fun (_ : Bool) h8 =>
  Lp (σ := (Unit)) (fun K _ h9 =>
  Ld h9 (Addr.add (⟨r19, 0, none⟩) 10) .bool fun (x27 : Bool) =>
  cond (!x27)
  (Ld h9 (Addr.add (Addr.add (⟨r19, 0, none⟩) 4) 3) (.int .i64) fun (x33 : Int) =>
  cond (decide (x33 ≥ p2))
  (StL h9 (⟨r6, 0, none⟩) 0 [(.int .i64 ((0 : Int))), (.int .i64 ((0 : Int))), (.slice none 0 0), (.int .i64 ((0 : Int))), (.int .i64 ((0 : Int))), (.slice none 0 0)] fun h10 =>
  LdA h10 (⟨r6, 0, none⟩) [(.int .i64), (.int .i64), .sl, (.int .i64), (.int .i64), .sl] fun (y_1 : ((Int) × (Int) × (Sl) × (Int) × (Int) × (Sl) × Unit)) =>
  Wk h10 fun h11 => R (.tuple ⟨[(.agg ⟨[(.int .i64 y_1.1), (.int .i64 y_1.2.1), (.slice y_1.2.2.1.a y_1.2.2.1.n y_1.2.2.1.c), (.int .i64 y_1.2.2.2.1), (.int .i64 y_1.2.2.2.2.1), (.slice y_1.2.2.2.2.2.1.a y_1.2.2.2.2.2.1.n y_1.2.2.2.2.2.1.c)]⟩), (.int .i64 ((41 : Int)))]⟩) h11)
  (Ld h9 (Addr.add (Addr.add (⟨r19, 0, none⟩) 4) 3) (.int .i64) fun (x41 : Int) =>
  StL h9 (Addr.add (Addr.add (⟨r19, 0, none⟩) 4) 3) 0 [(.int .i64 (IntKind.wrap .i64 (x41 + ((1 : Int)))))] fun h12 =>
  CallK Try.prog 37 [(.pointer (some (⟨r19, 0, none⟩)))] h12 (.un (.one .bool)) fun (x47 : Bool) h13 =>
  cond (!x47)
  (StL h13 (⟨r6, 0, none⟩) 0 [(.int .i64 ((0 : Int))), (.int .i64 ((0 : Int))), (.slice none 0 0), (.int .i64 ((0 : Int))), (.int .i64 ((0 : Int))), (.slice none 0 0)] fun h14 =>
  LdA h14 (⟨r6, 0, none⟩) [(.int .i64), (.int .i64), .sl, (.int .i64), (.int .i64), .sl] fun (y_2 : ((Int) × (Int) × (Sl) × (Int) × (Int) × (Sl) × Unit)) =>
  Wk h14 fun h15 => R (.tuple ⟨[(.agg ⟨[(.int .i64 y_2.1), (.int .i64 y_2.2.1), (.slice y_2.2.2.1.a y_2.2.2.1.n y_2.2.2.1.c), (.int .i64 y_2.2.2.2.1), (.int .i64 y_2.2.2.2.2.1), (.slice y_2.2.2.2.2.2.1.a y_2.2.2.2.2.2.1.n y_2.2.2.2.2.2.1.c)]⟩), (.int .i64 ((41 : Int)))]⟩) h15)
  (Wk h13 fun h16 => K (()) h16)))
  (LdA h9 (Addr.add (⟨r19, 0, none⟩) 4) [(.int .i64), (.int .i64), .sl, (.int .i64), (.int .i64), .sl] fun (x53 : ((Int) × (Int) × (Sl) × (Int) × (Int) × (Sl) × Unit)) =>
  StL h9 (⟨r6, 0, none⟩) 0 [(.int .i64 x53.1), (.int .i64 x53.2.1), (.slice x53.2.2.1.a x53.2.2.1.n x53.2.2.1.c), (.int .i64 x53.2.2.2.1), (.int .i64 x53.2.2.2.2.1), (.slice x53.2.2.2.2.2.1.a x53.2.2.2.2.2.1.n x53.2.2.2.2.2.1.c)] fun h17 =>
  LdA h17 (⟨r6, 0, none⟩) [(.int .i64), (.int .i64), .sl, (.int .i64), (.int .i64), .sl] fun (y_3 : ((Int) × (Int) × (Sl) × (Int) × (Int) × (Sl) × Unit)) =>
  Wk h17 fun h18 => R (.tuple ⟨[(.agg ⟨[(.int .i64 y_3.1), (.int .i64 y_3.2.1), (.slice y_3.2.2.1.a y_3.2.2.1.n y_3.2.2.1.c), (.int .i64 y_3.2.2.2.1), (.int .i64 y_3.2.2.2.2.1), (.slice y_3.2.2.2.2.2.1.a y_3.2.2.2.2.2.1.n y_3.2.2.2.2.2.1.c)]⟩), (.int .i64 ((0 : Int)))]⟩) h18))
  (()) h8)
theorem S16_eq (p0_0 : Sl) (p0_1 : Sl) (p0_2 : Int) (p1 : Sl) (p2 : Int) (h : V) (R : Value → V → Prop) : ABody Try.prog an16 Try.f16 [(.agg ⟨[(.slice p0_0.a p0_0.n p0_0.c), (.slice p0_1.a p0_1.n p0_1.c), (.int .i64 p0_2)]⟩), (.slice p1.a p1.n p1.c), (.int .i64 p2)] h R = S16 p0_0 p0_1 p0_2 p1 p2 h R := by kernel_rfl
theorem S16_ok (p0_0 : Sl) (p0_1 : Sl) (p0_2 : Int) (p1 : Sl) (p2 : Int) (h : V) (R : Value → V → Prop) (hk : S16 p0_0 p0_1 p0_2 p1 p2 h R) : ACalls Try.prog 16 [(.agg ⟨[(.slice p0_0.a p0_0.n p0_0.c), (.slice p0_1.a p0_1.n p0_1.c), (.int .i64 p0_2)]⟩), (.slice p1.a p1.n p1.c), (.int .i64 p2)] h R :=
  ABody_sound mixed Try.func16 Try.call16 (by kernel_rfl) (by kernel_rfl) (an := an16) (by rw [S16_eq]; exact hk)

/- palings/palingslaw08.ok -/
def an18 : An := (.two .nil (.cut [] (.two .nil (.two (.two .nil .nil) .nil)) (.two (.two .nil (.one (.loop [(16, (.one (.int .i64)))] (.two .nil (.two (.two .nil .nil) (.two (.one (.two .nil (.two .nil (.two (.two .nil .nil) .nil)))) .nil)))))) (.two .nil .nil))))
def S18 (p0_0 : Sl) (p0_1 : Sl) (p0_2 : Int) (h : V) (R : Value → V → Prop) : Prop :=
  New h (.cells #[(.slice p0_0.a p0_0.n p0_0.c), (.slice p0_1.a p0_1.n p0_1.c), (.int .i64 p0_2)] 25) fun r1 h1 =>
  Cut (σ := (Unit)) (fun _ h2 =>
  Ld h2 (Addr.add (⟨r1, 0, none⟩) 0) .sl fun (x14 : Sl) =>
  Lp (σ := (Int × Unit)) (fun K s_1 h3 =>
  cond (decide (s_1.1 < (((x14.n : Nat) : Int))))
  (Ix x14 s_1.1 3 fun a18 =>
  LdA h3 a18 [.str, (.int .i64), (.int .i64)] fun (x19 : ((ByteArray) × (Int) × (Int) × Unit)) =>
  New h3 (.cells #[(.string (⟨#[]⟩)), (.int .i64 ((0 : Int))), (.int .i64 ((0 : Int)))] 86) fun r4 h4 =>
  StL h4 (⟨r4, 0, none⟩) 0 [(.string x19.1), (.int .i64 x19.2.1), (.int .i64 x19.2.2.1)] fun h5 =>
  Ld h5 (Addr.add (⟨r4, 0, none⟩) 2) (.int .i64) fun (x21 : Int) =>
  cond (decide (x21 > ((100 : Int))))
  (Wk h5 fun h6 => R (.bool false) h6)
  (Wk h5 fun h7 => K (IntKind.wrap .i64 (s_1.1 + ((1 : Int))), ()) h7))
  (Wk h3 fun h8 => R (.bool true) h8))
  ((0 : Int), ()) h2) fun J =>
  LdA h1 (⟨r1, 0, none⟩) [.sl, .sl, (.int .i64)] fun (x5 : ((Sl) × (Sl) × (Int) × Unit)) =>
  CallK Try.prog 14 [(.agg ⟨[(.slice x5.1.a x5.1.n x5.1.c), (.slice x5.2.1.a x5.2.1.n x5.2.1.c), (.int .i64 x5.2.2.1)]⟩)] h1 (.un (.one .bool)) fun (x6 : Bool) h9 =>
  cond (!x6)
  (Wk h9 fun h10 => R (.bool false) h10)
  (LdA h9 (⟨r1, 0, none⟩) [.sl, .sl, (.int .i64)] fun (x9 : ((Sl) × (Sl) × (Int) × Unit)) =>
  CallK Try.prog 17 [(.agg ⟨[(.slice x9.1.a x9.1.n x9.1.c), (.slice x9.2.1.a x9.2.1.n x9.2.1.c), (.int .i64 x9.2.2.1)]⟩)] h9 (.un (.one (.int .i64))) fun (x10 : Int) h11 =>
  cond (x10 != ((0 : Int)))
  (Wk h11 fun h12 => R (.bool false) h12)
  (Wk h11 fun h13 => J (()) h13))
theorem S18_eq (p0_0 : Sl) (p0_1 : Sl) (p0_2 : Int) (h : V) (R : Value → V → Prop) : ABody Try.prog an18 Try.f18 [(.agg ⟨[(.slice p0_0.a p0_0.n p0_0.c), (.slice p0_1.a p0_1.n p0_1.c), (.int .i64 p0_2)]⟩)] h R = S18 p0_0 p0_1 p0_2 h R := by kernel_rfl
theorem S18_ok (p0_0 : Sl) (p0_1 : Sl) (p0_2 : Int) (h : V) (R : Value → V → Prop) (hk : S18 p0_0 p0_1 p0_2 h R) : ACalls Try.prog 18 [(.agg ⟨[(.slice p0_0.a p0_0.n p0_0.c), (.slice p0_1.a p0_1.n p0_1.c), (.int .i64 p0_2)]⟩)] h R :=
  ABody_sound mixed Try.func18 Try.call18 (by kernel_rfl) (by kernel_rfl) (an := an18) (by rw [S18_eq]; exact hk)

/- palings/sim.Start -/
def an19 : An := (.two .nil (.two .nil (.two .nil (.two (.two .nil (.one (.loop [(5, (.one .sl)), (6, (.one (.int .i64))), (13, (.one (.int .i64)))] (.two .nil (.two (.two .nil .nil) (.two (.one (.two .nil (.two .nil (.two (.two .nil (.two (.two (.two .nil (.two .nil .nil)) .nil) .nil)) .nil)))) .nil)))))) (.two .nil .nil)))))
def S19 (p0_0 : Sl) (p0_1 : Sl) (p0_2 : Int) (p1 : Sl) (h : V) (R : Value → V → Prop) : Prop :=
  New h (.cells #[(.slice p0_0.a p0_0.n p0_0.c), (.slice p0_1.a p0_1.n p0_1.c), (.int .i64 p0_2)] 25) fun r2 h1 =>
  Ld h1 (Addr.add (⟨r2, 0, none⟩) 0) .sl fun (x11 : Sl) =>
  Lp (σ := (Sl × Int × Int × Unit)) (fun K s h2 =>
  cond (decide (s.2.2.1 < (((x11.n : Nat) : Int))))
  (Ix x11 s.2.2.1 3 fun a15 =>
  LdA h2 a15 [.str, (.int .i64), (.int .i64)] fun (x16 : ((ByteArray) × (Int) × (Int) × Unit)) =>
  New h2 (.cells #[(.string (⟨#[]⟩)), (.int .i64 ((0 : Int))), (.int .i64 ((0 : Int)))] 86) fun r8 h3 =>
  StL h3 (⟨r8, 0, none⟩) 0 [(.string x16.1), (.int .i64 x16.2.1), (.int .i64 x16.2.2.1)] fun h4 =>
  Ld h4 (Addr.add (⟨r8, 0, none⟩) 2) (.int .i64) fun (x18 : Int) =>
  MkSl h4 (if (if ((4096 : Int)) < x18 then ((4096 : Int)) else x18) > ((1 : Int)) then (if ((4096 : Int)) < x18 then ((4096 : Int)) else x18) else ((1 : Int))) (if (if ((4096 : Int)) < x18 then ((4096 : Int)) else x18) > ((1 : Int)) then (if ((4096 : Int)) < x18 then ((4096 : Int)) else x18) else ((1 : Int))) [(.int .i64 ((0 : Int)))] 2 8 fun s21 h5 =>
  Ld h5 (Addr.add (⟨r8, 0, none⟩) 1) (.int .i64) fun (x23 : Int) =>
  cond (x23 != ((0 : Int)))
  (cond (decide (s.2.1 < (((p1.n : Nat) : Int))))
  (Ix p1 s.2.1 1 fun a32 =>
  Ld h5 a32 .sl fun (x33 : Sl) =>
  Cpy h5 s21 x33 1 fun (_ : Int) h6 =>
  New h6 (.cells #[(.slice s21.a s21.n s21.c)] 45) fun r39 h7 =>
  App h7 s.1 ⟨(some ⟨r39, 0, none⟩), 1, 1⟩ 45 1 24 [(.slice none 0 0)] fun s40 h8 =>
  Wk h8 fun h9 => K (s40, IntKind.wrap .i64 (s.2.1 + ((1 : Int))), IntKind.wrap .i64 (s.2.2.1 + ((1 : Int))), ()) h9)
  (New h5 (.cells #[(.slice s21.a s21.n s21.c)] 45) fun r39_1 h10 =>
  App h10 s.1 ⟨(some ⟨r39_1, 0, none⟩), 1, 1⟩ 45 1 24 [(.slice none 0 0)] fun s40_1 h11 =>
  Wk h11 fun h12 => K (s40_1, IntKind.wrap .i64 (s.2.1 + ((1 : Int))), IntKind.wrap .i64 (s.2.2.1 + ((1 : Int))), ()) h12))
  (New h5 (.cells #[(.slice s21.a s21.n s21.c)] 45) fun r39_2 h13 =>
  App h13 s.1 ⟨(some ⟨r39_2, 0, none⟩), 1, 1⟩ 45 1 24 [(.slice none 0 0)] fun s40_2 h14 =>
  Wk h14 fun h15 => K (s40_2, s.2.1, IntKind.wrap .i64 (s.2.2.1 + ((1 : Int))), ()) h15))
  (Wk h2 fun h16 => R (.slice s.1.a s.1.n s.1.c) h16))
  (⟨none, 0, 0⟩, (0 : Int), (0 : Int), ()) h1
theorem S19_eq (p0_0 : Sl) (p0_1 : Sl) (p0_2 : Int) (p1 : Sl) (h : V) (R : Value → V → Prop) : ABody Try.prog an19 Try.f19 [(.agg ⟨[(.slice p0_0.a p0_0.n p0_0.c), (.slice p0_1.a p0_1.n p0_1.c), (.int .i64 p0_2)]⟩), (.slice p1.a p1.n p1.c)] h R = S19 p0_0 p0_1 p0_2 p1 h R := by kernel_rfl
theorem S19_ok (p0_0 : Sl) (p0_1 : Sl) (p0_2 : Int) (p1 : Sl) (h : V) (R : Value → V → Prop) (hk : S19 p0_0 p0_1 p0_2 p1 h R) : ACalls Try.prog 19 [(.agg ⟨[(.slice p0_0.a p0_0.n p0_0.c), (.slice p0_1.a p0_1.n p0_1.c), (.int .i64 p0_2)]⟩), (.slice p1.a p1.n p1.c)] h R :=
  ABody_sound mixed Try.func19 Try.call19 (by kernel_rfl) (by kernel_rfl) (an := an19) (by rw [S19_eq]; exact hk)

/- (*palings/palingslaw08.own).call -/
def an20 : An := (.two .nil (.two (.two .nil (.two (.two .nil (.two .nil .nil)) .nil)) (.two .nil (.two .nil (.two (.two .nil (.one (.loop [(55, (.one (.int .i64)))] (.two .nil (.two (.two .nil .nil) (.two (.one (.two .nil .nil)) .nil)))))) (.two .nil (.one (.loop [(14, (.one (.int .i64)))] (.one (.two (.two .nil (.one (.loop [(74, (.one (.int .i64)))] (.two .nil (.two (.two .nil .nil) (.two (.one (.two .nil (.two (.two .nil (.two .nil (.two (.two .nil (.two .nil .nil)) .nil))) (.cut [] (.two .nil (.two .nil .nil)) (.cut [] (.two .nil (.two (.two .nil (.two .nil (.cut [] (.cut [(123, (.one .bool))] .nil (.two .nil .nil)) (.two .nil (.two (.two .nil (.two (.two .nil (.two .nil .nil)) .nil)) .nil))))) .nil)) (.cut [] (.two .nil (.two (.perm [0, 1, 2, 3, 4, 5, 6, 7, 8, 9, 10, 11, 12, 13] []) .nil)) (.cut [] (.two .nil (.two (.perm [0, 1, 2, 3, 4, 5, 6, 7, 8, 9, 10, 11, 12, 13, 14, 15] []) .nil)) (.cut [] (.cut [(194, (.one .bool))] .nil (.two (.two .nil (.two .nil (.cut [] (.two (.perm [0, 1, 2, 3, 4, 5, 6, 7, 8, 9, 10, 11, 12, 13, 14] []) (.two (.two .nil (.two .nil .nil)) .nil)) (.two .nil (.two (.perm [0, 1, 2, 3, 4, 5, 6, 7, 8, 9, 10, 11, 12, 13, 14] []) (.perm [0, 1, 2, 3, 4, 5, 6, 7, 8, 9, 10, 11, 12, 13, 14, 15, 16] [])))))) .nil)) (.two .nil (.two (.two .nil (.two (.two .nil (.one (.loop [(22, (.one .sl)), (270, (.one (.int .i64)))] (.two .nil (.two (.two .nil .nil) (.two (.one (.two .nil .nil)) .nil)))))) (.two .nil (.two (.two .nil (.two (.two .nil .nil) .nil)) .nil)))) .nil)))))))))) .nil)))))) (.two (.two .nil (.two .nil (.two (.two .nil (.two .nil .nil)) .nil))) (.two .nil (.two .nil (.cut [] (.two .nil (.one (.two .nil (.two (.two .nil .nil) (.two .nil (.two (.two .nil (.two .nil .nil)) (.two .nil (.two .nil (.two .nil (.two .nil .nil)))))))))) (.two .nil (.two (.two .nil (.one (.loop [(30, (.one .sl)), (368, (.one (.int .i64)))] (.two .nil (.two (.two .nil .nil) (.two (.one (.two .nil .nil)) .nil)))))) (.two .nil (.two .nil (.one (.loop [(388, (.one (.int .i64)))] (.two .nil (.two (.two .nil .nil) (.two (.one (.two .nil .nil)) .nil)))))))))))))))))))))))
def S20 (p0 : Option Addr) (p1 : Int) (p2 : Sl) (p3 : Int) (h : V) (R : Value → V → Prop) : Prop :=
  cond (decide (p3 > ((60 : Int))))
  (OA p0 fun a38 =>
  StL h (Addr.add a38 7) 0 [(.bool true)] fun h1 =>
  Wk h1 fun h2 => R (.tuple ⟨[(.int .i64 ((0 : Int))), (.bool false)]⟩) h2)
  (OA p0 fun a41 =>
  Ld h (Addr.add (Addr.add a41 0) 1) .sl fun (x44 : Sl) =>
  Ix x44 p1 2 fun a46 =>
  LdA h a46 [.str, .sl] fun (x47 : ((ByteArray) × (Sl) × Unit)) =>
  New h (.cells #[(.string (⟨#[]⟩)), (.slice none 0 0)] 63) fun r10 h3 =>
  StL h3 (⟨r10, 0, none⟩) 0 [(.string x47.1), (.slice x47.2.1.a x47.2.1.n x47.2.1.c)] fun h4 =>
  New h4 (.map #[] 0) fun r48 h5 =>
  Ld h5 (Addr.add (⟨r10, 0, none⟩) 1) .sl fun (x50 : Sl) =>
  Ix x50 ((0 : Int)) 6 fun a51 =>
  Ld h5 (Addr.add a51 0) .sl fun (x53 : Sl) =>
  Lp (σ := (Int × Unit)) (fun K s h6 =>
  cond (decide (s.1 < (((x53.n : Nat) : Int))))
  (Ix x53 s.1 1 fun a58 =>
  Ld h6 a58 (.int .i64) fun (x59 : Int) =>
  Ix p2 s.1 1 fun a64 =>
  Ld h6 a64 (.int .i64) fun (x65 : Int) =>
  MUpd h6 ((some r48)) (.int .i64) (.int .i64 x59) (.int .i64 x65) fun h7 =>
  Wk h7 fun h8 => K (IntKind.wrap .i64 (s.1 + ((1 : Int))), ()) h8)
  (Lp (σ := (Int × Unit)) (fun K_1 s_1 h9 =>
  Ld h9 (Addr.add (⟨r10, 0, none⟩) 1) .sl fun (x68 : Sl) =>
  Ix x68 s_1.1 6 fun a70 =>
  Ld h9 (Addr.add a70 1) .sl fun (x72 : Sl) =>
  Lp (σ := (Int × Unit)) (fun K_2 s_2 h10 =>
  cond (decide (s_2.1 < (((x72.n : Nat) : Int))))
  (Ix x72 s_2.1 7 fun a76 =>
  LdA h10 a76 [(.int .i64), (.int .i64), .sl, (.int .i64), (.int .i64), (.int .i64), (.int .i64)] fun (x77 : ((Int) × (Int) × (Sl) × (Int) × (Int) × (Int) × (Int) × Unit)) =>
  New h10 (.cells #[(.int .i64 ((0 : Int))), (.int .i64 ((0 : Int))), (.slice none 0 0), (.int .i64 ((0 : Int))), (.int .i64 ((0 : Int))), (.int .i64 ((0 : Int))), (.int .i64 ((0 : Int)))] 51) fun r16 h11 =>
  StL h11 (⟨r16, 0, none⟩) 0 [(.int .i64 x77.1), (.int .i64 x77.2.1), (.slice x77.2.2.1.a x77.2.2.1.n x77.2.2.1.c), (.int .i64 x77.2.2.2.1), (.int .i64 x77.2.2.2.2.1), (.int .i64 x77.2.2.2.2.2.1), (.int .i64 x77.2.2.2.2.2.2.1)] fun h12 =>
  OA p0 fun a79 =>
  Ld h12 (Addr.add a79 5) (.int .i64) fun (x81 : Int) =>
  OA p0 fun a83 =>
  StL h12 (Addr.add a83 5) 0 [(.int .i64 (IntKind.wrap .i64 (x81 - ((1 : Int)))))] fun h13 =>
  OA p0 fun a86 =>
  Ld h13 (Addr.add a86 5) (.int .i64) fun (x88 : Int) =>
  cond (decide (x88 < ((0 : Int))))
  (OA p0 fun a91 =>
  StL h13 (Addr.add a91 7) 0 [(.bool true)] fun h14 =>
  Wk h14 fun h15 => R (.tuple ⟨[(.int .i64 ((0 : Int))), (.bool false)]⟩) h15)
  (Cut (σ := (Unit)) (fun _ h16 =>
  Cut (σ := (Unit)) (fun _ h17 =>
  Cut (σ := (Unit)) (fun _ h18 =>
  Cut (σ := (Unit)) (fun _ h19 =>
  Cut (σ := (Unit)) (fun _ h20 =>
  Ld h20 (Addr.add (⟨r16, 0, none⟩) 0) (.int .i64) fun (x264 : Int) =>
  cond (x264 == ((7 : Int)))
  (New h20 (.cells #[] 2) fun r266 h21 =>
  Ld h21 (Addr.add (⟨r16, 0, none⟩) 2) .sl fun (x268 : Sl) =>
  Lp (σ := (Sl × Int × Unit)) (fun K_3 s_8 h22 =>
  cond (decide (s_8.2.1 < (((x268.n : Nat) : Int))))
  (Ix x268 s_8.2.1 1 fun a272 =>
  Ld h22 a272 (.int .i64) fun (x273 : Int) =>
  Look h22 ((some r48)) (.int .i64) (.int .i64 x273) (.one (.int .i64)) ((0 : Int)) fun (x277 : Int) _ =>
  New h22 (.cells #[(.int .i64 x277)] 2) fun r278 h23 =>
  App h23 s_8.1 ⟨(some ⟨r278, 0, none⟩), 1, 1⟩ 2 1 8 [(.int .i64 ((0 : Int)))] fun s279 h24 =>
  Wk h24 fun h25 => K_3 (s279, IntKind.wrap .i64 (s_8.2.1 + ((1 : Int))), ()) h25)
  (Ld h22 (Addr.add (⟨r16, 0, none⟩) 6) (.int .i64) fun (x284 : Int) =>
  CallK Try.prog 20 [(.pointer p0), (.int .i64 x284), (.slice s_8.1.a s_8.1.n s_8.1.c), (.int .i64 (IntKind.wrap .i64 (p3 + ((1 : Int)))))] h22 (.tup [(.one (.int .i64)), (.one .bool)]) fun (x288 : (Int × Bool × Unit)) h26 =>
  cond (!x288.2.1)
  (Wk h26 fun h27 => R (.tuple ⟨[(.int .i64 ((0 : Int))), (.bool false)]⟩) h27)
  (Ld h26 (Addr.add (⟨r16, 0, none⟩) 1) (.int .i64) fun (x295 : Int) =>
  MUpd h26 ((some r48)) (.int .i64) (.int .i64 x295) (.int .i64 x288.1) fun h28 =>
  Wk h28 fun h29 => K_2 (IntKind.wrap .i64 (s_2.1 + ((1 : Int))), ()) h29)))
  (⟨(some ⟨r266, 0, none⟩), 0, 0⟩, (0 : Int), ()) h21)
  (Wk h20 fun h30 => K_2 (IntKind.wrap .i64 (s_2.1 + ((1 : Int))), ()) h30)) fun J_4 =>
  Cut (σ := (Bool × Unit)) (fun s_9 h31 =>
  cond s_9.1
  (Ld h31 (Addr.add (⟨r16, 0, none⟩) 2) .sl fun (x197 : Sl) =>
  Ix x197 ((0 : Int)) 1 fun a198 =>
  Ld h31 a198 (.int .i64) fun (x199 : Int) =>
  Look h31 ((some r48)) (.int .i64) (.int .i64 x199) (.one (.int .i64)) ((0 : Int)) fun (x200 : Int) _ =>
  OA p0 fun a203 =>
  Ld h31 (Addr.add a203 4) .sl fun (x205 : Sl) =>
  New h31 (.cells #[(.int .i64 ((2 : Int))), (.int .i64 x200), (.int .i64 ((0 : Int)))] 108) fun r208 h32 =>
  App h32 x205 ⟨(some ⟨r208, 0, none⟩), 1, 1⟩ 108 3 24 [(.int .i64 ((0 : Int))), (.int .i64 ((0 : Int))), (.int .i64 ((0 : Int)))] fun s209 h33 =>
  OA p0 fun a210 =>
  StL h33 (Addr.add a210 4) 0 [(.slice s209.a s209.n s209.c)] fun h34 =>
  Cut (σ := (Unit)) (fun _ h35 =>
  Ld h35 (Addr.add (⟨r16, 0, none⟩) 0) (.int .i64) fun (x231 : Int) =>
  cond (x231 == ((5 : Int)))
  (Ld h35 (Addr.add (⟨r16, 0, none⟩) 1) (.int .i64) fun (x235 : Int) =>
  OA p0 fun a237 =>
  Ld h35 (Addr.add a237 3) .sl fun (x239 : Sl) =>
  Ld h35 (Addr.add (⟨r16, 0, none⟩) 5) (.int .i64) fun (x241 : Int) =>
  Ix x239 x241 1 fun a242 =>
  Ld h35 a242 .sl fun (x243 : Sl) =>
  Ix x243 x200 1 fun a245 =>
  Ld h35 a245 (.int .i64) fun (x246 : Int) =>
  MUpd h35 ((some r48)) (.int .i64) (.int .i64 x235) (.int .i64 x246) fun h36 =>
  Wk h36 fun h37 => J_4 (()) h37)
  (OA p0 fun a248 =>
  Ld h35 (Addr.add a248 3) .sl fun (x250 : Sl) =>
  Ld h35 (Addr.add (⟨r16, 0, none⟩) 5) (.int .i64) fun (x252 : Int) =>
  Ix x250 x252 1 fun a253 =>
  Ld h35 a253 .sl fun (x254 : Sl) =>
  Ld h35 (Addr.add (⟨r16, 0, none⟩) 2) .sl fun (x258 : Sl) =>
  Ix x258 ((1 : Int)) 1 fun a259 =>
  Ld h35 a259 (.int .i64) fun (x260 : Int) =>
  Look h35 ((some r48)) (.int .i64) (.int .i64 x260) (.one (.int .i64)) ((0 : Int)) fun (x261 : Int) _ =>
  Ix x254 x200 1 fun a262 =>
  StL h35 a262 0 [(.int .i64 x261)] fun h38 =>
  Wk h38 fun h39 => J_4 (()) h39)) fun J_6 =>
  cond (decide (x200 < ((0 : Int))))
  (OA p0 fun a228 =>
  StL h34 (Addr.add a228 6) 0 [(.int .i64 ((4 : Int)))] fun h40 =>
  Wk h40 fun h41 => R (.tuple ⟨[(.int .i64 ((0 : Int))), (.bool false)]⟩) h41)
  (OA p0 fun a217 =>
  Ld h34 (Addr.add a217 3) .sl fun (x219 : Sl) =>
  Ld h34 (Addr.add (⟨r16, 0, none⟩) 5) (.int .i64) fun (x221 : Int) =>
  Ix x219 x221 1 fun a222 =>
  Ld h34 a222 .sl fun (x223 : Sl) =>
  cond (decide (x200 ≥ (((x223.n : Nat) : Int))))
  (OA p0 fun a228_1 =>
  StL h34 (Addr.add a228_1 6) 0 [(.int .i64 ((4 : Int)))] fun h42 =>
  Wk h42 fun h43 => R (.tuple ⟨[(.int .i64 ((0 : Int))), (.bool false)]⟩) h43)
  (Wk h34 fun h44 => J_6 (()) h44)))
  (Wk h31 fun h45 => J_4 (()) h45)) fun J_5 =>
  Ld h19 (Addr.add (⟨r16, 0, none⟩) 0) (.int .i64) fun (x188 : Int) =>
  cond (x188 == ((5 : Int)))
  (Wk h19 fun h46 => J_5 (true, ()) h46)
  (Ld h19 (Addr.add (⟨r16, 0, none⟩) 0) (.int .i64) fun (x192 : Int) =>
  Wk h19 fun h47 => J_5 (x192 == ((6 : Int)), ()) h47)) fun J_3 =>
  Ld h18 (Addr.add (⟨r16, 0, none⟩) 0) (.int .i64) fun (x170 : Int) =>
  cond (x170 == ((4 : Int)))
  (OA p0 fun a173 =>
  Ld h18 (Addr.add a173 3) .sl fun (x175 : Sl) =>
  Ld h18 (Addr.add (⟨r16, 0, none⟩) 5) (.int .i64) fun (x177 : Int) =>
  Ix x175 x177 1 fun a178 =>
  Ld h18 a178 .sl fun (x179 : Sl) =>
  Ld h18 (Addr.add (⟨r16, 0, none⟩) 2) .sl fun (x182 : Sl) =>
  Ix x182 ((0 : Int)) 1 fun a183 =>
  Ld h18 a183 (.int .i64) fun (x184 : Int) =>
  Look h18 ((some r48)) (.int .i64) (.int .i64 x184) (.one (.int .i64)) ((0 : Int)) fun (x185 : Int) _ =>
  Ix x179 ((0 : Int)) 1 fun a186 =>
  StL h18 a186 0 [(.int .i64 x185)] fun h48 =>
  Wk h48 fun h49 => J_3 (()) h49)
  (Wk h18 fun h50 => J_3 (()) h50)) fun J_2 =>
  Ld h17 (Addr.add (⟨r16, 0, none⟩) 0) (.int .i64) fun (x154 : Int) =>
  cond (x154 == ((3 : Int)))
  (Ld h17 (Addr.add (⟨r16, 0, none⟩) 1) (.int .i64) fun (x158 : Int) =>
  OA p0 fun a160 =>
  Ld h17 (Addr.add a160 3) .sl fun (x162 : Sl) =>
  Ld h17 (Addr.add (⟨r16, 0, none⟩) 5) (.int .i64) fun (x164 : Int) =>
  Ix x162 x164 1 fun a165 =>
  Ld h17 a165 .sl fun (x166 : Sl) =>
  Ix x166 ((0 : Int)) 1 fun a167 =>
  Ld h17 a167 (.int .i64) fun (x168 : Int) =>
  MUpd h17 ((some r48)) (.int .i64) (.int .i64 x158) (.int .i64 x168) fun h51 =>
  Wk h51 fun h52 => J_2 (()) h52)
  (Wk h17 fun h53 => J_2 (()) h53)) fun J_1 =>
  Ld h16 (Addr.add (⟨r16, 0, none⟩) 0) (.int .i64) fun (x102 : Int) =>
  cond (x102 == ((2 : Int)))
  (Ld h16 (Addr.add (⟨r16, 0, none⟩) 2) .sl fun (x106 : Sl) =>
  Ix x106 ((0 : Int)) 1 fun a107 =>
  Ld h16 a107 (.int .i64) fun (x108 : Int) =>
  Look h16 ((some r48)) (.int .i64) (.int .i64 x108) (.one (.int .i64)) ((0 : Int)) fun (x109 : Int) _ =>
  Ld h16 (Addr.add (⟨r16, 0, none⟩) 2) .sl fun (x112 : Sl) =>
  Ix x112 ((1 : Int)) 1 fun a113 =>
  Ld h16 a113 (.int .i64) fun (x114 : Int) =>
  Look h16 ((some r48)) (.int .i64) (.int .i64 x114) (.one (.int .i64)) ((0 : Int)) fun (x115 : Int) _ =>
  Cut (σ := (Unit)) (fun _ h54 =>
  Ld h54 (Addr.add (⟨r16, 0, none⟩) 4) (.int .i64) fun (x138 : Int) =>
  CallK Try.prog 34 [(.int .i64 x138), (.int .i64 x109), (.int .i64 x115)] h54 (.tup [(.one (.int .i64)), (.one .bool)]) fun (x141 : (Int × Bool × Unit)) h55 =>
  cond (!x141.2.1)
  (OA p0 fun a147 =>
  StL h55 (Addr.add a147 6) 0 [(.int .i64 ((2 : Int)))] fun h56 =>
  Wk h56 fun h57 => R (.tuple ⟨[(.int .i64 ((0 : Int))), (.bool false)]⟩) h57)
  (Ld h55 (Addr.add (⟨r16, 0, none⟩) 1) (.int .i64) fun (x151 : Int) =>
  MUpd h55 ((some r48)) (.int .i64) (.int .i64 x151) (.int .i64 x141.1) fun h58 =>
  Wk h58 fun h59 => J_1 (()) h59)) fun J_7 =>
  Cut (σ := (Bool × Unit)) (fun s_12 h60 =>
  cond s_12.1
  (OA p0 fun a126 =>
  Ld h60 (Addr.add a126 4) .sl fun (x128 : Sl) =>
  New h60 (.cells #[(.int .i64 ((3 : Int))), (.int .i64 x109), (.int .i64 x115)] 108) fun r132 h61 =>
  App h61 x128 ⟨(some ⟨r132, 0, none⟩), 1, 1⟩ 108 3 24 [(.int .i64 ((0 : Int))), (.int .i64 ((0 : Int))), (.int .i64 ((0 : Int)))] fun s133 h62 =>
  OA p0 fun a134 =>
  StL h62 (Addr.add a134 4) 0 [(.slice s133.a s133.n s133.c)] fun h63 =>
  Wk h63 fun h64 => J_7 (()) h64)
  (Wk h60 fun h65 => J_7 (()) h65)) fun J_8 =>
  Ld h16 (Addr.add (⟨r16, 0, none⟩) 4) (.int .i64) fun (x117 : Int) =>
  cond (x117 == ((4 : Int)))
  (Wk h16 fun h66 => J_8 (true, ()) h66)
  (Ld h16 (Addr.add (⟨r16, 0, none⟩) 4) (.int .i64) fun (x121 : Int) =>
  Wk h16 fun h67 => J_8 (x121 == ((5 : Int)), ()) h67))
  (Wk h16 fun h68 => J_1 (()) h68)) fun J =>
  Ld h13 (Addr.add (⟨r16, 0, none⟩) 0) (.int .i64) fun (x94 : Int) =>
  cond (x94 == ((1 : Int)))
  (Ld h13 (Addr.add (⟨r16, 0, none⟩) 1) (.int .i64) fun (x98 : Int) =>
  Ld h13 (Addr.add (⟨r16, 0, none⟩) 3) (.int .i64) fun (x100 : Int) =>
  MUpd h13 ((some r48)) (.int .i64) (.int .i64 x98) (.int .i64 x100) fun h69 =>
  Wk h69 fun h70 => J (()) h70)
  (Wk h13 fun h71 => J (()) h71)))
  (OA p0 fun a299 =>
  Ld h10 (Addr.add a299 5) (.int .i64) fun (x301 : Int) =>
  OA p0 fun a303 =>
  StL h10 (Addr.add a303 5) 0 [(.int .i64 (IntKind.wrap .i64 (x301 - ((1 : Int)))))] fun h72 =>
  OA p0 fun a306 =>
  Ld h72 (Addr.add a306 5) (.int .i64) fun (x308 : Int) =>
  cond (decide (x308 < ((0 : Int))))
  (OA p0 fun a311 =>
  StL h72 (Addr.add a311 7) 0 [(.bool true)] fun h73 =>
  Wk h73 fun h74 => R (.tuple ⟨[(.int .i64 ((0 : Int))), (.bool false)]⟩) h74)
  (Ld h72 (Addr.add (⟨r10, 0, none⟩) 1) .sl fun (x314 : Sl) =>
  Ix x314 s_1.1 6 fun a316 =>
  LdA h72 (Addr.add a316 2) [(.int .i64), (.int .i64), .sl, (.int .i64)] fun (x318 : ((Int) × (Int) × (Sl) × (Int) × Unit)) =>
  New h72 (.cells #[(.int .i64 ((0 : Int))), (.int .i64 ((0 : Int))), (.slice none 0 0), (.int .i64 ((0 : Int)))] 58) fun r27 h75 =>
  StL h75 (⟨r27, 0, none⟩) 0 [(.int .i64 x318.1), (.int .i64 x318.2.1), (.slice x318.2.2.1.a x318.2.2.1.n x318.2.2.1.c), (.int .i64 x318.2.2.2.1)] fun h76 =>
  New h76 (.cells #[(.int .i64 ((0 : Int))), (.slice none 0 0)] 55) fun r28 h77 =>
  StL h77 (⟨r28, 0, none⟩) 0 [(.int .i64 ((0 : Int))), (.slice none 0 0)] fun h78 =>
  Cut (σ := (Unit)) (fun _ h79 =>
  New h79 (.cells #[] 2) fun r364 h80 =>
  Ld h80 (Addr.add (⟨r28, 0, none⟩) 1) .sl fun (x366 : Sl) =>
  Lp (σ := (Sl × Int × Unit)) (fun K_4 s_14 h81 =>
  cond (decide (s_14.2.1 < (((x366.n : Nat) : Int))))
  (Ix x366 s_14.2.1 1 fun a370 =>
  Ld h81 a370 (.int .i64) fun (x371 : Int) =>
  Look h81 ((some r48)) (.int .i64) (.int .i64 x371) (.one (.int .i64)) ((0 : Int)) fun (x375 : Int) _ =>
  New h81 (.cells #[(.int .i64 x375)] 2) fun r376 h82 =>
  App h82 s_14.1 ⟨(some ⟨r376, 0, none⟩), 1, 1⟩ 2 1 8 [(.int .i64 ((0 : Int)))] fun s377 h83 =>
  Wk h83 fun h84 => K_4 (s377, IntKind.wrap .i64 (s_14.2.1 + ((1 : Int))), ()) h84)
  (Ld h81 (Addr.add (⟨r28, 0, none⟩) 0) (.int .i64) fun (x380 : Int) =>
  Ld h81 (Addr.add (⟨r10, 0, none⟩) 1) .sl fun (x382 : Sl) =>
  Ix x382 x380 6 fun a384 =>
  Ld h81 (Addr.add a384 0) .sl fun (x386 : Sl) =>
  Lp (σ := (Int × Unit)) (fun K_5 s_15 h85 =>
  cond (decide (s_15.1 < (((x386.n : Nat) : Int))))
  (Ix x386 s_15.1 1 fun a391 =>
  Ld h85 a391 (.int .i64) fun (x392 : Int) =>
  Ix s_14.1 s_15.1 1 fun a397 =>
  Ld h85 a397 (.int .i64) fun (x398 : Int) =>
  MUpd h85 ((some r48)) (.int .i64) (.int .i64 x392) (.int .i64 x398) fun h86 =>
  Wk h86 fun h87 => K_5 (IntKind.wrap .i64 (s_15.1 + ((1 : Int))), ()) h87)
  (Wk h85 fun h88 => K_1 (x380, ()) h88))
  ((0 : Int), ()) h81))
  (⟨(some ⟨r364, 0, none⟩), 0, 0⟩, (0 : Int), ()) h80) fun J_9 =>
  Ld h78 (Addr.add (⟨r27, 0, none⟩) 0) (.int .i64) fun (x321 : Int) =>
  cond (x321 == ((3 : Int)))
  (Ld h78 (Addr.add (⟨r27, 0, none⟩) 1) (.int .i64) fun (x349 : Int) =>
  Look h78 ((some r48)) (.int .i64) (.int .i64 x349) (.one (.int .i64)) ((0 : Int)) fun (x350 : Int) _ =>
  Wk h78 fun h89 => R (.tuple ⟨[(.int .i64 x350), (.bool true)]⟩) h89)
  (cond (x321 == ((4 : Int)))
  (Ld h78 (Addr.add (⟨r27, 0, none⟩) 3) (.int .i64) fun (x355 : Int) =>
  OA p0 fun a356 =>
  StL h78 (Addr.add a356 6) 0 [(.int .i64 x355)] fun h90 =>
  Wk h90 fun h91 => R (.tuple ⟨[(.int .i64 ((0 : Int))), (.bool false)]⟩) h91)
  (cond (x321 == ((1 : Int)))
  (Ld h78 (Addr.add (⟨r27, 0, none⟩) 2) .sl fun (x361 : Sl) =>
  Ix x361 ((0 : Int)) 2 fun a362 =>
  LdA h78 a362 [(.int .i64), .sl] fun (x363 : ((Int) × (Sl) × Unit)) =>
  StL h78 (⟨r28, 0, none⟩) 0 [(.int .i64 x363.1), (.slice x363.2.1.a x363.2.1.n x363.2.1.c)] fun h92 =>
  Wk h92 fun h93 => J_9 (()) h93)
  (Ld h78 (Addr.add (⟨r27, 0, none⟩) 1) (.int .i64) fun (x324 : Int) =>
  Look h78 ((some r48)) (.int .i64) (.int .i64 x324) (.one (.int .i64)) ((0 : Int)) fun (x325 : Int) _ =>
  CallK Try.prog 46 [(.bool (x325 != ((0 : Int))))] h78 (.un (.one (.int .i64))) fun (x327 : Int) h94 =>
  OA p0 fun a330 =>
  Ld h94 (Addr.add a330 4) .sl fun (x332 : Sl) =>
  New h94 (.cells #[(.int .i64 ((1 : Int))), (.int .i64 x327), (.int .i64 ((0 : Int)))] 108) fun r335 h95 =>
  App h95 x332 ⟨(some ⟨r335, 0, none⟩), 1, 1⟩ 108 3 24 [(.int .i64 ((0 : Int))), (.int .i64 ((0 : Int))), (.int .i64 ((0 : Int)))] fun s336 h96 =>
  OA p0 fun a337 =>
  StL h96 (Addr.add a337 4) 0 [(.slice s336.a s336.n s336.c)] fun h97 =>
  Ld h97 (Addr.add (⟨r27, 0, none⟩) 2) .sl fun (x340 : Sl) =>
  Ix x340 (IntKind.wrap .i64 (((1 : Int)) - x327)) 2 fun a343 =>
  LdA h97 a343 [(.int .i64), .sl] fun (x344 : ((Int) × (Sl) × Unit)) =>
  StL h97 (⟨r28, 0, none⟩) 0 [(.int .i64 x344.1), (.slice x344.2.1.a x344.2.1.n x344.2.1.c)] fun h98 =>
  Wk h98 fun h99 => J_9 (()) h99))))))
  ((0 : Int), ()) h9)
  ((0 : Int), ()) h6))
  ((0 : Int), ()) h5)
theorem S20_eq (p0 : Option Addr) (p1 : Int) (p2 : Sl) (p3 : Int) (h : V) (R : Value → V → Prop) : ABody Try.prog an20 Try.f20 [(.pointer p0), (.int .i64 p1), (.slice p2.a p2.n p2.c), (.int .i64 p3)] h R = S20 p0 p1 p2 p3 h R := by kernel_rfl
theorem S20_ok (p0 : Option Addr) (p1 : Int) (p2 : Sl) (p3 : Int) (h : V) (R : Value → V → Prop) (hk : S20 p0 p1 p2 p3 h R) : ACalls Try.prog 20 [(.pointer p0), (.int .i64 p1), (.slice p2.a p2.n p2.c), (.int .i64 p3)] h R :=
  ABody_sound mixed Try.func20 Try.call20 (by kernel_rfl) (by kernel_rfl) (an := an20) (by rw [S20_eq]; exact hk)

/- palings/palingslaw08.leaks -/
def an21 : An := (.two .nil (.two (.two .nil (.two (.two .nil .nil) .nil)) (.two (.two .nil (.one (.loop [(13, (.one (.int .i64)))] (.two .nil (.two (.two .nil .nil) (.two (.one (.two .nil (.two (.perm [0, 1, 2, 3, 4, 5, 6, 7, 8] []) (.two (.two .nil .nil) .nil)))) .nil)))))) (.two .nil .nil))))
def S21 (p0 : Sl) (p1 : Sl) (h : V) (R : Value → V → Prop) : Prop :=
  cond ((((p0.n : Nat) : Int)) != (((p1.n : Nat) : Int)))
  (Wk h fun h1 => R (.bool false) h1)
  (Lp (σ := (Int × Unit)) (fun K s h2 =>
  cond (decide (s.1 < (((p0.n : Nat) : Int))))
  (Ix p0 s.1 3 fun a18 =>
  LdA h2 a18 [(.int .i64), (.int .i64), (.int .i64)] fun (x19 : ((Int) × (Int) × (Int) × Unit)) =>
  Ix p1 s.1 3 fun a22 =>
  LdA h2 a22 [(.int .i64), (.int .i64), (.int .i64)] fun (x23 : ((Int) × (Int) × (Int) × Unit)) =>
  cond (!((x19.1 == x23.1) && ((x19.2.1 == x23.2.1) && ((x19.2.2.1 == x23.2.2.1) && (true)))))
  (Wk h2 fun h3 => R (.bool false) h3)
  (Wk h2 fun h4 => K (IntKind.wrap .i64 (s.1 + ((1 : Int))), ()) h4))
  (Wk h2 fun h5 => R (.bool true) h5))
  ((0 : Int), ()) h)
theorem S21_eq (p0 : Sl) (p1 : Sl) (h : V) (R : Value → V → Prop) : ABody Try.prog an21 Try.f21 [(.slice p0.a p0.n p0.c), (.slice p1.a p1.n p1.c)] h R = S21 p0 p1 h R := by kernel_rfl
theorem S21_ok (p0 : Sl) (p1 : Sl) (h : V) (R : Value → V → Prop) (hk : S21 p0 p1 h R) : ACalls Try.prog 21 [(.slice p0.a p0.n p0.c), (.slice p1.a p1.n p1.c)] h R :=
  ABody_sound mixed Try.func21 Try.call21 (by kernel_rfl) (by kernel_rfl) (an := an21) (by rw [S21_eq]; exact hk)

/- palings/word.Do -/
def an34 : An := (.two .nil (.two (.two .nil (.one (.two .nil (.two (.two .nil .nil) (.two .nil (.two (.two .nil .nil) (.two .nil (.two (.two .nil .nil) (.cut [(24, (.one .bool))] (.two .nil (.two .nil .nil)) (.two (.two .nil .nil) (.two .nil (.two (.two .nil .nil) (.two .nil (.two (.two .nil .nil) (.two .nil (.two (.two .nil .nil) (.two .nil (.two (.two .nil .nil) (.two .nil (.two (.two .nil .nil) (.two .nil (.two (.two .nil .nil) (.two .nil (.two (.two .nil .nil) (.two .nil (.two (.two .nil .nil) (.two .nil (.two (.two .nil .nil) (.two .nil (.two (.two .nil .nil) .nil)))))))))))))))))))))))))))))) (.two .nil .nil)))
def S34 (p0 : Int) (p1 : Int) (p2 : Int) (h : V) (R : Value → V → Prop) : Prop :=
  cond (p0 == ((1 : Int)))
  (Wk h fun h1 => R (.tuple ⟨[(.int .i64 (IntKind.wrap .i64 (p1 + p2))), (.bool true)]⟩) h1)
  (cond (p0 == ((2 : Int)))
  (Wk h fun h2 => R (.tuple ⟨[(.int .i64 (IntKind.wrap .i64 (p1 - p2))), (.bool true)]⟩) h2)
  (cond (p0 == ((3 : Int)))
  (Wk h fun h3 => R (.tuple ⟨[(.int .i64 (IntKind.wrap .i64 (p1 * p2))), (.bool true)]⟩) h3)
  (Cut (σ := (Bool × Unit)) (fun s h4 =>
  cond s.1
  (CallK Try.prog 62 [(.int .i64 p0), (.int .i64 p1), (.int .i64 p2)] h4 (.tup [(.one (.int .i64)), (.one .bool)]) fun (x30 : (Int × Bool × Unit)) h5 =>
  Wk h5 fun h6 => R (.tuple ⟨[(.int .i64 x30.1), (.bool x30.2.1)]⟩) h6)
  (cond (p0 == ((6 : Int)))
  (Wk h4 fun h7 => R (.tuple ⟨[(.int .i64 (bits .and .i64 p1 p2)), (.bool true)]⟩) h7)
  (cond (p0 == ((7 : Int)))
  (Wk h4 fun h8 => R (.tuple ⟨[(.int .i64 (bits .or .i64 p1 p2)), (.bool true)]⟩) h8)
  (cond (p0 == ((8 : Int)))
  (Wk h4 fun h9 => R (.tuple ⟨[(.int .i64 (bits .xor .i64 p1 p2)), (.bool true)]⟩) h9)
  (cond (p0 == ((9 : Int)))
  ((0 ≤ (bits .and .u64 (IntKind.wrap .u64 p2) ((63 : Int)))) ∧
  Wk h4 fun h10 => R (.tuple ⟨[(.int .i64 (IntKind.wrap .i64 (p1 * 2 ^ (min (Int.toNat (bits .and .u64 (IntKind.wrap .u64 p2) ((63 : Int)))) (IntKind.bits .i64))))), (.bool true)]⟩) h10)
  (cond (p0 == ((10 : Int)))
  ((0 ≤ (bits .and .u64 (IntKind.wrap .u64 p2) ((63 : Int)))) ∧
  Wk h4 fun h11 => R (.tuple ⟨[(.int .i64 (Int.fdiv p1 (2 ^ (min (Int.toNat (bits .and .u64 (IntKind.wrap .u64 p2) ((63 : Int)))) (IntKind.bits .i64))))), (.bool true)]⟩) h11)
  (cond (p0 == ((11 : Int)))
  (CallK Try.prog 46 [(.bool (p1 == p2))] h4 (.un (.one (.int .i64))) fun (x67 : Int) h12 =>
  Wk h12 fun h13 => R (.tuple ⟨[(.int .i64 x67), (.bool true)]⟩) h13)
  (cond (p0 == ((12 : Int)))
  (CallK Try.prog 46 [(.bool (p1 != p2))] h4 (.un (.one (.int .i64))) fun (x73 : Int) h14 =>
  Wk h14 fun h15 => R (.tuple ⟨[(.int .i64 x73), (.bool true)]⟩) h15)
  (cond (p0 == ((13 : Int)))
  (CallK Try.prog 46 [(.bool (decide (p1 < p2)))] h4 (.un (.one (.int .i64))) fun (x79 : Int) h16 =>
  Wk h16 fun h17 => R (.tuple ⟨[(.int .i64 x79), (.bool true)]⟩) h17)
  (cond (p0 == ((14 : Int)))
  (CallK Try.prog 46 [(.bool (decide (p1 ≤ p2)))] h4 (.un (.one (.int .i64))) fun (x85 : Int) h18 =>
  Wk h18 fun h19 => R (.tuple ⟨[(.int .i64 x85), (.bool true)]⟩) h19)
  (cond (p0 == ((15 : Int)))
  (CallK Try.prog 46 [(.bool (decide ((IntKind.wrap .u64 p1) < (IntKind.wrap .u64 p2))))] h4 (.un (.one (.int .i64))) fun (x93 : Int) h20 =>
  Wk h20 fun h21 => R (.tuple ⟨[(.int .i64 x93), (.bool true)]⟩) h21)
  (Wk h4 fun h22 => R (.tuple ⟨[(.int .i64 ((0 : Int))), (.bool false)]⟩) h22)))))))))))) fun J =>
  cond (p0 == ((4 : Int)))
  (Wk h fun h23 => J (p0 == ((4 : Int)), ()) h23)
  (Wk h fun h24 => J (p0 == ((5 : Int)), ()) h24))))
theorem S34_eq (p0 : Int) (p1 : Int) (p2 : Int) (h : V) (R : Value → V → Prop) : ABody Try.prog an34 Try.f34 [(.int .i64 p0), (.int .i64 p1), (.int .i64 p2)] h R = S34 p0 p1 p2 h R := by kernel_rfl
theorem S34_ok (p0 : Int) (p1 : Int) (p2 : Int) (h : V) (R : Value → V → Prop) (hk : S34 p0 p1 p2 h R) : ACalls Try.prog 34 [(.int .i64 p0), (.int .i64 p1), (.int .i64 p2)] h R :=
  ABody_sound mixed Try.func34 Try.call34 (by kernel_rfl) (by kernel_rfl) (an := an34) (by rw [S34_eq]; exact hk)

/- (*palings/sim.machine).enter -/
def an36 : An := (.two .nil (.two (.two .nil (.two (.two .nil .nil) .nil)) (.two .nil (.two (.two .nil (.one (.loop [(32, (.one (.int .i64)))] (.two .nil (.two (.two .nil .nil) (.two (.one (.two .nil (.perm [0, 1, 2, 3, 4, 5, 6, 7] []))) .nil)))))) (.two (.perm [0, 1, 2, 3, 4, 5, 6, 7, 8, 9, 10] []) (.two (.perm [0, 1, 2, 3, 4, 5, 6, 7, 8, 9, 10, 11, 12, 13, 14, 15] []) (.two .nil .nil)))))))
def S36 (p0 : Option Addr) (p1 : Int) (p2 : Sl) (p3 : Int) (h : V) (R : Value → V → Prop) : Prop :=
  OA p0 fun a13 =>
  Ld h (Addr.add a13 3) .sl fun (x15 : Sl) =>
  cond (decide ((((x15.n : Nat) : Int)) ≥ ((2000 : Int))))
  (Wk h fun h1 => R (.bool false) h1)
  (New h (.map #[] 0) fun r19 h2 =>
  New h2 (.cells #[(.int .i64 ((0 : Int))), (.int .i64 ((0 : Int))), (.int .i64 ((0 : Int))), (.map none), (.int .i64 ((0 : Int)))] 132) fun r9 h3 =>
  StL h3 (⟨r9, 0, none⟩) 0 [(.int .i64 p1), (.int .i64 ((0 : Int))), (.int .i64 ((0 : Int))), (.map ((some r19))), (.int .i64 p3)] fun h4 =>
  OA p0 fun a23 =>
  Ld h4 (Addr.add (Addr.add a23 0) 1) .sl fun (x26 : Sl) =>
  Ix x26 p1 2 fun a28 =>
  LdA h4 a28 [.str, .sl] fun (x29 : ((ByteArray) × (Sl) × Unit)) =>
  CallK Try.prog 38 [(.agg ⟨[(.string x29.1), (.slice x29.2.1.a x29.2.1.n x29.2.1.c)]⟩)] h4 (.un (.one .sl)) fun (x30 : Sl) h5 =>
  Lp (σ := (Int × Unit)) (fun K s h6 =>
  cond (decide (s.1 < (((x30.n : Nat) : Int))))
  (Ix x30 s.1 1 fun a35 =>
  Ld h6 a35 (.int .i64) fun (x36 : Int) =>
  Ld h6 (Addr.add (⟨r9, 0, none⟩) 3) .mp fun (x38 : Option Nat) =>
  Ix p2 s.1 1 fun a42 =>
  Ld h6 a42 (.int .i64) fun (x43 : Int) =>
  MUpd h6 x38 (.int .i64) (.int .i64 x36) (.int .i64 x43) fun h7 =>
  Wk h7 fun h8 => K (IntKind.wrap .i64 (s.1 + ((1 : Int))), ()) h8)
  (OA p0 fun a47 =>
  Ld h6 (Addr.add a47 3) .sl fun (x49 : Sl) =>
  LdA h6 (⟨r9, 0, none⟩) [(.int .i64), (.int .i64), (.int .i64), .mp, (.int .i64)] fun (x50 : ((Int) × (Int) × (Int) × (Option Nat) × (Int) × Unit)) =>
  New h6 (.cells #[(.int .i64 x50.1), (.int .i64 x50.2.1), (.int .i64 x50.2.2.1), (.map x50.2.2.2.1), (.int .i64 x50.2.2.2.2.1)] 132) fun r51 h9 =>
  App h9 x49 ⟨(some ⟨r51, 0, none⟩), 1, 1⟩ 132 5 40 [(.int .i64 ((0 : Int))), (.int .i64 ((0 : Int))), (.int .i64 ((0 : Int))), (.map none), (.int .i64 ((0 : Int)))] fun s52 h10 =>
  OA p0 fun a53 =>
  StL h10 (Addr.add a53 3) 0 [(.slice s52.a s52.n s52.c)] fun h11 =>
  OA p0 fun a57 =>
  Ld h11 (Addr.add (Addr.add a57 4) 4) (.int .i64) fun (x60 : Int) =>
  OA p0 fun a62 =>
  Ld h11 (Addr.add a62 3) .sl fun (x64 : Sl) =>
  OA p0 fun a67 =>
  StL h11 (Addr.add (Addr.add a67 4) 4) 0 [(.int .i64 (if (((x64.n : Nat) : Int)) > x60 then (((x64.n : Nat) : Int)) else x60))] fun h12 =>
  Wk h12 fun h13 => R (.bool true) h13))
  ((0 : Int), ()) h5)
theorem S36_eq (p0 : Option Addr) (p1 : Int) (p2 : Sl) (p3 : Int) (h : V) (R : Value → V → Prop) : ABody Try.prog an36 Try.f36 [(.pointer p0), (.int .i64 p1), (.slice p2.a p2.n p2.c), (.int .i64 p3)] h R = S36 p0 p1 p2 p3 h R := by kernel_rfl
theorem S36_ok (p0 : Option Addr) (p1 : Int) (p2 : Sl) (p3 : Int) (h : V) (R : Value → V → Prop) (hk : S36 p0 p1 p2 p3 h R) : ACalls Try.prog 36 [(.pointer p0), (.int .i64 p1), (.slice p2.a p2.n p2.c), (.int .i64 p3)] h R :=
  ABody_sound mixed Try.func36 Try.call36 (by kernel_rfl) (by kernel_rfl) (an := an36) (by rw [S36_eq]; exact hk)

/- (*palings/sim.machine).step -/
def an37 : An := (.two .nil (.two (.perm [0, 1, 2, 3, 4, 5, 6, 7, 8, 9, 10, 11] []) (.two (.perm [0, 1, 2, 3, 4, 5, 6, 7, 8, 9, 10, 11, 12, 13, 14, 15, 16, 17, 18, 19] []) (.two (.two (.perm [0, 1, 2, 3, 4, 5, 6, 7] []) (.two (.two .nil (.two .nil .nil)) .nil)) (.two .nil (.two (.perm [0, 1, 2, 3, 4, 5, 6, 7, 8, 9, 10, 11, 12] []) .nil))))))
def S37 (p0 : Option Addr) (h : V) (R : Value → V → Prop) : Prop :=
  OA p0 fun a6 =>
  Ld h (Addr.add a6 3) .sl fun (x8 : Sl) =>
  OA p0 fun a10 =>
  Ld h (Addr.add a10 3) .sl fun (x12 : Sl) =>
  Ix x8 (IntKind.wrap .i64 ((((x12.n : Nat) : Int)) - ((1 : Int)))) 5 fun a15 =>
  OA p0 fun a17 =>
  Ld h (Addr.add (Addr.add a17 0) 1) .sl fun (x20 : Sl) =>
  Ld h (Addr.add a15 0) (.int .i64) fun (x24 : Int) =>
  Ix x20 x24 2 fun a25 =>
  Ld h (Addr.add a25 1) .sl fun (x27 : Sl) =>
  Ld h (Addr.add a15 1) (.int .i64) fun (x31 : Int) =>
  Ix x27 x31 6 fun a32 =>
  LdA h a32 [.sl, .sl, (.int .i64), (.int .i64), .sl, (.int .i64)] fun (x33 : ((Sl) × (Sl) × (Int) × (Int) × (Sl) × (Int) × Unit)) =>
  New h (.cells #[(.slice none 0 0), (.slice none 0 0), (.int .i64 ((0 : Int))), (.int .i64 ((0 : Int))), (.slice none 0 0), (.int .i64 ((0 : Int)))] 60) fun r4 h1 =>
  StL h1 (⟨r4, 0, none⟩) 0 [(.slice x33.1.a x33.1.n x33.1.c), (.slice x33.2.1.a x33.2.1.n x33.2.1.c), (.int .i64 x33.2.2.1), (.int .i64 x33.2.2.2.1), (.slice x33.2.2.2.2.1.a x33.2.2.2.2.1.n x33.2.2.2.2.1.c), (.int .i64 x33.2.2.2.2.2.1)] fun h2 =>
  Ld h2 (Addr.add a15 2) (.int .i64) fun (x37 : Int) =>
  Ld h2 (Addr.add (⟨r4, 0, none⟩) 1) .sl fun (x39 : Sl) =>
  cond (x37 == (((x39.n : Nat) : Int)))
  (LdA h2 (Addr.add (⟨r4, 0, none⟩) 2) [(.int .i64), (.int .i64), .sl, (.int .i64)] fun (x45 : ((Int) × (Int) × (Sl) × (Int) × Unit)) =>
  CallK Try.prog 63 [(.pointer p0), (.pointer (some a15)), (.agg ⟨[(.int .i64 x45.1), (.int .i64 x45.2.1), (.slice x45.2.2.1.a x45.2.2.1.n x45.2.2.1.c), (.int .i64 x45.2.2.2.1)]⟩)] h2 (.tup []) fun (_ : (Unit)) h3 =>
  Wk h3 fun h4 => R (.bool true) h4)
  (Ld h2 (Addr.add a15 2) (.int .i64) fun (x50 : Int) =>
  StL h2 (Addr.add a15 2) 0 [(.int .i64 (IntKind.wrap .i64 (x50 + ((1 : Int)))))] fun h5 =>
  Ld h5 (Addr.add (⟨r4, 0, none⟩) 1) .sl fun (x57 : Sl) =>
  Ld h5 (Addr.add a15 2) (.int .i64) fun (x61 : Int) =>
  Ix x57 (IntKind.wrap .i64 (x61 - ((1 : Int)))) 7 fun a63 =>
  LdA h5 a63 [(.int .i64), (.int .i64), .sl, (.int .i64), (.int .i64), (.int .i64), (.int .i64)] fun (x64 : ((Int) × (Int) × (Sl) × (Int) × (Int) × (Int) × (Int) × Unit)) =>
  CallK Try.prog 64 [(.pointer p0), (.pointer (some a15)), (.agg ⟨[(.int .i64 x64.1), (.int .i64 x64.2.1), (.slice x64.2.2.1.a x64.2.2.1.n x64.2.2.1.c), (.int .i64 x64.2.2.2.1), (.int .i64 x64.2.2.2.2.1), (.int .i64 x64.2.2.2.2.2.1), (.int .i64 x64.2.2.2.2.2.2.1)]⟩)] h5 (.un (.one .bool)) fun (x65 : Bool) h6 =>
  Wk h6 fun h7 => R (.bool x65) h7)
theorem S37_eq (p0 : Option Addr) (h : V) (R : Value → V → Prop) : ABody Try.prog an37 Try.f37 [(.pointer p0)] h R = S37 p0 h R := by kernel_rfl
theorem S37_ok (p0 : Option Addr) (h : V) (R : Value → V → Prop) (hk : S37 p0 h R) : ACalls Try.prog 37 [(.pointer p0)] h R :=
  ABody_sound mixed Try.func37 Try.call37 (by kernel_rfl) (by kernel_rfl) (an := an37) (by rw [S37_eq]; exact hk)

/- palings/word.Bool -/
def an46 : An := (.two .nil (.two (.two .nil (.two (.two .nil .nil) .nil)) (.two .nil .nil)))
def S46 (p0 : Bool) (h : V) (R : Value → V → Prop) : Prop :=
  cond p0
  (Wk h fun h1 => R (.int .i64 ((1 : Int))) h1)
  (Wk h fun h2 => R (.int .i64 ((0 : Int))) h2)
theorem S46_eq (p0 : Bool) (h : V) (R : Value → V → Prop) : ABody Try.prog an46 Try.f46 [(.bool p0)] h R = S46 p0 h R := by kernel_rfl
theorem S46_ok (p0 : Bool) (h : V) (R : Value → V → Prop) (hk : S46 p0 h R) : ACalls Try.prog 46 [(.bool p0)] h R :=
  ABody_sound mixed Try.func46 Try.call46 (by kernel_rfl) (by kernel_rfl) (an := an46) (by rw [S46_eq]; exact hk)

/- palings/word.divide -/
def an62 : An := (.two .nil (.two (.one (.two .nil (.two (.two .nil .nil) (.cut [(11, (.one .bool))] .nil (.two (.two .nil .nil) (.two .nil (.two (.two .nil .nil) (.two .nil (.two (.two .nil .nil) .nil))))))))) (.two .nil .nil)))
def S62 (p0 : Int) (p1 : Int) (p2 : Int) (h : V) (R : Value → V → Prop) : Prop :=
  cond (p2 == ((0 : Int)))
  (Wk h fun h1 => R (.tuple ⟨[(.int .i64 ((0 : Int))), (.bool false)]⟩) h1)
  (Cut (σ := (Bool × Unit)) (fun s h2 =>
  cond s.1
  (Wk h2 fun h3 => R (.tuple ⟨[(.int .i64 (IntKind.wrap .i64 (0 - p1))), (.bool true)]⟩) h3)
  (cond (p2 == ((-1 : Int)))
  (Wk h2 fun h4 => R (.tuple ⟨[(.int .i64 ((0 : Int))), (.bool true)]⟩) h4)
  (cond (p0 == ((4 : Int)))
  ((p2 ≠ 0) ∧
  Wk h2 fun h5 => R (.tuple ⟨[(.int .i64 (IntKind.wrap .i64 (Int.tdiv p1 p2))), (.bool true)]⟩) h5)
  ((p2 ≠ 0) ∧
  Wk h2 fun h6 => R (.tuple ⟨[(.int .i64 (Int.tmod p1 p2)), (.bool true)]⟩) h6)))) fun J =>
  cond (p2 == ((-1 : Int)))
  (Wk h fun h7 => J (p0 == ((4 : Int)), ()) h7)
  (Wk h fun h8 => J (false, ()) h8))
theorem S62_eq (p0 : Int) (p1 : Int) (p2 : Int) (h : V) (R : Value → V → Prop) : ABody Try.prog an62 Try.f62 [(.int .i64 p0), (.int .i64 p1), (.int .i64 p2)] h R = S62 p0 p1 p2 h R := by kernel_rfl
theorem S62_ok (p0 : Int) (p1 : Int) (p2 : Int) (h : V) (R : Value → V → Prop) (hk : S62 p0 p1 p2 h R) : ACalls Try.prog 62 [(.int .i64 p0), (.int .i64 p1), (.int .i64 p2)] h R :=
  ABody_sound mixed Try.func62 Try.call62 (by kernel_rfl) (by kernel_rfl) (an := an62) (by rw [S62_eq]; exact hk)

/- (*palings/sim.machine).finish -/
def an63 : An := (.two .nil (.two .nil (.cut [(6, (.one (.int .i64)))] (.two .nil (.one (.two .nil (.two (.two (.perm [0, 1, 2, 3, 4, 5, 6, 7, 8] []) .nil) (.two .nil (.two (.two .nil .nil) (.two .nil (.two (.two (.perm [0, 1, 2, 3, 4, 5, 6, 7, 8, 9] []) (.two .nil .nil)) .nil)))))))) (.two .nil (.two .nil (.two (.two (.perm [0, 1, 2, 3, 4, 5, 6, 7, 8, 9, 10, 11, 12, 13, 14, 15, 16, 17, 18] []) (.one (.loop [(74, (.one (.int .i64)))] (.two .nil (.two (.two .nil .nil) (.two (.one (.two .nil (.perm [0, 1, 2, 3, 4, 5, 6, 7, 8, 9] []))) .nil)))))) .nil))))))
def S63 (p0 : Option Addr) (p1 : Option Addr) (p2_0 : Int) (p2_1 : Int) (p2_2 : Sl) (p2_3 : Int) (h : V) (R : Value → V → Prop) : Prop :=
  New h (.cells #[(.int .i64 p2_0), (.int .i64 p2_1), (.slice p2_2.a p2_2.n p2_2.c), (.int .i64 p2_3)] 58) fun r5 h1 =>
  Cut (σ := (Int × Unit)) (fun s h2 =>
  Ld h2 (Addr.add (⟨r5, 0, none⟩) 2) .sl fun (x48 : Sl) =>
  Ix x48 s.1 2 fun a50 =>
  LdA h2 a50 [(.int .i64), .sl] fun (x51 : ((Int) × (Sl) × Unit)) =>
  New h2 (.cells #[(.int .i64 ((0 : Int))), (.slice none 0 0)] 55) fun r8 h3 =>
  StL h3 (⟨r8, 0, none⟩) 0 [(.int .i64 x51.1), (.slice x51.2.1.a x51.2.1.n x51.2.1.c)] fun h4 =>
  Ld h4 (Addr.add (⟨r8, 0, none⟩) 1) .sl fun (x54 : Sl) =>
  CallK Try.prog 98 [(.pointer p1), (.slice x54.a x54.n x54.c)] h4 (.un (.one .sl)) fun (x55 : Sl) h5 =>
  OA p0 fun a57 =>
  Ld h5 (Addr.add (Addr.add a57 0) 1) .sl fun (x60 : Sl) =>
  OA p1 fun a62 =>
  Ld h5 (Addr.add a62 0) (.int .i64) fun (x64 : Int) =>
  Ix x60 x64 2 fun a65 =>
  Ld h5 (Addr.add a65 1) .sl fun (x67 : Sl) =>
  Ld h5 (Addr.add (⟨r8, 0, none⟩) 0) (.int .i64) fun (x69 : Int) =>
  Ix x67 x69 6 fun a70 =>
  Ld h5 (Addr.add a70 0) .sl fun (x72 : Sl) =>
  Lp (σ := (Int × Unit)) (fun K s_1 h6 =>
  cond (decide (s_1.1 < (((x72.n : Nat) : Int))))
  (Ix x72 s_1.1 1 fun a77 =>
  Ld h6 a77 (.int .i64) fun (x78 : Int) =>
  OA p1 fun a80 =>
  Ld h6 (Addr.add a80 3) .mp fun (x82 : Option Nat) =>
  Ix x55 s_1.1 1 fun a86 =>
  Ld h6 a86 (.int .i64) fun (x87 : Int) =>
  MUpd h6 x82 (.int .i64) (.int .i64 x78) (.int .i64 x87) fun h7 =>
  Wk h7 fun h8 => K (IntKind.wrap .i64 (s_1.1 + ((1 : Int))), ()) h8)
  (Ld h6 (Addr.add (⟨r8, 0, none⟩) 0) (.int .i64) fun (x92 : Int) =>
  OA p1 fun a93 =>
  StL h6 (Addr.add a93 1) 0 [(.int .i64 x92)] fun h9 =>
  OA p1 fun a95 =>
  StL h9 (Addr.add a95 2) 0 [(.int .i64 ((0 : Int)))] fun h10 =>
  Wk h10 fun h11 => R (.tuple ⟨[]⟩) h11))
  ((0 : Int), ()) h5) fun J =>
  Ld h1 (Addr.add (⟨r5, 0, none⟩) 0) (.int .i64) fun (x13 : Int) =>
  cond (x13 == ((3 : Int)))
  (OA p1 fun a18 =>
  Ld h1 (Addr.add a18 3) .mp fun (x20 : Option Nat) =>
  Ld h1 (Addr.add (⟨r5, 0, none⟩) 1) (.int .i64) fun (x22 : Int) =>
  Look h1 x20 (.int .i64) (.int .i64 x22) (.one (.int .i64)) ((0 : Int)) fun (x23 : Int) _ =>
  CallK Try.prog 95 [(.pointer p0), (.int .i64 x23)] h1 (.tup []) fun (_ : (Unit)) h12 =>
  Wk h12 fun h13 => R (.tuple ⟨[]⟩) h13)
  (cond (x13 == ((4 : Int)))
  (Ld h1 (Addr.add (⟨r5, 0, none⟩) 3) (.int .i64) fun (x29 : Int) =>
  CallK Try.prog 96 [(.pointer p0), (.int .i64 x29)] h1 (.tup []) fun (_ : (Unit)) h14 =>
  Wk h14 fun h15 => R (.tuple ⟨[]⟩) h15)
  (cond (x13 == ((2 : Int)))
  (OA p1 fun a34 =>
  Ld h1 (Addr.add a34 3) .mp fun (x36 : Option Nat) =>
  Ld h1 (Addr.add (⟨r5, 0, none⟩) 1) (.int .i64) fun (x38 : Int) =>
  Look h1 x36 (.int .i64) (.int .i64 x38) (.one (.int .i64)) ((0 : Int)) fun (x39 : Int) _ =>
  CallK Try.prog 46 [(.bool (x39 != ((0 : Int))))] h1 (.un (.one (.int .i64))) fun (x41 : Int) h16 =>
  CallK Try.prog 97 [(.pointer p0), (.int .i64 ((1 : Int))), (.int .i64 x41), (.int .i64 ((0 : Int)))] h16 (.tup []) fun (_ : (Unit)) h17 =>
  Wk h17 fun h18 => J (IntKind.wrap .i64 (((1 : Int)) - x41), ()) h18)
  (Wk h1 fun h19 => J ((0 : Int), ()) h19)))
theorem S63_eq (p0 : Option Addr) (p1 : Option Addr) (p2_0 : Int) (p2_1 : Int) (p2_2 : Sl) (p2_3 : Int) (h : V) (R : Value → V → Prop) : ABody Try.prog an63 Try.f63 [(.pointer p0), (.pointer p1), (.agg ⟨[(.int .i64 p2_0), (.int .i64 p2_1), (.slice p2_2.a p2_2.n p2_2.c), (.int .i64 p2_3)]⟩)] h R = S63 p0 p1 p2_0 p2_1 p2_2 p2_3 h R := by kernel_rfl
theorem S63_ok (p0 : Option Addr) (p1 : Option Addr) (p2_0 : Int) (p2_1 : Int) (p2_2 : Sl) (p2_3 : Int) (h : V) (R : Value → V → Prop) (hk : S63 p0 p1 p2_0 p2_1 p2_2 p2_3 h R) : ACalls Try.prog 63 [(.pointer p0), (.pointer p1), (.agg ⟨[(.int .i64 p2_0), (.int .i64 p2_1), (.slice p2_2.a p2_2.n p2_2.c), (.int .i64 p2_3)]⟩)] h R :=
  ABody_sound mixed Try.func63 Try.call63 (by kernel_rfl) (by kernel_rfl) (an := an63) (by rw [S63_eq]; exact hk)

/- (*palings/sim.machine).do -/
def an64 : An := (.two .nil (.two .nil (.two (.two .nil (.one (.two .nil (.two (.perm [0, 1, 2, 3, 4, 5, 6, 7, 8] []) (.two .nil (.two (.cut [] (.two .nil (.two (.perm [0, 1, 2, 3, 4, 5, 6, 7] []) .nil)) (.two (.perm [0, 1, 2, 3, 4, 5, 6, 7, 8, 9, 10, 11, 12, 13] []) (.two (.perm [0, 1, 2, 3, 4, 5, 6, 7] []) (.two .nil (.two .nil .nil))))) (.two .nil (.two (.perm [0, 1, 2, 3, 4, 5, 6, 7, 8, 9, 10, 11, 12, 13, 14, 15, 16, 17] []) (.two .nil (.two (.perm [0, 1, 2, 3, 4, 5, 6, 7, 8, 9, 10, 11, 12, 13] []) (.two .nil (.two (.two .nil (.two (.perm [0, 1, 2, 3, 4, 5, 6, 7] []) (.two .nil (.two (.perm [0, 1, 2, 3, 4, 5, 6, 7, 8, 9] []) .nil)))) (.two .nil (.two (.two .nil (.two (.perm [0, 1, 2, 3, 4, 5, 6, 7] []) (.two .nil (.two .nil .nil)))) (.two .nil (.two (.two .nil .nil) .nil)))))))))))))))) (.two .nil .nil))))
def S64 (p0 : Option Addr) (p1 : Option Addr) (p2_0 : Int) (p2_1 : Int) (p2_2 : Sl) (p2_3 : Int) (p2_4 : Int) (p2_5 : Int) (p2_6 : Int) (h : V) (R : Value → V → Prop) : Prop :=
  New h (.cells #[(.int .i64 p2_0), (.int .i64 p2_1), (.slice p2_2.a p2_2.n p2_2.c), (.int .i64 p2_3), (.int .i64 p2_4), (.int .i64 p2_5), (.int .i64 p2_6)] 51) fun r5 h1 =>
  Ld h1 (Addr.add (⟨r5, 0, none⟩) 2) .sl fun (x14 : Sl) =>
  CallK Try.prog 98 [(.pointer p1), (.slice x14.a x14.n x14.c)] h1 (.un (.one .sl)) fun (x15 : Sl) h2 =>
  Ld h2 (Addr.add (⟨r5, 0, none⟩) 0) (.int .i64) fun (x17 : Int) =>
  cond (x17 == ((1 : Int)))
  (OA p1 fun a21 =>
  Ld h2 (Addr.add a21 3) .mp fun (x23 : Option Nat) =>
  Ld h2 (Addr.add (⟨r5, 0, none⟩) 1) (.int .i64) fun (x25 : Int) =>
  Ld h2 (Addr.add (⟨r5, 0, none⟩) 3) (.int .i64) fun (x27 : Int) =>
  MUpd h2 x23 (.int .i64) (.int .i64 x25) (.int .i64 x27) fun h3 =>
  Wk h3 fun h4 => R (.bool true) h4)
  (cond (x17 == ((2 : Int)))
  (Cut (σ := (Unit)) (fun _ h5 =>
  Ld h5 (Addr.add (⟨r5, 0, none⟩) 4) (.int .i64) fun (x43 : Int) =>
  Ix x15 ((0 : Int)) 1 fun a45 =>
  Ld h5 a45 (.int .i64) fun (x46 : Int) =>
  Ix x15 ((1 : Int)) 1 fun a48 =>
  Ld h5 a48 (.int .i64) fun (x49 : Int) =>
  CallK Try.prog 34 [(.int .i64 x43), (.int .i64 x46), (.int .i64 x49)] h5 (.tup [(.one (.int .i64)), (.one .bool)]) fun (x50 : (Int × Bool × Unit)) h6 =>
  OA p1 fun a54 =>
  Ld h6 (Addr.add a54 3) .mp fun (x56 : Option Nat) =>
  Ld h6 (Addr.add (⟨r5, 0, none⟩) 1) (.int .i64) fun (x58 : Int) =>
  MUpd h6 x56 (.int .i64) (.int .i64 x58) (.int .i64 x50.1) fun h7 =>
  cond (!x50.2.1)
  (CallK Try.prog 96 [(.pointer p0), (.int .i64 ((2 : Int)))] h7 (.tup []) fun (_ : (Unit)) h8 =>
  Wk h8 fun h9 => R (.bool true) h9)
  (Wk h7 fun h10 => R (.bool true) h10)) fun J =>
  Ld h2 (Addr.add (⟨r5, 0, none⟩) 4) (.int .i64) fun (x31 : Int) =>
  CallK Try.prog 35 [(.int .i64 x31)] h2 (.un (.one .bool)) fun (x32 : Bool) h11 =>
  cond x32
  (Ix x15 ((0 : Int)) 1 fun a35 =>
  Ld h11 a35 (.int .i64) fun (x36 : Int) =>
  Ix x15 ((1 : Int)) 1 fun a38 =>
  Ld h11 a38 (.int .i64) fun (x39 : Int) =>
  CallK Try.prog 97 [(.pointer p0), (.int .i64 ((3 : Int))), (.int .i64 x36), (.int .i64 x39)] h11 (.tup []) fun (_ : (Unit)) h12 =>
  Wk h12 fun h13 => J (()) h13)
  (Wk h11 fun h14 => J (()) h14))
  (cond (x17 == ((3 : Int)))
  (OA p1 fun a67 =>
  Ld h2 (Addr.add a67 3) .mp fun (x69 : Option Nat) =>
  Ld h2 (Addr.add (⟨r5, 0, none⟩) 1) (.int .i64) fun (x71 : Int) =>
  OA p0 fun a73 =>
  Ld h2 (Addr.add (Addr.add a73 4) 5) .sl fun (x76 : Sl) =>
  Ld h2 (Addr.add (⟨r5, 0, none⟩) 5) (.int .i64) fun (x78 : Int) =>
  Ix x76 x78 1 fun a79 =>
  Ld h2 a79 .sl fun (x80 : Sl) =>
  Ix x80 ((0 : Int)) 1 fun a81 =>
  Ld h2 a81 (.int .i64) fun (x82 : Int) =>
  MUpd h2 x69 (.int .i64) (.int .i64 x71) (.int .i64 x82) fun h15 =>
  Wk h15 fun h16 => R (.bool true) h16)
  (cond (x17 == ((4 : Int)))
  (OA p0 fun a86 =>
  Ld h2 (Addr.add (Addr.add a86 4) 5) .sl fun (x89 : Sl) =>
  Ld h2 (Addr.add (⟨r5, 0, none⟩) 5) (.int .i64) fun (x91 : Int) =>
  Ix x89 x91 1 fun a92 =>
  Ld h2 a92 .sl fun (x93 : Sl) =>
  Ix x15 ((0 : Int)) 1 fun a95 =>
  Ld h2 a95 (.int .i64) fun (x96 : Int) =>
  Ix x93 ((0 : Int)) 1 fun a97 =>
  StL h2 a97 0 [(.int .i64 x96)] fun h17 =>
  Wk h17 fun h18 => R (.bool true) h18)
  (cond (x17 == ((5 : Int)))
  (Ix x15 ((0 : Int)) 1 fun a102 =>
  Ld h2 a102 (.int .i64) fun (x103 : Int) =>
  CallK Try.prog 97 [(.pointer p0), (.int .i64 ((2 : Int))), (.int .i64 x103), (.int .i64 ((0 : Int)))] h2 (.tup []) fun (_ : (Unit)) h19 =>
  Ld h19 (Addr.add (⟨r5, 0, none⟩) 5) (.int .i64) fun (x107 : Int) =>
  Ix x15 ((0 : Int)) 1 fun a109 =>
  Ld h19 a109 (.int .i64) fun (x110 : Int) =>
  CallK Try.prog 99 [(.pointer p0), (.int .i64 x107), (.int .i64 x110)] h19 (.un (.one .ptr)) fun (x111 : Option Addr) h20 =>
  cond (!(Option.isNone x111))
  (OA p1 fun a115 =>
  Ld h20 (Addr.add a115 3) .mp fun (x117 : Option Nat) =>
  Ld h20 (Addr.add (⟨r5, 0, none⟩) 1) (.int .i64) fun (x119 : Int) =>
  OA x111 fun a121 =>
  Ld h20 a121 (.int .i64) fun (x122 : Int) =>
  MUpd h20 x117 (.int .i64) (.int .i64 x119) (.int .i64 x122) fun h21 =>
  Wk h21 fun h22 => R (.bool true) h22)
  (Wk h20 fun h23 => R (.bool true) h23))
  (cond (x17 == ((6 : Int)))
  (Ix x15 ((0 : Int)) 1 fun a127 =>
  Ld h2 a127 (.int .i64) fun (x128 : Int) =>
  CallK Try.prog 97 [(.pointer p0), (.int .i64 ((2 : Int))), (.int .i64 x128), (.int .i64 ((0 : Int)))] h2 (.tup []) fun (_ : (Unit)) h24 =>
  Ld h24 (Addr.add (⟨r5, 0, none⟩) 5) (.int .i64) fun (x132 : Int) =>
  Ix x15 ((0 : Int)) 1 fun a134 =>
  Ld h24 a134 (.int .i64) fun (x135 : Int) =>
  CallK Try.prog 99 [(.pointer p0), (.int .i64 x132), (.int .i64 x135)] h24 (.un (.one .ptr)) fun (x136 : Option Addr) h25 =>
  cond (!(Option.isNone x136))
  (Ix x15 ((1 : Int)) 1 fun a141 =>
  Ld h25 a141 (.int .i64) fun (x142 : Int) =>
  OA x136 fun a143 =>
  StL h25 a143 0 [(.int .i64 x142)] fun h26 =>
  Wk h26 fun h27 => R (.bool true) h27)
  (Wk h25 fun h28 => R (.bool true) h28))
  (cond (x17 == ((7 : Int)))
  (Ld h2 (Addr.add (⟨r5, 0, none⟩) 6) (.int .i64) fun (x148 : Int) =>
  Ld h2 (Addr.add (⟨r5, 0, none⟩) 1) (.int .i64) fun (x151 : Int) =>
  CallK Try.prog 36 [(.pointer p0), (.int .i64 x148), (.slice x15.a x15.n x15.c), (.int .i64 x151)] h2 (.un (.one .bool)) fun (x152 : Bool) h29 =>
  Wk h29 fun h30 => R (.bool x152) h30)
  (Wk h2 fun h31 => R (.bool true) h31)))))))
theorem S64_eq (p0 : Option Addr) (p1 : Option Addr) (p2_0 : Int) (p2_1 : Int) (p2_2 : Sl) (p2_3 : Int) (p2_4 : Int) (p2_5 : Int) (p2_6 : Int) (h : V) (R : Value → V → Prop) : ABody Try.prog an64 Try.f64 [(.pointer p0), (.pointer p1), (.agg ⟨[(.int .i64 p2_0), (.int .i64 p2_1), (.slice p2_2.a p2_2.n p2_2.c), (.int .i64 p2_3), (.int .i64 p2_4), (.int .i64 p2_5), (.int .i64 p2_6)]⟩)] h R = S64 p0 p1 p2_0 p2_1 p2_2 p2_3 p2_4 p2_5 p2_6 h R := by kernel_rfl
theorem S64_ok (p0 : Option Addr) (p1 : Option Addr) (p2_0 : Int) (p2_1 : Int) (p2_2 : Sl) (p2_3 : Int) (p2_4 : Int) (p2_5 : Int) (p2_6 : Int) (h : V) (R : Value → V → Prop) (hk : S64 p0 p1 p2_0 p2_1 p2_2 p2_3 p2_4 p2_5 p2_6 h R) : ACalls Try.prog 64 [(.pointer p0), (.pointer p1), (.agg ⟨[(.int .i64 p2_0), (.int .i64 p2_1), (.slice p2_2.a p2_2.n p2_2.c), (.int .i64 p2_3), (.int .i64 p2_4), (.int .i64 p2_5), (.int .i64 p2_6)]⟩)] h R :=
  ABody_sound mixed Try.func64 Try.call64 (by kernel_rfl) (by kernel_rfl) (an := an64) (by rw [S64_eq]; exact hk)

/- (*palings/sim.machine).leave -/
def an95 : An := (.two (.perm [0, 1, 2, 3, 4, 5, 6, 7, 8, 9, 10, 11, 12, 13] []) (.two (.perm [0, 1, 2, 3, 4, 5, 6, 7, 8, 9, 10, 11, 12, 13, 14] []) (.two (.two .nil (.two (.two .nil .nil) .nil)) (.perm [0, 1, 2, 3, 4, 5, 6, 7, 8, 9, 10, 11, 12, 13, 14, 15] []))))
def S95 (p0 : Option Addr) (p1 : Int) (h : V) (R : Value → V → Prop) : Prop :=
  OA p0 fun a6 =>
  Ld h (Addr.add a6 3) .sl fun (x8 : Sl) =>
  OA p0 fun a10 =>
  Ld h (Addr.add a10 3) .sl fun (x12 : Sl) =>
  Ix x8 (IntKind.wrap .i64 ((((x12.n : Nat) : Int)) - ((1 : Int)))) 5 fun a15 =>
  Ld h (Addr.add a15 4) (.int .i64) fun (x17 : Int) =>
  OA p0 fun a20 =>
  Ld h (Addr.add a20 3) .sl fun (x22 : Sl) =>
  OA p0 fun a24 =>
  Ld h (Addr.add a24 3) .sl fun (x26 : Sl) =>
  Slc x22 none (some (IntKind.wrap .i64 ((((x26.n : Nat) : Int)) - ((1 : Int))))) none 5 fun s29 =>
  OA p0 fun a30 =>
  StL h (Addr.add a30 3) 0 [(.slice s29.a s29.n s29.c)] fun h1 =>
  OA p0 fun a33 =>
  Ld h1 (Addr.add a33 3) .sl fun (x35 : Sl) =>
  cond ((((x35.n : Nat) : Int)) == ((0 : Int)))
  (OA p0 fun a41 =>
  StL h1 (Addr.add (Addr.add a41 4) 0) 0 [(.int .i64 p1)] fun h2 =>
  OA p0 fun a44 =>
  StL h2 (Addr.add a44 10) 0 [(.bool true)] fun h3 =>
  Wk h3 fun h4 => R (.tuple ⟨[]⟩) h4)
  (OA p0 fun a47 =>
  Ld h1 (Addr.add a47 3) .sl fun (x49 : Sl) =>
  OA p0 fun a51 =>
  Ld h1 (Addr.add a51 3) .sl fun (x53 : Sl) =>
  Ix x49 (IntKind.wrap .i64 ((((x53.n : Nat) : Int)) - ((1 : Int)))) 5 fun a56 =>
  Ld h1 (Addr.add a56 3) .mp fun (x58 : Option Nat) =>
  MUpd h1 x58 (.int .i64) (.int .i64 x17) (.int .i64 p1) fun h5 =>
  Wk h5 fun h6 => R (.tuple ⟨[]⟩) h6)
theorem S95_eq (p0 : Option Addr) (p1 : Int) (h : V) (R : Value → V → Prop) : ABody Try.prog an95 Try.f95 [(.pointer p0), (.int .i64 p1)] h R = S95 p0 p1 h R := by kernel_rfl
theorem S95_ok (p0 : Option Addr) (p1 : Int) (h : V) (R : Value → V → Prop) (hk : S95 p0 p1 h R) : ACalls Try.prog 95 [(.pointer p0), (.int .i64 p1)] h R :=
  ABody_sound mixed Try.func95 Try.call95 (by kernel_rfl) (by kernel_rfl) (an := an95) (by rw [S95_eq]; exact hk)

/- (*palings/sim.machine).trap -/
def an96 : An := .nil
def S96 (p0 : Option Addr) (p1 : Int) (h : V) (R : Value → V → Prop) : Prop :=
  OA p0 fun a7 =>
  StL h (Addr.add (Addr.add a7 4) 1) 0 [(.int .i64 p1)] fun h1 =>
  OA p0 fun a10 =>
  StL h1 (Addr.add a10 10) 0 [(.bool true)] fun h2 =>
  Wk h2 fun h3 => R (.tuple ⟨[]⟩) h3
theorem S96_eq (p0 : Option Addr) (p1 : Int) (h : V) (R : Value → V → Prop) : ABody Try.prog an96 Try.f96 [(.pointer p0), (.int .i64 p1)] h R = S96 p0 p1 h R := by kernel_rfl
theorem S96_ok (p0 : Option Addr) (p1 : Int) (h : V) (R : Value → V → Prop) (hk : S96 p0 p1 h R) : ACalls Try.prog 96 [(.pointer p0), (.int .i64 p1)] h R :=
  ABody_sound mixed Try.func96 Try.call96 (by kernel_rfl) (by kernel_rfl) (an := an96) (by rw [S96_eq]; exact hk)

/- (*palings/sim.machine).leak -/
def an97 : An := .nil
def S97 (p0 : Option Addr) (p1 : Int) (p2 : Int) (p3 : Int) (h : V) (R : Value → V → Prop) : Prop :=
  OA p0 fun a10 =>
  Ld h (Addr.add (Addr.add a10 4) 2) .sl fun (x13 : Sl) =>
  New h (.cells #[(.int .i64 p1), (.int .i64 p2), (.int .i64 p3)] 108) fun r18 h1 =>
  App h1 x13 ⟨(some ⟨r18, 0, none⟩), 1, 1⟩ 108 3 24 [(.int .i64 ((0 : Int))), (.int .i64 ((0 : Int))), (.int .i64 ((0 : Int)))] fun s19 h2 =>
  OA p0 fun a20 =>
  StL h2 (Addr.add (Addr.add a20 4) 2) 0 [(.slice s19.a s19.n s19.c)] fun h3 =>
  Wk h3 fun h4 => R (.tuple ⟨[]⟩) h4
theorem S97_eq (p0 : Option Addr) (p1 : Int) (p2 : Int) (p3 : Int) (h : V) (R : Value → V → Prop) : ABody Try.prog an97 Try.f97 [(.pointer p0), (.int .i64 p1), (.int .i64 p2), (.int .i64 p3)] h R = S97 p0 p1 p2 p3 h R := by kernel_rfl
theorem S97_ok (p0 : Option Addr) (p1 : Int) (p2 : Int) (p3 : Int) (h : V) (R : Value → V → Prop) (hk : S97 p0 p1 p2 p3 h R) : ACalls Try.prog 97 [(.pointer p0), (.int .i64 p1), (.int .i64 p2), (.int .i64 p3)] h R :=
  ABody_sound mixed Try.func97 Try.call97 (by kernel_rfl) (by kernel_rfl) (an := an97) (by rw [S97_eq]; exact hk)

/- (*palings/sim.frame).values -/
def an98 : An := (.two .nil (.two .nil (.two (.two .nil (.one (.loop [(5, (.one .sl)), (10, (.one (.int .i64)))] (.two .nil (.two (.two .nil .nil) (.two (.one (.two .nil .nil)) .nil)))))) (.two .nil .nil))))
def S98 (p0 : Option Addr) (p1 : Sl) (h : V) (R : Value → V → Prop) : Prop :=
  Lp (σ := (Sl × Int × Unit)) (fun K s h1 =>
  cond (decide (s.2.1 < (((p1.n : Nat) : Int))))
  (Ix p1 s.2.1 1 fun a12 =>
  Ld h1 a12 (.int .i64) fun (x13 : Int) =>
  OA p0 fun a16 =>
  Ld h1 (Addr.add a16 3) .mp fun (x18 : Option Nat) =>
  Look h1 x18 (.int .i64) (.int .i64 x13) (.one (.int .i64)) ((0 : Int)) fun (x20 : Int) _ =>
  New h1 (.cells #[(.int .i64 x20)] 2) fun r21 h2 =>
  App h2 s.1 ⟨(some ⟨r21, 0, none⟩), 1, 1⟩ 2 1 8 [(.int .i64 ((0 : Int)))] fun s22 h3 =>
  Wk h3 fun h4 => K (s22, IntKind.wrap .i64 (s.2.1 + ((1 : Int))), ()) h4)
  (Wk h1 fun h5 => R (.slice s.1.a s.1.n s.1.c) h5))
  (⟨none, 0, 0⟩, (0 : Int), ()) h
theorem S98_eq (p0 : Option Addr) (p1 : Sl) (h : V) (R : Value → V → Prop) : ABody Try.prog an98 Try.f98 [(.pointer p0), (.slice p1.a p1.n p1.c)] h R = S98 p0 p1 h R := by kernel_rfl
theorem S98_ok (p0 : Option Addr) (p1 : Sl) (h : V) (R : Value → V → Prop) (hk : S98 p0 p1 h R) : ACalls Try.prog 98 [(.pointer p0), (.slice p1.a p1.n p1.c)] h R :=
  ABody_sound mixed Try.func98 Try.call98 (by kernel_rfl) (by kernel_rfl) (an := an98) (by rw [S98_eq]; exact hk)

/- (*palings/sim.machine).word -/
def an99 : An := (.two .nil (.two .nil (.two (.two .nil (.two (.two .nil (.two .nil .nil)) .nil)) (.two .nil .nil))))
def S99 (p0 : Option Addr) (p1 : Int) (p2 : Int) (h : V) (R : Value → V → Prop) : Prop :=
  OA p0 fun a9 =>
  Ld h (Addr.add (Addr.add a9 4) 5) .sl fun (x12 : Sl) =>
  Ix x12 p1 1 fun a14 =>
  Ld h a14 .sl fun (x15 : Sl) =>
  cond (decide ((IntKind.wrap .u64 p2) ≥ (IntKind.wrap .u64 (((x15.n : Nat) : Int)))))
  (CallK Try.prog 96 [(.pointer p0), (.int .i64 ((4 : Int)))] h (.tup []) fun (_ : (Unit)) h1 =>
  Wk h1 fun h2 => R (.pointer none) h2)
  (Ix x15 p2 1 fun a26 =>
  Wk h fun h3 => R (.pointer (some a26)) h3)
theorem S99_eq (p0 : Option Addr) (p1 : Int) (p2 : Int) (h : V) (R : Value → V → Prop) : ABody Try.prog an99 Try.f99 [(.pointer p0), (.int .i64 p1), (.int .i64 p2)] h R = S99 p0 p1 p2 h R := by kernel_rfl
theorem S99_ok (p0 : Option Addr) (p1 : Int) (p2 : Int) (h : V) (R : Value → V → Prop) (hk : S99 p0 p1 p2 h R) : ACalls Try.prog 99 [(.pointer p0), (.int .i64 p1), (.int .i64 p2)] h R :=
  ABody_sound mixed Try.func99 Try.call99 (by kernel_rfl) (by kernel_rfl) (an := an99) (by rw [S99_eq]; exact hk)

end Go.Proofs.Ytapdnglpchejlaa

/- Contracts of package word. -/
namespace Go.Proofs.Ytapdnglpchejlaa
open Go Go.VL

def w64' (x : Int) : Int := IntKind.wrap .i64 x
def b2i (b : Bool) : Int := if b then 1 else 0
def divW (op a b : Int) : Int × Bool :=
  if b = 0 then (0, false) else if b = -1 ∧ op = 4 then (IntKind.wrap .i64 (0 - a), true) else if b = -1 then (0, true) else if op = 4 then (IntKind.wrap .i64 (Int.tdiv a b), true) else (Int.tmod a b, true)
def shN (b : Int) : Int := bits .and .u64 (IntKind.wrap .u64 b) 63
def doW (op a b : Int) : Int × Bool :=
  if op = 1 then (IntKind.wrap .i64 (a + b), true)
  else if op = 2 then (IntKind.wrap .i64 (a - b), true)
  else if op = 3 then (IntKind.wrap .i64 (a * b), true)
  else if op = 4 ∨ op = 5 then divW op a b
  else if op = 6 then (bits .and .i64 a b, true)
  else if op = 7 then (bits .or .i64 a b, true)
  else if op = 8 then (bits .xor .i64 a b, true)
  else if op = 9 then (IntKind.wrap .i64 (a * 2 ^ (min (Int.toNat (shN b)) (IntKind.bits .i64))), true)
  else if op = 10 then (Int.fdiv a (2 ^ (min (Int.toNat (shN b)) (IntKind.bits .i64))), true)
  else if op = 11 then (b2i (a == b), true)
  else if op = 12 then (b2i (a != b), true)
  else if op = 13 then (b2i (decide (a < b)), true)
  else if op = 14 then (b2i (decide (a ≤ b)), true)
  else if op = 15 then (b2i (decide (IntKind.wrap .u64 a < IntKind.wrap .u64 b)), true)
  else (0, false)
theorem shN_pos (b : Int) : 0 ≤ shN b := by
  unfold shN bits
  simp only
  unfold IntKind.wrap
  simp only [IntKind.signed, IntKind.bits]
  simp
  exact Int.emod_nonneg _ (by omega)
theorem c_Bool {h : V} {b : Bool} {R : Value → V → Prop} (hR : R (iV (b2i b)) h) : ACalls Try.prog 46 [.bool b] h R :=
  S46_ok _ _ _ (cond_b (fun e => Wk_self (by rw [show b = true from e] at hR; exact hR)) (fun e => Wk_self (by rw [show b = false from e] at hR; exact hR)))
theorem c_divide {h : V} {op a b : Int} {R : Value → V → Prop} (hR : R (.tuple ⟨[iV (divW op a b).1, .bool (divW op a b).2]⟩) h) : ACalls Try.prog 62 [iV op, iV a, iV b] h R := by
  refine S62_ok _ _ _ _ _ (cond_eqi (fun e => Wk_self ?_) (fun e => ?_))
  · have e : b = 0 := e
    unfold divW at hR; rw [if_pos e] at hR; exact hR
  have e : ¬ b = 0 := e
  refine Cut_i (fun s hh => h = hh ∧ s.1 = decide (b = -1 ∧ op = 4)) (fun J hJ => ?_) ?_
  · refine cond_eqi (fun e1 => Wk_self (hJ _ _ ⟨rfl, ?_⟩)) (fun e1 => Wk_self (hJ _ _ ⟨rfl, ?_⟩))
    · have e1 : b = -1 := e1
      simp [e1]; rfl
    · have e1 : ¬ b = -1 := e1
      simp [e1]
  rintro ⟨c, u⟩ _ ⟨rfl, hc⟩
  have hc : c = _ := hc
  subst hc
  refine cond_dec (fun e1 => Wk_self ?_) (fun e1 => ?_)
  · unfold divW at hR; rw [if_neg e, if_pos e1] at hR; exact hR
  refine cond_eqi (fun e2 => Wk_self ?_) (fun e2 => ?_)
  · have e2 : b = -1 := e2
    unfold divW at hR; rw [if_neg e, if_neg e1, if_pos e2] at hR; exact hR
  have e2 : ¬ b = -1 := e2
  refine cond_eqi (fun e3 => ⟨e, Wk_self ?_⟩) (fun e3 => ⟨e, Wk_self ?_⟩)
  · have e3 : op = 4 := e3
    unfold divW at hR; rw [if_neg e, if_neg e1, if_neg e2, if_pos e3] at hR; exact hR
  · have e3 : ¬ op = 4 := e3
    unfold divW at hR; rw [if_neg e, if_neg e1, if_neg e2, if_neg e3] at hR; exact hR
theorem c_Do {h : V} {op a b : Int} {R : Value → V → Prop} (hR : R (.tuple ⟨[iV (doW op a b).1, .bool (doW op a b).2]⟩) h) : ACalls Try.prog 34 [iV op, iV a, iV b] h R := by
  refine S34_ok _ _ _ _ _ ?_
  unfold doW at hR
  refine cond_eqi (fun (e : op = 1) => ?_) (fun (e : ¬ op = 1) => ?_)
  · rw [if_pos e] at hR; exact Wk_self hR
  rw [if_neg e] at hR
  refine cond_eqi (fun (e : op = 2) => ?_) (fun (e : ¬ op = 2) => ?_)
  · rw [if_pos e] at hR; exact Wk_self hR
  rw [if_neg e] at hR
  refine cond_eqi (fun (e : op = 3) => ?_) (fun (e : ¬ op = 3) => ?_)
  · rw [if_pos e] at hR; exact Wk_self hR
  rw [if_neg e] at hR
  refine Cut_i (fun s hh => h = hh ∧ s.1 = decide (op = 4 ∨ op = 5)) (fun J hJ => ?_) ?_
  · refine cond_eqi (fun e1 => Wk_self (hJ _ _ ⟨rfl, ?_⟩)) (fun e1 => Wk_self (hJ _ _ ⟨rfl, ?_⟩))
    · have e1 : op = 4 := e1
      simp [e1]
    · have e1 : ¬ op = 4 := e1
      simp [e1]; rfl
  rintro ⟨c, u⟩ _ ⟨rfl, hc⟩
  have hc : c = _ := hc
  subst hc
  refine cond_dec (fun e => ?_) (fun e => ?_)
  · rw [if_pos e] at hR
    exact c_divide ⟨(_, _, ()), rfl, Wk_self hR⟩
  rw [if_neg e] at hR
  refine cond_eqi (fun (e : op = 6) => ?_) (fun (e : ¬ op = 6) => ?_)
  · rw [if_pos e] at hR; exact Wk_self hR
  rw [if_neg e] at hR
  refine cond_eqi (fun (e : op = 7) => ?_) (fun (e : ¬ op = 7) => ?_)
  · rw [if_pos e] at hR; exact Wk_self hR
  rw [if_neg e] at hR
  refine cond_eqi (fun (e : op = 8) => ?_) (fun (e : ¬ op = 8) => ?_)
  · rw [if_pos e] at hR; exact Wk_self hR
  rw [if_neg e] at hR
  refine cond_eqi (fun (e : op = 9) => ?_) (fun (e : ¬ op = 9) => ?_)
  · rw [if_pos e] at hR; exact ⟨shN_pos b, Wk_self hR⟩
  rw [if_neg e] at hR
  refine cond_eqi (fun (e : op = 10) => ?_) (fun (e : ¬ op = 10) => ?_)
  · rw [if_pos e] at hR; exact ⟨shN_pos b, Wk_self hR⟩
  rw [if_neg e] at hR
  refine cond_eqi (fun (e : op = 11) => ?_) (fun (e : ¬ op = 11) => ?_)
  · rw [if_pos e] at hR; exact c_Bool ⟨_, rfl, Wk_self hR⟩
  rw [if_neg e] at hR
  refine cond_eqi (fun (e : op = 12) => ?_) (fun (e : ¬ op = 12) => ?_)
  · rw [if_pos e] at hR; exact c_Bool ⟨_, rfl, Wk_self hR⟩
  rw [if_neg e] at hR
  refine cond_eqi (fun (e : op = 13) => ?_) (fun (e : ¬ op = 13) => ?_)
  · rw [if_pos e] at hR; exact c_Bool ⟨_, rfl, Wk_self hR⟩
  rw [if_neg e] at hR
  refine cond_eqi (fun (e : op = 14) => ?_) (fun (e : ¬ op = 14) => ?_)
  · rw [if_pos e] at hR; exact c_Bool ⟨_, rfl, Wk_self hR⟩
  rw [if_neg e] at hR
  refine cond_eqi (fun (e : op = 15) => ?_) (fun (e : ¬ op = 15) => ?_)
  · rw [if_pos e] at hR; exact c_Bool ⟨_, rfl, Wk_self hR⟩
  rw [if_neg e] at hR
  exact Wk_self hR
theorem c_Divides {h : V} {b : Int} {R : Value → V → Prop} (hR : R (.bool (decide (b = 4 ∨ b = 5))) h) : ACalls Try.prog 35 [iV b] h R := by
  refine S35_ok _ _ _ (cond_eqi (fun e => Wk_self ?_) (fun e => Wk_self ?_))
  · have e : b = 4 := e
    simpa [e] using hR
  · have e : ¬ b = 4 := e
    have : (b == 5) = decide (b = 4 ∨ b = 5) := by simp [e]; rfl
    rw [this]; exact hR
end Go.Proofs.Ytapdnglpchejlaa

/- Plain: what a machine of package sim does, step by step. -/
namespace Go.Proofs.Ytapdnglpchejlaa
open Go Go.VL

def I64 (x : Int) : Prop := -9223372036854775808 ≤ x ∧ x ≤ 9223372036854775807
theorem wrap_I64 (x : Int) : I64 (IntKind.wrap .i64 x) := by
  unfold I64 IntKind.wrap
  simp [IntKind.bits, IntKind.signed]
  omega
theorem b2i_I64 (b : Bool) : I64 (b2i b) := by cases b <;> simp [b2i, I64]
theorem divW_I64 {op a b : Int} (ha : I64 a) (hb : I64 b) : I64 (divW op a b).1 := by
  unfold divW
  split
  · simp [I64]
  split
  · exact wrap_I64 _
  split
  · simp [I64]
  split
  · exact wrap_I64 _
  · have h1 := Int.natAbs_tmod a b
    have h2 : (a.tmod b).natAbs ≤ a.natAbs := by rw [h1]; exact Nat.mod_le _ _
    unfold I64 at *
    show _ ≤ a.tmod b ∧ a.tmod b ≤ _
    rcases Int.lt_or_le a 0 with h | h
    · have h3 := Int.tmod_nonneg (a := -a) b (by omega)
      rw [Int.neg_tmod] at h3
      omega
    · have := Int.tmod_nonneg (a := a) b h
      omega
theorem fdiv_I64 {a : Int} (ha : I64 a) (n : Nat) : I64 (Int.fdiv a (2 ^ n)) := by
  have hp : (0 : Int) < 2 ^ n := Int.pow_pos (by omega)
  rw [Int.fdiv_eq_ediv_of_nonneg _ (Int.le_of_lt hp)]
  unfold I64 at *
  have hp1 : (1 : Int) ≤ 2 ^ n := hp
  generalize hm : (2 : Int) ^ n = m at *
  rcases Int.lt_or_le a 0 with h | h
  · have h1 : a ≤ a / m := Int.le_ediv_of_mul_le hp (by
      have : a * m ≤ a * 1 := Int.mul_le_mul_of_nonpos_left (by omega) hp1
      omega)
    have h2 : a / m < 0 := Int.ediv_neg_of_neg_of_pos h hp
    omega
  · have h1 := Int.ediv_nonneg h (Int.le_of_lt hp)
    have h2 := Int.ediv_le_self m h
    omega
theorem ite_I64 {c : Prop} [Decidable c] {x y : Int × Bool} (hx : I64 x.1) (hy : I64 y.1) : I64 (if c then x else y).1 := by by_cases h : c <;> simp only [h, if_true, if_false] <;> assumption
theorem doW_I64 {op a b : Int} (ha : I64 a) (hb : I64 b) : I64 (doW op a b).1 := by
  unfold doW
  refine ite_I64 (wrap_I64 _) (ite_I64 (wrap_I64 _) (ite_I64 (wrap_I64 _) (ite_I64 (divW_I64 ha hb) (ite_I64 (wrap_I64 _) (ite_I64 (wrap_I64 _) (ite_I64 (wrap_I64 _) (ite_I64 (wrap_I64 _) (ite_I64 (fdiv_I64 ha _) (ite_I64 (b2i_I64 _) (ite_I64 (b2i_I64 _) (ite_I64 (b2i_I64 _) (ite_I64 (b2i_I64 _) (ite_I64 (b2i_I64 _) ?_)))))))))))))
  exact ⟨by show (-9223372036854775808 : Int) ≤ 0; omega, by show (0 : Int) ≤ 9223372036854775807; omega⟩

structure LeakD where
  kind : Int
  a : Int
  b : Int
deriving DecidableEq
structure FrD where
  fn : Int
  block : Int
  pos : Int
  vals : Int → Int
  dst : Int
structure MS where
  fs : List FrD
  val : Int
  trap : Int
  leaks : List LeakD
  steps : Int
  deep : Int
  mem : List (List Int)
  fin : Bool
def fnAt (p : ProgD) (i : Int) : FuncD := p.funcs.getD i.toNat ⟨⟨#[]⟩, []⟩
def noB : BlockD := ⟨[], [], ⟨0, 0, [], 0⟩⟩
def blAt (p : ProgD) (f : FrD) : BlockD := (fnAt p f.fn).blocks.getD f.block.toNat noB
def setV (vals : Int → Int) (v x : Int) : Int → Int := fun u => if u = v then x else vals u
def setVs (vals : Int → Int) : List Int → List Int → Int → Int
  | v :: vs, x :: xs => setVs (setV vals v x) vs xs
  | _, _ => vals
def enterS (p : ProgD) (S : MS) (fn : Int) (args : List Int) (dst : Int) : Option MS :=
  if 2000 ≤ S.fs.length then none
  else some { S with fs := S.fs ++ [⟨fn, 0, 0, setVs (fun _ => 0) (fnAt p fn).params args, dst⟩], deep := if ((S.fs.length + 1 : Nat) : Int) > S.deep then ((S.fs.length + 1 : Nat) : Int) else S.deep }
def leakS (S : MS) (k a b : Int) : MS := { S with leaks := S.leaks ++ [⟨k, a, b⟩] }
def trapS (S : MS) (t : Int) : MS := { S with trap := t, fin := true }
def putS (S : MS) (rest : List FrD) (f : FrD) (v x : Int) : MS := { S with fs := rest ++ [{ f with vals := setV f.vals v x }] }
def memAt (m : List (List Int)) (arr i : Int) : Int := (m.getD arr.toNat []).getD i.toNat 0
def memSet (m : List (List Int)) (arr i x : Int) : List (List Int) := m.set arr.toNat ((m.getD arr.toNat []).set i.toNat x)
def memIn (m : List (List Int)) (arr i : Int) : Bool := decide (0 ≤ i) && decide (i.toNat < (m.getD arr.toNat []).length)
/- an instruction: the machine's frames are rest and f -/
def doS (p : ProgD) (S : MS) (rest : List FrD) (f : FrD) (i : InsD) : Option MS :=
  let a := i.args.map f.vals
  let a0 := a.getD 0 0
  let a1 := a.getD 1 0
  if i.op = 1 then some (putS S rest f i.dst i.num)
  else if i.op = 2 then
    let S1 := if i.bin = 4 ∨ i.bin = 5 then leakS S 3 a0 a1 else S
    let S2 := putS S1 rest f i.dst (doW i.bin a0 a1).1
    some (if (doW i.bin a0 a1).2 = true then S2 else trapS S2 2)
  else if i.op = 3 then some (putS S rest f i.dst (memAt S.mem i.arr 0))
  else if i.op = 4 then some { S with mem := memSet S.mem i.arr 0 a0 }
  else if i.op = 5 then
    let S1 := leakS S 2 a0 0
    some (if memIn S.mem i.arr a0 = true then putS S1 rest f i.dst (memAt S.mem i.arr a0) else trapS S1 4)
  else if i.op = 6 then
    let S1 := leakS S 2 a0 0
    some (if memIn S.mem i.arr a0 = true then { S1 with mem := memSet S.mem i.arr a0 a1 } else trapS S1 4)
  else if i.op = 7 then enterS p S i.fn a i.dst
  else some S
/- what comes back into the frame below -/
def backS : List FrD → Int → Int → List FrD
  | [], _, _ => []
  | [f], v, x => [{ f with vals := setV f.vals v x }]
  | f :: g :: l, v, x => f :: backS (g :: l) v x
def leaveS (S : MS) (rest : List FrD) (f : FrD) (x : Int) : MS :=
  if rest = [] then { S with fs := [], val := x, fin := true } else { S with fs := backS rest f.dst x }
def wayS (p : ProgD) (S : MS) (rest : List FrD) (f : FrD) (w : EdgeD) : MS :=
  { S with fs := rest ++ [{ f with vals := setVs f.vals (((fnAt p f.fn).blocks.getD w.to.toNat noB).params) (w.args.map f.vals), block := w.to, pos := 0 }] }
def noE : EdgeD := ⟨0, []⟩
def finishS (p : ProgD) (S : MS) (rest : List FrD) (f : FrD) (e : EndD) : MS :=
  if e.kind = 3 then leaveS S rest f (f.vals e.val)
  else if e.kind = 4 then trapS S e.trap
  else if e.kind = 2 then wayS p (leakS S 1 (b2i (f.vals e.val != 0)) 0) rest f (e.ways.getD (1 - b2i (f.vals e.val != 0)).toNat noE)
  else wayS p S rest f (e.ways.getD 0 noE)
def noI : InsD := ⟨0, 0, [], 0, 0, 0, 0⟩
def stepS (p : ProgD) (S : MS) (rest : List FrD) (f : FrD) : Option MS :=
  let b := blAt p f
  if f.pos = (b.ins.length : Nat) then some (finishS p S rest f b.e)
  else doS p { S with fs := rest ++ [{ f with pos := f.pos + 1 }] } rest { f with pos := f.pos + 1 } (b.ins.getD f.pos.toNat noI)
def topOf : List FrD → Option (List FrD × FrD)
  | [] => none
  | [f] => some ([], f)
  | f :: g :: l => (topOf (g :: l)).map fun x => (f :: x.1, x.2)
theorem topOf_some : ∀ {l : List FrD} {rest : List FrD} {f : FrD}, topOf l = some (rest, f) ↔ l = rest ++ [f]
  | [], rest, f => by simp [topOf]
  | [g], rest, f => by
    simp only [topOf, Option.some.injEq, Prod.mk.injEq]
    constructor
    · rintro ⟨rfl, rfl⟩; rfl
    · intro h
      cases rest with
      | nil => simp at h; exact ⟨rfl, h⟩
      | cons a rest => simp at h
  | g :: g' :: l, rest, f => by
    simp only [topOf, Option.map_eq_some_iff, Prod.mk.injEq]
    constructor
    · rintro ⟨⟨r, x⟩, h1, rfl, rfl⟩
      have := topOf_some.1 h1
      rw [this]; rfl
    · intro h
      cases rest with
      | nil => simp at h
      | cons a rest =>
        simp only [List.cons_append, List.cons.injEq] at h
        exact ⟨(rest, f), topOf_some.2 h.2, by rw [h.1], rfl⟩
/- so many steps at most -/
def runS (p : ProgD) : Nat → MS → Option MS
  | 0, S => if S.fin = true then some S else none
  | n + 1, S => if S.fin = true then some S else match topOf S.fs with
    | none => none
    | some (rest, f) => match stepS p { S with steps := S.steps + 1 } rest f with
      | none => none
      | some S' => runS p n S'
def startS (p : ProgD) (mem : List (List Int)) : MS := ⟨[], 0, 0, [], 0, 0, mem, false⟩
/- the words that a run begins with -/
def rowLen (a : ArrD) : Nat := if a.size ≤ 1 then 1 else if 4096 < a.size then 4096 else a.size.toNat
def rowOf (n : Nat) (w : List Int) : List Int := (w.take n) ++ List.replicate (n - w.length) 0
def startM : List ArrD → List (List Int) → List (List Int)
  | [], _ => []
  | a :: l, ins => if a.hold = 0 then List.replicate (rowLen a) 0 :: startM l ins else match ins with
    | [] => List.replicate (rowLen a) 0 :: startM l []
    | w :: ins => rowOf (rowLen a) w :: startM l ins
def runP (p : ProgD) (ins : List (List Int)) (fuel : Int) : Option MS :=
  (enterS p (startS p (startM p.arrays ins)) p.main [] 0).bind fun S => runS p fuel.toNat S
end Go.Proofs.Ytapdnglpchejlaa

/- Own slices of structs: elements, fields, stores. -/
namespace Go.VL
open Go

section
variable {α : Type} {enc : α → List Value} {sz : Nat}
theorem flat_len (he : ∀ x, (enc x).length = sz) : ∀ l : List α, (l.flatMap enc).length = l.length * sz
  | [] => by simp
  | x :: l => by rw [List.flatMap_cons, List.length_append, he, flat_len he l, List.length_cons, Nat.add_mul]; omega
theorem flat_get (he : ∀ x, (enc x).length = sz) : ∀ {l : List α} {k j : Nat} (hk : k < l.length), j < sz → (l.flatMap enc)[k * sz + j]? = (enc l[k])[j]?
  | [], k, j, hk, _ => by simp at hk
  | x :: l, 0, j, hk, hj => by
    rw [List.flatMap_cons, Nat.zero_mul, Nat.zero_add, List.getElem?_append_left (by rw [he]; exact hj)]; rfl
  | x :: l, k + 1, j, hk, hj => by
    rw [List.flatMap_cons, List.getElem?_append_right (by rw [he, Nat.add_mul]; omega), he, show (k + 1) * sz + j - sz = k * sz + j by rw [Nat.add_mul]; omega]
    exact flat_get he (by simpa using hk) hj
def repEnc (enc : α → List Value) (h : V) (a : Addr) (x : α) : Prop := cellsAt h a 0 (enc x)
theorem mono_enc : Mono (repEnc enc) := fun _ _ _ _ l h => cellsAt_le l h
theorem OwnS.slN {h0 h : V} {s : Sl} {T : TypeId} {l : List α} (he : ∀ x, (enc x).length = sz) (hz : 0 < sz) (o : OwnS h0 h s T sz (l.flatMap enc)) : isSl (repEnc enc) sz h s l := by
  have h1 : s.n = l.length := by
    have := o.1; rw [flat_len he] at this; exact (Nat.eq_of_mul_eq_mul_right hz this).symm
  refine ⟨h1, o.2.1, by have := o.2.2.1; omega, fun k hk => ?_⟩
  have h2 : ∃ v, (l.flatMap enc)[k * sz]? = some v := by
    have := flat_get he hk (j := 0) hz
    rw [Nat.add_zero] at this
    rw [this, List.getElem?_eq_getElem (by rw [he]; exact hz)]
    exact ⟨_, rfl⟩
  obtain ⟨v, hv⟩ := h2
  obtain ⟨a, ha, _⟩ := o.cell hv
  refine ⟨a, ha, cellsAt_of fun j w hw => ?_⟩
  have hj : j < sz := by have := (List.getElem?_eq_some_iff.1 hw).1; rwa [he] at this
  obtain ⟨a', ha', hc⟩ := o.cell ((flat_get he hk hj).trans hw)
  rw [ha] at ha'; cases ha'
  rw [Nat.zero_add, Addr.add_add]; exact hc
theorem flat_set (he : ∀ x, (enc x).length = sz) : ∀ {l : List α} {i : Nat} {x : α}, i < l.length → (l.set i x).flatMap enc = (l.flatMap enc).take (i * sz) ++ enc x ++ (l.flatMap enc).drop (i * sz + sz)
  | [], i, x, hi => by simp at hi
  | y :: l, 0, x, hi => by
    simp only [List.set_cons_zero, List.flatMap_cons, Nat.zero_mul, List.take_zero, List.nil_append, Nat.zero_add]
    rw [List.drop_append_of_le_length (by rw [he]; exact Nat.le_refl _), List.drop_of_length_le (by rw [he]; exact Nat.le_refl _), List.nil_append]
  | y :: l, i + 1, x, hi => by
    have ih := flat_set he (l := l) (i := i) (x := x) (by simpa using hi)
    simp only [List.set_cons_succ, List.flatMap_cons]
    rw [ih, show (i + 1) * sz = (enc y).length + i * sz by rw [he, Nat.add_mul]; omega, List.take_append, show (enc y).length + i * sz + sz = (enc y).length + (i * sz + sz) by omega, List.drop_append, List.take_of_length_le (show (enc y).length ≤ (enc y).length + i * sz by omega), List.drop_of_length_le (show (enc y).length ≤ (enc y).length + (i * sz + sz) by omega)]
    simp
/- a store of some of an element's cells -/
theorem OwnS.setN {h0 h : V} {s : Sl} {T : TypeId} {l : List α} {K : V → Prop} {i : Nat} {d : Nat} {vs : List Value} (x : α) (he : ∀ x, (enc x).length = sz) (o : OwnS h0 h s T sz (l.flatMap enc)) (hle : Le h0 h) (hi : i < l.length)
    (hx : enc x = (enc l[i]).take d ++ vs ++ (enc l[i]).drop (d + vs.length)) (hd : d + vs.length ≤ sz) (hz : 0 < sz)
    (hk : ∀ h', Le h0 h' → OwnS h0 h' s T sz ((l.set i x).flatMap enc) → (∀ b, (∀ a, s.a = some a → b ≠ a.block) → h' b = h b) → K h') : Ix s (i : Int) sz fun a => StL h (a.add d) 0 vs K := by
  have hsn : s.n = l.length := by
    have := o.1; rw [flat_len he] at this; exact (Nat.eq_of_mul_eq_mul_right hz this).symm
  have hfl := flat_len he l
  obtain ⟨h1, h2, h3, h4⟩ := o
  have him : i * sz + sz ≤ s.n * sz := by
    have : (i + 1) * sz ≤ s.n * sz := Nat.mul_le_mul_right _ (by omega)
    rw [Nat.add_mul] at this; omega
  rcases h4 with ⟨ha, hc⟩ | ⟨r, off, arr, ha, hr0, hr, hsz, ht⟩
  · omega
  · refine ⟨_, ha, by omega, by omega, ?_⟩
    have hcm : s.n * sz ≤ s.c * sz := Nat.mul_le_mul_right _ h2
    show StL h (Addr.add (Addr.add ⟨r, off, none⟩ ((i : Int).toNat * sz)) d) 0 vs K
    rw [add_at, add_at, Int.toNat_natCast]
    refine StL_at (h := h) vs arr 0 h (by omega) hr (fun _ _ => rfl) ?_
    rintro h' ⟨arr', hr', hs', he'⟩ hF
    refine hk h' (fun b y hb => (hF b (fun e => by subst e; rw [hr0] at hb; cases hb)).trans (hle _ _ hb)) ⟨by rw [flat_len he, List.length_set, hsn], h2, h3, .inr ⟨r, off, arr', ha, hr0, hr', by rw [hs']; exact hsz, ?_⟩⟩ (fun b hb => hF b (hb _ ha))
    rw [flat_set he hi, hx]
    -- what the element's cells were
    have helt : enc l[i] = ((l.flatMap enc).drop (i * sz)).take sz := by
      apply List.ext_getElem?
      intro j
      by_cases hj : j < sz
      · rw [List.getElem?_take_of_lt hj, List.getElem?_drop, flat_get he hi hj]
      · rw [List.getElem?_take_eq_none (by omega), List.getElem?_eq_none (by rw [he]; omega)]
    rw [he', helt]
    simp only [Nat.add_zero]
    rw [← ht]
    apply List.ext_getElem?
    intro j
    rcases Nat.lt_or_ge j (s.n * sz) with hj | hj
    case inr =>
      rw [List.getElem?_take_eq_none (by omega), List.getElem?_eq_none]
      simp only [List.length_append, List.length_take, List.length_drop, Array.length_toList]
      omega
    rw [List.getElem?_take_of_lt hj, List.getElem?_drop]
    have hal : arr.toList.length = arr.size := Array.length_toList
    by_cases c1 : j < i * sz + d
    · rw [List.append_assoc, List.getElem?_append_left (by rw [List.length_take]; omega), List.getElem?_take_of_lt (by omega)]
      by_cases c0 : j < i * sz
      · rw [List.append_assoc, List.getElem?_append_left (by simp only [List.length_take, List.length_drop]; omega), List.getElem?_take_of_lt c0, List.getElem?_take_of_lt hj, List.getElem?_drop]
      · have e0 : (List.take (i * sz) (List.take (s.n * sz) (List.drop off arr.toList))).length = i * sz := by simp only [List.length_take, List.length_drop]; omega
        rw [List.append_assoc, List.getElem?_append_right (by rw [e0]; omega), e0, List.append_assoc, List.append_assoc, List.getElem?_append_left (by simp only [List.length_take, List.length_drop]; omega)]
        rw [List.getElem?_take_of_lt (by omega), List.getElem?_take_of_lt (by omega), List.getElem?_drop, List.getElem?_take_of_lt (by omega), List.getElem?_drop]
        congr 1; omega
    · have e1 : (List.take (off + (i * sz + d)) arr.toList).length = off + (i * sz + d) := by rw [List.length_take]; omega
      have e0 : (List.take (i * sz) (List.take (s.n * sz) (List.drop off arr.toList))).length = i * sz := by simp only [List.length_take, List.length_drop]; omega
      have e2 : (List.take d (List.take sz (List.drop (i * sz) (List.take (s.n * sz) (List.drop off arr.toList))))).length = d := by simp only [List.length_take, List.length_drop]; omega
      have eo : off + i * sz + d = off + (i * sz + d) := by omega
      rw [eo, List.append_assoc, List.getElem?_append_right (by rw [e1]; omega), e1, show off + j - (off + (i * sz + d)) = j - (i * sz + d) by omega]
      conv => rhs; rw [List.append_assoc, List.getElem?_append_right (by rw [e0]; omega), e0, List.append_assoc, List.append_assoc, List.getElem?_append_right (by rw [e2]; omega), e2, show j - i * sz - d = j - (i * sz + d) by omega]
      by_cases c2 : j - (i * sz + d) < vs.length
      · rw [List.getElem?_append_left c2, List.getElem?_append_left c2]
      · rw [List.getElem?_append_right (by omega), List.getElem?_drop]
        conv => rhs; rw [List.getElem?_append_right (by omega)]
        have e3 : (List.drop (d + vs.length) (List.take sz (List.drop (i * sz) (List.take (s.n * sz) (List.drop off arr.toList))))).length = sz - (d + vs.length) := by simp only [List.length_take, List.length_drop]; omega
        by_cases c3 : j < i * sz + sz
        · rw [List.getElem?_append_left (by rw [e3]; omega), List.getElem?_drop, List.getElem?_take_of_lt (by omega), List.getElem?_drop, List.getElem?_take_of_lt (by omega), List.getElem?_drop]
          congr 1; omega
        · rw [List.getElem?_append_right (by rw [e3]; omega), e3, List.getElem?_drop, List.getElem?_take_of_lt (by omega), List.getElem?_drop]
          congr 1; omega
theorem OwnS.rebaseN {h0 h1 h : V} {s : Sl} {T : TypeId} {sz : Nat} {cs : List Value} (o : OwnS h0 h s T sz cs) (hn : ∀ a, s.a = some a → h1 a.block = none) : OwnS h1 h s T sz cs := by
  obtain ⟨a1, a2, a3, a4⟩ := o
  refine ⟨a1, a2, a3, a4.imp id ?_⟩
  rintro ⟨r, off, arr, a, b, c, d⟩
  exact ⟨r, off, arr, a, hn _ a, c, d⟩
/- one struct more -/
theorem App_enc {h0 h : V} {s : Sl} {T : TypeId} {bytes r : Nat} {x : α} {zero : List Value} {l : List α} {K : Sl → V → Prop} {t : TypeId} (he : ∀ x, (enc x).length = sz) (hz : 0 < sz) (hle : Le h0 h) (o : OwnS h0 h s T sz (l.flatMap enc)) (b : Box h r (enc x) t) (h1 : (enc x).all oneCell = true) (hzl : zero.length = sz) (hpos : 0 < bytes) (hb : (l.length + 1) * bytes ≤ 140737488355328)
    (hk : ∀ s' h', Le h0 h' → OwnS h0 h' s' T sz ((l ++ [x]).flatMap enc) → s'.n = l.length + 1 → (∀ b, (∀ a, s.a = some a → b ≠ a.block) → h b ≠ none → h' b = h b) → (∀ a', s'.a = some a' → (∃ a, s.a = some a ∧ a'.block = a.block) ∨ h a'.block = none) → K s' h') : App h s ⟨some ⟨r, 0, none⟩, 1, 1⟩ T sz bytes zero K := by
  have hsn : s.n = l.length := by
    have := o.1; rw [flat_len he] at this; exact (Nat.eq_of_mul_eq_mul_right hz this).symm
  refine App_own hle o ⟨by rw [he]; simp, fun a ha => by cases ha; exact b.cells⟩ (fun ha => by cases ha) h1 hzl hpos (by rw [hsn]; exact hb) fun s' h' l' o' n' f' d' => hk s' h' l' (by simpa using o') (by rw [n', hsn]) f' d'
end
/- the beginning of a slice, no longer than it may be -/
theorem Slc_one {α : Type} {rep : V → Addr → α → Prop} {h : V} {s : Sl} {x : α} {l : List α} {K : Sl → Prop} (hs : isSl rep 1 h s (x :: l)) (hk : ∀ s', isSl rep 1 h s' [x] → K s') : Slc s none (some 1) (some 1) 1 K := by
  obtain ⟨h1, h2, h3, h4⟩ := hs
  simp only [List.length_cons] at h1
  refine ⟨by simp, by simp, by simp, by simp; omega, hk _ ⟨rfl, by simp, by simp, fun k hk' => ?_⟩⟩
  have e : k = 0 := by simp at hk'; omega
  subst e
  obtain ⟨a, ha, hr⟩ := h4 0 (by simp)
  refine ⟨a.add 0, ?_, ?_⟩
  · simp [ha]
  · rw [Addr.add_add]
    simpa using hr
end Go.VL

/- Own slices that lie apart; what is new in a view; views without a slice's block. -/
namespace Go.VL
open Go

def neB (s t : Sl) : Prop := ∀ a b, s.a = some a → t.a = some b → a.block ≠ b.block
theorem neB.symm {s t : Sl} (h : neB s t) : neB t s := fun a b ha hb e => h b a hb ha e.symm
def V.sub (h' h : V) : V := fun b => match h b with | none => h' b | some _ => none
def V.ex (h : V) (s : Sl) : V := fun b => match s.a with | some a => if b = a.block then none else h b | none => h b
theorem V.sub_le (h' h : V) : Le (V.sub h' h) h' := fun b o hb => by
  unfold V.sub at hb
  cases hx : h b with
  | none => rw [hx] at hb; exact hb
  | some x => rw [hx] at hb; cases hb
theorem V.sub_in {h' h : V} {b : Nat} (hb : h b = none) : V.sub h' h b = h' b := by unfold V.sub; rw [hb]
theorem V.sub_mono {h' h'' h : V} (l : Le h' h'') : Le (V.sub h' h) (V.sub h'' h) := fun b o hb => by
  unfold V.sub at hb ⊢
  cases hx : h b with
  | none => rw [hx] at hb; exact l _ _ hb
  | some x => rw [hx] at hb; cases hb
theorem V.ex_le (h : V) (s : Sl) : Le (V.ex h s) h := fun b o hb => by
  unfold V.ex at hb
  cases hx : s.a with
  | none => rw [hx] at hb; exact hb
  | some a =>
    rw [hx] at hb
    by_cases e : b = a.block
    · simp only [if_pos e] at hb; cases hb
    · simp only [if_neg e] at hb; exact hb
theorem V.ex_in {h : V} {s : Sl} {b : Nat} (hb : ∀ a, s.a = some a → b ≠ a.block) : V.ex h s b = h b := by
  unfold V.ex
  cases hx : s.a with
  | none => rfl
  | some a => exact if_neg (hb a hx)
theorem V.ex_out {h : V} {s : Sl} {b : Nat} {o : Obj} (hb : V.ex h s b = some o) : ∀ a, s.a = some a → b ≠ a.block := fun a ha e => by
  unfold V.ex at hb
  rw [ha] at hb
  simp only [if_pos e] at hb
  cases hb
theorem V.ex_mono {h h' : V} {s : Sl} (l : Le h h') : Le (V.ex h s) (V.ex h' s) := fun b o hb => by
  have hn := V.ex_out hb
  rw [V.ex_in hn] at hb ⊢
  exact l _ _ hb
theorem V.ex_set {h h' : V} {s : Sl} (f : ∀ b, (∀ a, s.a = some a → b ≠ a.block) → h' b = h b) : Le (V.ex h s) (V.ex h' s) := fun b o hb => by
  have hn := V.ex_out hb
  rw [V.ex_in hn] at hb ⊢
  rw [f b hn]; exact hb
theorem OwnS.ne {h0 h1 h2 : V} {s t : Sl} {T T' : TypeId} {sz sz' : Nat} {cs cs' : List Value} (o : OwnS h0 h1 s T sz cs) (o' : OwnS h1 h2 t T' sz' cs') : neB s t := fun a b ha hb e => by
  obtain ⟨_, arr, h⟩ := o.blk ha
  rw [e, (o'.blk hb).1] at h; cases h
theorem OwnS.exs {h0 h : V} {s x : Sl} {T : TypeId} {sz : Nat} {cs : List Value} (o : OwnS h0 h s T sz cs) (hn : neB s x) : OwnS h0 (V.ex h x) s T sz cs :=
  o.frame fun a ob ha hob => by rw [V.ex_in fun b hb => hn a b ha hb]; exact hob
theorem OwnS.subs {h0 h : V} {s : Sl} {T : TypeId} {sz : Nat} {cs : List Value} (o : OwnS h0 h s T sz cs) : OwnS h0 (V.sub h h0) s T sz cs :=
  o.frame fun a ob ha hob => by rw [V.sub_in (o.blk ha).1]; exact hob
theorem OwnS.off {h0 h h' : V} {s x : Sl} {T : TypeId} {sz : Nat} {cs : List Value} (o : OwnS h0 h s T sz cs) (hn : neB s x) (f : ∀ b, (∀ a, x.a = some a → b ≠ a.block) → h' b = h b) : OwnS h0 h' s T sz cs :=
  o.frame fun a ob ha hob => (f _ fun b hb => hn a b ha hb).trans hob
theorem cellq_ex {h : V} {s : Sl} {a : Addr} (hn : ∀ b, s.a = some b → b.block ≠ a.block) : cellq (V.ex h s) a = cellq h a := by
  unfold cellq
  rw [V.ex_in fun b hb e => hn b hb e.symm]
/- a slice that came in, as what its elements' cells are -/
theorem isSl_enc {α β : Type} {rep : V → Addr → α → Prop} {Q : α → β → Prop} {enc : β → List Value} {sz : Nat} {h : V} (he : ∀ x, (enc x).length = sz) (hr : ∀ a x, rep h a x → ∃ y, Q x y ∧ cellsAt h a 0 (enc y)) {s : Sl} : ∀ {xs : List α}, isSl rep sz h s xs →
    ∃ ys : List β, ys.length = xs.length ∧ (∀ (k : Nat) x y, xs[k]? = some x → ys[k]? = some y → Q x y) ∧ slCells h s sz (ys.flatMap enc) ∧ (s.a = none → s.n = 0) := by
  intro xs hs
  obtain ⟨h1, h2, h3, h4⟩ := hs
  have key : ∀ n, n ≤ xs.length → ∃ ys : List β, ys.length = n ∧ (∀ (k : Nat) x y, xs[k]? = some x → ys[k]? = some y → Q x y) ∧ ∀ (k : Nat) y, ys[k]? = some y → ∃ a, s.a = some a ∧ cellsAt h (a.add (k * sz)) 0 (enc y) := by
    intro n
    induction n with
    | zero => intro _; exact ⟨[], rfl, by simp, by simp⟩
    | succ n ih =>
      intro hn
      obtain ⟨ys, e1, e2, e3⟩ := ih (by omega)
      obtain ⟨a, ha, hra⟩ := h4 n (by omega)
      obtain ⟨y, hy1, hy2⟩ := hr _ _ hra
      refine ⟨ys ++ [y], by simp [e1], fun k x z hx hz => ?_, fun k z hz => ?_⟩
      · rcases Nat.lt_or_ge k ys.length with g | g
        · rw [List.getElem?_append_left g] at hz; exact e2 k x z hx hz
        · rw [List.getElem?_append_right g] at hz
          have : k = ys.length := by have := (List.getElem?_eq_some_iff.1 hz).1; simp at this; omega
          subst this
          rw [e1, List.getElem?_eq_getElem (by omega)] at hx
          simp at hz; cases hx; subst hz; exact hy1
      · rcases Nat.lt_or_ge k ys.length with g | g
        · rw [List.getElem?_append_left g] at hz; exact e3 k z hz
        · rw [List.getElem?_append_right g] at hz
          have : k = ys.length := by have := (List.getElem?_eq_some_iff.1 hz).1; simp at this; omega
          subst this
          simp at hz; subst hz
          exact ⟨a, ha, by rw [e1]; exact hy2⟩
  obtain ⟨ys, e1, e2, e3⟩ := key xs.length (Nat.le_refl _)
  refine ⟨ys, e1, e2, ⟨by rw [flat_len he, h1, e1], fun a ha => cellsAt_of fun j v hv => ?_⟩, fun ha => ?_⟩
  · have hj : j < ys.length * sz := by have := (List.getElem?_eq_some_iff.1 hv).1; rwa [flat_len he] at this
    have hz : 0 < sz := by
      rcases Nat.eq_zero_or_pos sz with e | e
      · subst e; omega
      · exact e
    have hk : j / sz < ys.length := Nat.div_lt_of_lt_mul (by rw [Nat.mul_comm]; exact hj)
    have hm : j % sz < sz := Nat.mod_lt _ hz
    have ej : j = j / sz * sz + j % sz := (Nat.div_add_mod' j sz).symm
    rw [ej, flat_get he hk hm] at hv
    obtain ⟨a', ha', hc⟩ := e3 _ _ (List.getElem?_eq_getElem hk)
    rw [ha] at ha'; cases ha'
    have := cellsAt_get hc _ _ hv
    rw [Nat.zero_add, Addr.add_add] at this
    rw [Nat.zero_add, ej]; exact this
  · rcases Nat.eq_zero_or_pos s.n with g | g
    · exact g
    · obtain ⟨a, ha', _⟩ := h4 0 (by omega)
      rw [ha] at ha'; cases ha'
/- slices.Clone -/
theorem clone_own {α : Type} {enc : α → List Value} {sz bytes : Nat} {T : TypeId} {zero : List Value} {h : V} {s : Sl} {ys : List α} {R : Value → V → Prop} (he : ∀ x, (enc x).length = sz) (hz : 0 < sz) (hc : slCells h s sz (ys.flatMap enc)) (h0 : s.a = none → s.n = 0) (h1 : ∀ x, (enc x).all oneCell = true) (hzl : zero.length = sz) (hpos : 0 < bytes) (hb : ys.length * bytes ≤ 140737488355328)
    (hR : ∀ s' h', Le h h' → OwnS h h' s' T sz (ys.flatMap enc) → R (sV s') h') :
    cond (Option.isNone s.a) (Wk h fun h1 => R (.slice none 0 0) h1) (New h (.cells #[] T) fun r5 h2 => App h2 ⟨some ⟨r5, 0, none⟩, 0, 0⟩ s T sz bytes zero fun s7 h3 => Wk h3 fun h4 => R (.slice s7.a s7.n s7.c) h4) := by
  have hn : s.n = ys.length := by have := hc.1; rw [flat_len he] at this; exact (Nat.eq_of_mul_eq_mul_right hz this).symm
  refine cond_b (fun hnn => ?_) (fun hnn => ?_)
  · have ha : s.a = none := by simpa using hnn
    have : ys = [] := List.eq_nil_of_length_eq_zero (by rw [← hn, h0 ha])
    subst this
    exact Wk_self (hR ⟨none, 0, 0⟩ _ (Le.refl _) (OwnS_nil _ _ _ _))
  · refine New_box fun r5 h2 hr l2 b5 => ?_
    have o : OwnS h h2 ⟨some ⟨r5, 0, none⟩, 0, 0⟩ T sz [] := ⟨by simp, Nat.le_refl _, Nat.zero_le _, .inr ⟨r5, 0, #[], rfl, hr, b5, by simp, by simp⟩⟩
    have hc2 : slCells h2 s sz (ys.flatMap enc) := ⟨hc.1, fun a ha => cellsAt_le l2 (hc.2 a ha)⟩
    refine App_own l2 o hc2 h0 ?_ hzl hpos (by show (0 + s.n) * bytes ≤ _; rw [hn, Nat.zero_add]; exact hb) fun s' h' l' o' _ f _ => Wk_self (hR s' h' l' (by simpa using o'))
    rw [List.all_flatMap]
    exact List.all_eq_true.2 fun x _ => h1 x
theorem ex_step {h h' : V} {x : Sl} (l : Le (V.ex h x) (V.ex h' x)) {b : Nat} {o : Obj} (hb : h b = some o) (hn : ∀ a, x.a = some a → b ≠ a.block) : h' b = some o := by
  have := l b o (by rw [V.ex_in hn]; exact hb)
  rwa [V.ex_in hn] at this
theorem Box.st {hh : V} {r i : Nat} {vs : List Value} {T : TypeId} {v : Value} {K : V → Prop} (b : Box hh r vs T) (hi : i < vs.length) (hK : ∀ h', Box h' r (vs.set i v) T → (∀ q, q ≠ r → h' q = hh q) → K h') : StL hh (Addr.add ⟨r, 0, none⟩ i) 0 [v] K := by
  have e : Addr.add (Addr.add ⟨r, 0, none⟩ i) 0 = ⟨r, i, none⟩ := by rw [Addr.add_z, add_at, Nat.zero_add]
  unfold StL
  rw [e]
  refine ⟨⟨_, _, 0, 0, b, rfl, by simpa using hi, by simp⟩, ?_⟩
  unfold StL
  refine hK _ ?_ (fun q hq => setc_ne (a := ⟨r, i, none⟩) hq v)
  unfold Box
  have := setc_self (h := hh) (a := ⟨r, i, none⟩) b v
  rw [this]
  simp
theorem OwnS.nbox {h0 h : V} {s : Sl} {T : TypeId} {sz : Nat} {cs : List Value} {r : Nat} {o' : Obj} (o : OwnS h0 h s T sz cs) (hr : h0 r = some o') {a : Addr} (ha : s.a = some a) : a.block ≠ r := fun e => by
  have := (o.blk ha).1
  rw [e, hr] at this; cases this
theorem OwnS.offb {h0 h h' : V} {s : Sl} {r : Nat} {T : TypeId} {sz : Nat} {cs : List Value} (o : OwnS h0 h s T sz cs) (hn : ∀ a, s.a = some a → a.block ≠ r) (f : ∀ b, b ≠ r → h' b = h b) : OwnS h0 h' s T sz cs :=
  o.frame fun a ob ha hob => (f _ (hn a ha)).trans hob
theorem add2 {h h4 : V} {r1 r2 : Nat} {o1 o2 : Obj} (l : Le h h4) (n1 : h r1 = none) (n2 : h r2 = none) (b1 : h4 r1 = some o1) (b2 : h4 r2 = some o2) : ∃ hB, Le h hB ∧ Le hB h4 ∧ hB r1 = some o1 ∧ hB r2 = some o2 ∧ ∀ b, hB b ≠ none → h b ≠ none ∨ b = r1 ∨ b = r2 := by
  refine ⟨fun b => if b = r1 then some o1 else if b = r2 then some o2 else h b, fun b o hb => ?_, fun b o hb => ?_, by simp, ?_, fun b hb => ?_⟩
  · have e1 : b ≠ r1 := fun e => by rw [e, n1] at hb; cases hb
    have e2 : b ≠ r2 := fun e => by rw [e, n2] at hb; cases hb
    simp only [if_neg e1, if_neg e2]; exact hb
  · by_cases e1 : b = r1
    · simp only [if_pos e1] at hb; cases hb; rw [e1]; exact b1
    · by_cases e2 : b = r2
      · simp only [if_neg e1, if_pos e2] at hb; cases hb; rw [e2]; exact b2
      · simp only [if_neg e1, if_neg e2] at hb; exact l _ _ hb
  · by_cases e : r2 = r1
    · simp only [if_pos e]; rw [← b1, ← b2, e]
    · simp only [if_neg e, if_true]
  · by_cases e1 : b = r1
    · exact .inr (.inl e1)
    · by_cases e2 : b = r2
      · exact .inr (.inr e2)
      · simp only [if_neg e1, if_neg e2] at hb; exact .inl hb
end Go.VL
