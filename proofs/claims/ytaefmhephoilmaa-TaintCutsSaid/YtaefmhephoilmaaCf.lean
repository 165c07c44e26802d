/- Contracts of package ssa: known. -/
import Derived.Test.YtaefmhephoilmaaCe
namespace Go.Proofs.Ytaefmhephoilmaa
open Go Go.VL

theorem sum_le {α : Type} {f g : α → Nat} : ∀ {l : List α}, (∀ x ∈ l, f x ≤ g x) → (l.map f).sum ≤ (l.map g).sum
  | [], _ => Nat.le_refl _
  | x :: l, h => by
    have h1 := h x List.mem_cons_self
    have h2 := sum_le (l := l) fun y hy => h y (List.mem_cons_of_mem _ hy)
    simp only [List.map_cons, List.sum_cons]; omega
theorem sum_lt {α : Type} {f g : α → Nat} : ∀ {l : List α}, (∀ x ∈ l, f x ≤ g x) → (∃ x ∈ l, f x < g x) → (l.map f).sum < (l.map g).sum
  | [], _, ⟨_, h, _⟩ => by simp at h
  | x :: l, h, ⟨y, hy, hlt⟩ => by
    have h1 := h x List.mem_cons_self
    have h2 := sum_le (l := l) fun y hy => h y (List.mem_cons_of_mem _ hy)
    simp only [List.map_cons, List.sum_cons]
    rcases List.mem_cons.1 hy with e | e
    · subst e; omega
    · have := sum_lt (l := l) (fun y hy => h y (List.mem_cons_of_mem _ hy)) ⟨y, e, hlt⟩
      omega
theorem sum_set {α : Type} {f : α → Nat} : ∀ {l : List α} {n : Nat} {x y : α}, l[n]? = some x → ((l.set n y).map f).sum + f x = (l.map f).sum + f y
  | [], _, _, _, h => by simp at h
  | z :: l, 0, x, y, h => by
    simp at h; subst h
    simp only [List.set_cons_zero, List.map_cons, List.sum_cons]; omega
  | z :: l, n + 1, x, y, h => by
    have := sum_set (f := f) (l := l) (n := n) (x := x) (y := y) (by simpa using h)
    simp only [List.set_cons_succ, List.map_cons, List.sum_cons]; omega
theorem countP_le {α : Type} {p q : α → Bool} : ∀ {l : List α}, (∀ x ∈ l, p x = true → q x = true) → l.countP p ≤ l.countP q
  | [], _ => Nat.le_refl _
  | x :: l, h => by
    have h1 := h x List.mem_cons_self
    have h2 := countP_le (l := l) fun y hy => h y (List.mem_cons_of_mem _ hy)
    simp only [List.countP_cons]
    cases hp : p x with
    | true => rw [h1 hp]; simpa using h2
    | false => simp; omega
theorem countP_lt {α : Type} {p q : α → Bool} : ∀ {l : List α}, (∀ x ∈ l, p x = true → q x = true) → (∃ x ∈ l, q x = true ∧ p x = false) → l.countP p < l.countP q
  | [], _, ⟨_, h, _⟩ => by simp at h
  | x :: l, h, ⟨y, hy, hq, hp⟩ => by
    have h1 := h x List.mem_cons_self
    have h2 := countP_le (l := l) fun y hy => h y (List.mem_cons_of_mem _ hy)
    simp only [List.countP_cons]
    rcases List.mem_cons.1 hy with e | e
    · subst e; rw [hq, hp]; simp; omega
    · have h3 := countP_lt (l := l) (fun y hy => h y (List.mem_cons_of_mem _ hy)) ⟨y, e, hq, hp⟩
      cases hp : p x with
      | true => rw [h1 hp]; simpa using h3
      | false => simp; omega

def wtA (U : List Int) (T : Nat → Int → Bool) : Option Nat → Nat
  | none => U.length + 1
  | some r => U.countP (T r)
def muA (U : List Int) (A : List (Option Nat)) (T : Nat → Int → Bool) : Nat := (A.map (wtA U T)).sum
def upT (T : Nat → Int → Bool) (r : Nat) (t : Int → Bool) : Nat → Int → Bool := fun q => if q = r then t else T q
theorem upT_self (T : Nat → Int → Bool) (r : Nat) (t : Int → Bool) : upT T r t r = t := by simp [upT]
theorem upT_ne {T : Nat → Int → Bool} {r q : Nat} {t : Int → Bool} (h : q ≠ r) : upT T r t q = T q := by simp [upT, h]

structure KW (hB hh : V) (s : Sl) (U : List Int) (A : List (Option Nat)) (T : Nat → Int → Bool) : Prop where
  le : Le hB hh
  own : OwnS hB hh s 29 1 (A.map Value.map)
  set : ∀ (n : Nat) r, A[n]? = some (some r) → ∃ o, hh r = some o ∧ SetRep o (T r)
  new : ∀ (n : Nat) r, A[n]? = some (some r) → hB r = none
  inU : ∀ (n : Nat) r, A[n]? = some (some r) → ∀ v, T r v = true → v ∈ U
  zero : ∀ r, A[0]? = some (some r) → ∀ v, T r v = false

theorem noCells {cs : Array Value} {t : TypeId} {g : Nat × Nat} {s : Int → Bool} (h : SetRep (.cells cs t g) s) : False := by
  obtain ⟨m, hm, _⟩ := h
  obtain ⟨es, clk, e, _⟩ := hm.ex
  cases e
theorem KW.ne {hB hh : V} {s : Sl} {U : List Int} {A : List (Option Nat)} {T : Nat → Int → Bool} (k : KW hB hh s U A T) {r : Nat} {o : Obj} {t : Int → Bool} (hr : hh r = some o) (hs : SetRep o t) : ∀ a, s.a = some a → r ≠ a.block := by
  intro a ha e
  obtain ⟨_, arr, harr⟩ := k.own.blk ha
  rw [← e, hr] at harr
  cases harr
  exact noCells hs
theorem KW.maps {hB hh : V} {s : Sl} {U : List Int} {A : List (Option Nat)} {T : Nat → Int → Bool} (k : KW hB hh s U A T) : isSl (fun h a x => cellq h a = some (Value.map x)) 1 hh s A := k.own.sl fun _ _ _ h => h
/- a store of a set into the slice -/
theorem KW.put {hB hh h' : V} {s : Sl} {U : List Int} {A : List (Option Nat)} {T : Nat → Int → Bool} (k : KW hB hh s U A T) {n r2 : Nat} {o2 : Obj} (hn : n < A.length) (hr2 : hh r2 = some o2) (hs2 : SetRep o2 (T r2)) (hB2 : hB r2 = none) (hU2 : ∀ v, T r2 v = true → v ∈ U) (h0 : n = 0 → ∀ v, T r2 v = false)
    (l' : Le hB h') (o' : OwnS hB h' s 29 1 ((A.set n (some r2)).map Value.map)) (f' : ∀ b, (∀ a, s.a = some a → b ≠ a.block) → h' b = hh b) : KW hB h' s U (A.set n (some r2)) T ∧ h' r2 = some o2 := by
  have hr2' : h' r2 = some o2 := (f' r2 (k.ne hr2 hs2)).trans hr2
  have hget : ∀ (m : Nat) r, (A.set n (some r2))[m]? = some (some r) → (m = n ∧ r = r2) ∨ (m ≠ n ∧ A[m]? = some (some r)) := by
    intro m r h
    rw [List.getElem?_set] at h
    by_cases e : n = m
    · subst e
      simp [hn] at h
      exact .inl ⟨rfl, h.symm⟩
    · rw [if_neg e] at h; exact .inr ⟨fun x => e x.symm, h⟩
  refine ⟨⟨l', o', fun m r h => ?_, fun m r h => ?_, fun m r h v hv => ?_, fun r h v => ?_⟩, hr2'⟩
  · rcases hget m r h with ⟨_, rfl⟩ | ⟨_, h⟩
    · exact ⟨o2, hr2', hs2⟩
    · obtain ⟨o, ho, hs⟩ := k.set m r h
      exact ⟨o, (f' r (k.ne ho hs)).trans ho, hs⟩
  · rcases hget m r h with ⟨_, rfl⟩ | ⟨_, h⟩
    · exact hB2
    · exact k.new m r h
  · rcases hget m r h with ⟨_, rfl⟩ | ⟨_, h⟩
    · exact hU2 v hv
    · exact k.inU m r h v hv
  · rcases hget 0 r h with ⟨e, rfl⟩ | ⟨_, h⟩
    · exact h0 e.symm v
    · exact k.zero r h v
theorem mu_put {U : List Int} {A : List (Option Nat)} {T : Nat → Int → Bool} {n r2 : Nat} (hn : A[n]? = some none) : muA U (A.set n (some r2)) T < muA U A T := by
  have h1 := sum_set (f := wtA U T) (y := some r2) hn
  have h2 : U.countP (T r2) ≤ U.length := List.countP_le_length
  simp only [wtA] at h1
  unfold muA
  omega
theorem mu_cong {U : List Int} {A : List (Option Nat)} {T T' : Nat → Int → Bool} (h : ∀ (n : Nat) r, A[n]? = some (some r) → T' r = T r) : muA U A T' = muA U A T := by
  unfold muA
  congr 1
  apply List.map_congr_left
  intro x hx
  cases x with
  | none => rfl
  | some r =>
    obtain ⟨n, hn, hx⟩ := List.getElem_of_mem hx
    simp only [wtA]
    rw [h n r (by rw [List.getElem?_eq_getElem hn, hx])]

/- what meeting does, by the maps' own names -/
noncomputable def meetW (A : List (Option Nat)) (T : Nat → Int → Bool) (n r2 : Nat) : List (Option Nat) × (Nat → Int → Bool) × Bool := match A[n]? with
  | some (some r1) => (A, upT T r1 (fun v => T r1 v && T r2 v), loses (T r1) (T r2))
  | some none => (A.set n (some r2), T, true)
  | none => (A, T, false)
theorem c_meet {hB hh : V} {s : Sl} {U : List Int} {A : List (Option Nat)} {T : Nat → Int → Bool} {n : Int} {r2 : Nat} {o2 : Obj} {R : Value → V → Prop} (k : KW hB hh s U A T) (h0 : 1 ≤ n) (hn : n.toNat < A.length)
    (hr2 : hh r2 = some o2) (hs2 : SetRep o2 (T r2)) (hB2 : hB r2 = none) (hU2 : ∀ v, T r2 v = true → v ∈ U)
    (hR : ∀ h' A' T' b, meetW A T n.toNat r2 = (A', T', b) → (∀ q, hh q ≠ none → h' q ≠ none) → KW hB h' s U A' T' → (∃ o, h' r2 = some o ∧ SetRep o (T' r2)) → T' r2 = T r2 → A'.length = A.length → (b = true → muA U A' T' < muA U A T) →
      (b = false → A' = A ∧ T' = T ∧ ∃ r1, A[n.toNat]? = some (some r1) ∧ ∀ v, T r1 v = true → T r2 v = true) → R (.bool b) h') : ACalls Try.prog 44 [sV s, iV n, .map (some r2)] hh R := by
  cases hA : A[n.toNat]'hn with
  | none =>
    have hA' : A[n.toNat]? = some none := by rw [List.getElem?_eq_getElem hn, hA]
    refine c_meet_new k.le k.own (by omega) hA' fun h' l' o' f' => ?_
    obtain ⟨k', hr2'⟩ := k.put hn hr2 hs2 hB2 hU2 (fun e => by omega) l' o' f'
    have live : ∀ q, hh q ≠ none → h' q ≠ none := fun q hq => by
      by_cases e : ∃ a, s.a = some a ∧ q = a.block
      · obtain ⟨a, ha, rfl⟩ := e
        obtain ⟨_, arr, harr⟩ := o'.blk ha
        rw [harr]; simp
      · rw [f' q fun a ha x => e ⟨a, ha, x⟩]; exact hq
    exact hR h' _ T true (by unfold meetW; rw [hA']) live k' ⟨o2, hr2', hs2⟩ rfl (by simp) (fun _ => mu_put hA') (fun e => by cases e)
  | some r1 =>
    have hA' : A[n.toNat]? = some (some r1) := by rw [List.getElem?_eq_getElem hn, hA]
    obtain ⟨o1, hr1, hs1⟩ := k.set _ _ hA'
    refine c_meet_old k.maps (by omega) hA' hr1 hs1 hr2 hs2 fun h' o1' hr1' hs1' f' => ?_
    have l' : Le hB h' := fun b ob hb => by
      have e : b ≠ r1 := fun e => by subst e; rw [k.new _ _ hA'] at hb; cases hb
      have := k.le b ob hb
      rw [f' b e (by rw [this]; simp)]; exact this
    have own' : OwnS hB h' s 29 1 (A.map Value.map) := k.own.frame fun a ob ha hob => by
      rw [f' a.block (fun e => k.ne hr1 hs1 a ha e.symm) (by rw [hob]; simp)]; exact hob
    have hset : ∀ r o t, hh r = some o → SetRep o t → (r = r1 → t = T r1) → ∃ o', h' r = some o' ∧ SetRep o' (if r = r1 then (fun v => T r1 v && T r2 v) else t) := by
      intro r o t ho hs _
      by_cases e : r = r1
      · subst e; rw [if_pos rfl]; exact ⟨o1', hr1', hs1'⟩
      · rw [if_neg e]; exact ⟨o, (f' r e (by rw [ho]; simp)).trans ho, hs⟩
    have hup : ∀ r, upT T r1 (fun v => T r1 v && T r2 v) r = if r = r1 then (fun v => T r1 v && T r2 v) else T r := fun r => rfl
    have hsub : ∀ r v, upT T r1 (fun v => T r1 v && T r2 v) r v = true → T r v = true := by
      intro r v h
      rw [hup] at h
      by_cases e : r = r1
      · subst e; rw [if_pos rfl] at h; exact (Bool.and_eq_true_iff.1 h).1
      · rw [if_neg e] at h; exact h
    have e2 : upT T r1 (fun v => T r1 v && T r2 v) r2 = T r2 := by
      rw [hup]
      by_cases e : r2 = r1
      · subst e; rw [if_pos rfl]; funext v; simp
      · rw [if_neg e]
    have k' : KW hB h' s U A (upT T r1 (fun v => T r1 v && T r2 v)) := by
      refine ⟨l', own', fun m r h => ?_, k.new, fun m r h v hv => k.inU m r h v (hsub r v hv), fun r h v => ?_⟩
      · obtain ⟨o, ho, hs⟩ := k.set m r h
        exact hset r o _ ho hs (fun e => by rw [e])
      · cases hv : upT T r1 (fun v => T r1 v && T r2 v) r v with
        | false => rfl
        | true => rw [← k.zero r h v]; exact (hsub r v hv).symm
    have live : ∀ q, hh q ≠ none → h' q ≠ none := fun q hq => by
      by_cases e : q = r1
      · subst e; rw [hr1']; simp
      · rw [f' q e hq]; exact hq
    refine hR h' A _ _ (by unfold meetW; rw [hA']) live k' ?_ e2 rfl (fun hl => ?_) (fun hl => ?_)
    · exact hset r2 o2 _ hr2 hs2 (fun e => by rw [e])
    · obtain ⟨v, hv1, hv2⟩ := loses_true.1 hl
      refine sum_lt (fun x _ => ?_) ⟨some r1, List.mem_of_getElem? hA', ?_⟩
      · cases x with
        | none => exact Nat.le_refl _
        | some r => exact countP_le fun v _ h => hsub r v h
      · refine countP_lt (fun v _ h => hsub r1 v h) ⟨v, k.inU _ _ hA' v hv1, hv1, ?_⟩
        rw [upT_self, hv2]; simp
    · have hl := loses_false.1 hl
      refine ⟨rfl, ?_, r1, hA', hl⟩
      funext r v
      rw [hup]
      by_cases e : r = r1
      · subst e
        rw [if_pos rfl]
        cases hv : T r v with
        | false => simp
        | true => simp [hl v hv]
      · rw [if_neg e]
end Go.Proofs.Ytaefmhephoilmaa
