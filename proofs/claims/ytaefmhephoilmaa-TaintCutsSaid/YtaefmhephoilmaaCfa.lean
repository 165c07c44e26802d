/- What known computes, by names of one's own: the same whatever the memory is. -/
import Derived.Test.YtaefmhephoilmaaCf
namespace Go.Proofs.Ytaefmhephoilmaa
open Go Go.VL

structure KSt where
  A : List (Option Nat)
  S : List (Int → Bool)
noncomputable def meetF (st : KSt) (n h2 : Nat) : KSt × Bool := match st.A[n]? with
  | some (some h1) => (⟨st.A, st.S.set h1 (fun v => (st.S.getD h1 fun _ => false) v && (st.S.getD h2 fun _ => false) v)⟩, loses (st.S.getD h1 fun _ => false) (st.S.getD h2 fun _ => false))
  | some none => (⟨st.A.set n (some h2), st.S⟩, true)
  | none => (st, false)
noncomputable def waysF (h2 : Nat) (s : KSt × Bool) (w : EdgeD) : KSt × Bool := ((meetF s.1 w.to.toNat h2).1, s.2 || (meetF s.1 w.to.toNat h2).2)
noncomputable def rchB (bs : List BlockD) (n : Nat) : Bool := @decide (Rch bs n) (Classical.propDecidable _)
theorem rchB_iff {bs : List BlockD} {n : Nat} : rchB bs n = true ↔ Rch bs n := by unfold rchB; exact @decide_eq_true_iff _ (Classical.propDecidable _)
/- the block's way through, once its set is there -/
noncomputable def goF (bk : BlockD) (h : Nat) (s : KSt × Bool) : KSt × Bool :=
  bk.e.ways.foldl (waysF s.1.S.length) (⟨s.1.A, s.1.S ++ [afterD (s.1.S.getD h (fun _ => false)) bk]⟩, s.2)
noncomputable def blockF (bs : List BlockD) (k : Nat) (s : KSt × Bool) : KSt × Bool :=
  if rchB bs k = true then
    match bs[k]? with
    | none => s
    | some bk =>
      match s.1.A[k]? with
      | some (some h) => goF bk h s
      | some none => if k = 0 then goF bk s.1.S.length (⟨s.1.A.set 0 (some s.1.S.length), s.1.S ++ [fun (_ : Int) => false]⟩, true) else s
      | none => s
  else s
noncomputable def roundF (bs : List BlockD) : Nat → KSt → KSt × Bool
  | 0, st => (st, false)
  | k + 1, st => blockF bs k (roundF bs k st)
inductive KRun (bs : List BlockD) : KSt → KSt → Prop where
  | stop {st : KSt} : (roundF bs bs.length st).2 = false → KRun bs st (roundF bs bs.length st).1
  | go {st f : KSt} : (roundF bs bs.length st).2 = true → KRun bs (roundF bs bs.length st).1 f → KRun bs st f
theorem KRun.det {bs : List BlockD} {st f g : KSt} (h1 : KRun bs st f) (h2 : KRun bs st g) : f = g := by
  induction h1 with
  | stop e =>
    cases h2 with
    | stop _ => rfl
    | go e' _ => rw [e] at e'; cases e'
  | go e _ ih =>
    cases h2 with
    | stop e' => rw [e] at e'; cases e'
    | go _ h => exact ih h

structure Ref (hh : V) (ids : List Nat) (st : KSt) (A : List (Option Nat)) (T : Nat → Int → Bool) : Prop where
  a : A = st.A.map (Option.map fun h => ids.getD h 0)
  len : ids.length = st.S.length
  t : ∀ (h : Nat) r, ids[h]? = some r → st.S.getD h (fun _ => false) = T r
  nd : ids.Nodup
  bd : ∀ (n : Nat) h, st.A[n]? = some (some h) → h < ids.length
  live : ∀ r ∈ ids, hh r ≠ none
theorem Ref.view {hh h' : V} {ids : List Nat} {st : KSt} {A : List (Option Nat)} {T : Nat → Int → Bool} (r : Ref hh ids st A T) (l : ∀ q, hh q ≠ none → h' q ≠ none) : Ref h' ids st A T := ⟨r.a, r.len, r.t, r.nd, r.bd, fun q hq => l q (r.live q hq)⟩
theorem Ref.le {hh h' : V} {ids : List Nat} {st : KSt} {A : List (Option Nat)} {T : Nat → Int → Bool} (r : Ref hh ids st A T) (l : Le hh h') : Ref h' ids st A T := r.view fun q hq => by
  cases e : hh q with
  | none => exact absurd e hq
  | some o => rw [l _ _ e]; simp
theorem Ref.get {hh : V} {ids : List Nat} {st : KSt} {A : List (Option Nat)} {T : Nat → Int → Bool} (r : Ref hh ids st A T) (n : Nat) : A[n]? = (st.A[n]?).map (Option.map fun h => ids.getD h 0) := by rw [r.a, List.getElem?_map]
theorem Ref.isS {hh : V} {ids : List Nat} {st : KSt} {A : List (Option Nat)} {T : Nat → Int → Bool} (r : Ref hh ids st A T) {n q : Nat} (h : A[n]? = some (some q)) : ∃ i, st.A[n]? = some (some i) ∧ ids[i]? = some q ∧ st.S.getD i (fun _ => false) = T q := by
  rw [r.get n] at h
  cases e : st.A[n]? with
  | none => rw [e] at h; cases h
  | some x =>
    rw [e] at h
    cases x with
    | none => simp at h
    | some i =>
      have hi := r.bd n i e
      simp [List.getElem?_eq_getElem hi] at h
      have : ids[i]? = some q := by rw [List.getElem?_eq_getElem hi, h]
      exact ⟨i, rfl, this, r.t i q this⟩
theorem Ref.isN {hh : V} {ids : List Nat} {st : KSt} {A : List (Option Nat)} {T : Nat → Int → Bool} (r : Ref hh ids st A T) {n : Nat} (h : A[n]? = some none) : st.A[n]? = some none := by
  rw [r.get n] at h
  cases e : st.A[n]? with
  | none => rw [e] at h; cases h
  | some x =>
    rw [e] at h
    cases x with
    | none => rfl
    | some i => simp at h
theorem Ref.fresh {hh h' : V} {ids : List Nat} {st : KSt} {A : List (Option Nat)} {T : Nat → Int → Bool} (r : Ref hh ids st A T) {q : Nat} {t : Int → Bool} (hq : hh q = none) (l : Le hh h') (hq' : h' q ≠ none) :
    Ref h' (ids ++ [q]) ⟨st.A, st.S ++ [t]⟩ A (upT T q t) ∧ (ids ++ [q])[st.S.length]? = some q := by
  have hni : q ∉ ids := fun hm => r.live q hm hq
  have r' := r.le l
  have hA : st.A.map (Option.map fun h => ids.getD h 0) = st.A.map (Option.map fun h => (ids ++ [q]).getD h 0) := by
    apply List.map_congr_left
    intro x hx
    cases x with
    | none => rfl
    | some i =>
      obtain ⟨n, hn, hx⟩ := List.getElem_of_mem hx
      have hi := r.bd n i (by rw [List.getElem?_eq_getElem hn, hx])
      simp only [Option.map_some, List.getD_eq_getElem?_getD, List.getElem?_append_left hi]
  refine ⟨⟨by rw [r.a]; exact hA, by simp [r.len], fun h x hx => ?_, ?_, fun n h hn => ?_, fun x hx => ?_⟩, ?_⟩
  · rcases Nat.lt_or_ge h ids.length with g | g
    · rw [List.getElem?_append_left g] at hx
      have hxm : x ∈ ids := List.mem_of_getElem? hx
      have : x ≠ q := fun e => hni (e ▸ hxm)
      rw [upT_ne this, ← r.t h x hx]
      simp only [List.getD_eq_getElem?_getD]
      rw [List.getElem?_append_left (by rw [← r.len]; exact g)]
    · rw [List.getElem?_append_right g] at hx
      have e : h - ids.length = 0 := by
        have := (List.getElem?_eq_some_iff.1 hx).1
        simp at this; omega
      rw [e] at hx
      simp at hx
      subst hx
      have e2 : h = st.S.length := by rw [← r.len]; omega
      subst e2
      rw [upT_self]
      simp [List.getD_eq_getElem?_getD]
  · rw [List.nodup_append]
    refine ⟨r.nd, by simp, fun a ha b hb => ?_⟩
    rw [List.mem_singleton.1 hb]
    exact fun e => hni (e ▸ ha)
  · have := r.bd n h hn
    simp; omega
  · rcases List.mem_append.1 hx with g | g
    · exact r'.live x g
    · rw [List.mem_singleton.1 g]; exact hq'
  · rw [← r.len]; simp
theorem Ref.meet {hh h' : V} {ids : List Nat} {st : KSt} {A A' : List (Option Nat)} {T T' : Nat → Int → Bool} {n h2 r2 : Nat} {b : Bool} (r : Ref hh ids st A T) (h2r : ids[h2]? = some r2) (e : meetW A T n r2 = (A', T', b)) (live : ∀ q, hh q ≠ none → h' q ≠ none) :
    Ref h' ids (meetF st n h2).1 A' T' ∧ (meetF st n h2).2 = b := by
  have r' := r.view live
  have e2 := r.t h2 r2 h2r
  unfold meetW at e
  cases hA : A[n]? with
  | none =>
    rw [hA] at e
    cases e
    have : st.A[n]? = none := by
      have := r.get n
      rw [hA] at this
      cases x : st.A[n]? with
      | none => rfl
      | some y => rw [x] at this; cases this
    unfold meetF
    rw [this]
    exact ⟨r', rfl⟩
  | some x =>
    cases x with
    | none =>
      rw [hA] at e
      cases e
      unfold meetF
      rw [r.isN hA]
      refine ⟨⟨?_, r.len, r.t, r.nd, fun m h hm => ?_, r'.live⟩, rfl⟩
      · rw [r.a, List.map_set]
        simp [List.getD_eq_getElem?_getD, h2r]
      · simp only [List.getElem?_set] at hm
        split at hm
        · split at hm
          · cases hm; exact (List.getElem?_eq_some_iff.1 h2r).1
          · cases hm
        · exact r.bd m h hm
    | some r1 =>
      rw [hA] at e
      obtain ⟨h1, a1, i1, t1⟩ := r.isS hA
      cases e
      unfold meetF
      rw [a1]
      refine ⟨⟨r.a, by simp [r.len], fun h x hx => ?_, r.nd, r.bd, r'.live⟩, by show loses _ _ = _; rw [t1, e2]⟩
      have hlt := (List.getElem?_eq_some_iff.1 hx).1
      rw [r.len] at hlt
      simp only [List.getD_eq_getElem?_getD, List.getElem?_set]
      by_cases g : h1 = h
      · subst g
        rw [i1] at hx
        cases hx
        rw [upT_self]
        simp only [List.getD_eq_getElem?_getD] at t1 e2
        rw [if_pos rfl, if_pos hlt, Option.getD_some, t1, e2]
      · have : x ≠ r1 := fun ex => by
          subst ex
          exact g ((List.getElem?_inj (List.getElem?_eq_some_iff.1 i1).1 r.nd).1 (i1.trans hx.symm))
        rw [if_neg g, upT_ne this, ← r.t h x hx, List.getD_eq_getElem?_getD]
end Go.Proofs.Ytaefmhephoilmaa
