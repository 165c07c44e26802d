/- Maps with whole numbers as keys, as views have them. -/
import Derived.Test.YtaefmhephoilmaaVlib
namespace Go.VL
open Go

def mget {α : Type} (m : List (Int × α)) (k : Int) : Option α := (m.find? fun p => p.1 == k).map (·.2)
def mset {α : Type} : List (Int × α) → Int → α → List (Int × α)
  | [], k, v => [(k, v)]
  | (j, u) :: m, k, v => if j = k then (k, v) :: m else (j, u) :: mset m k v
def mdel {α : Type} : List (Int × α) → Int → List (Int × α)
  | [], _ => []
  | (j, u) :: m, k => if j = k then m else (j, u) :: mdel m k
def mkeys {α : Type} (m : List (Int × α)) : List Int := m.map (·.1)

section
variable {α : Type}
theorem mget_nil (k : Int) : mget ([] : List (Int × α)) k = none := rfl
theorem mget_cons (j : Int) (u : α) (m : List (Int × α)) (k : Int) : mget ((j, u) :: m) k = if j = k then some u else mget m k := by
  unfold mget
  by_cases h : j = k
  · simp [h]
  · have : (j == k) = false := by simpa using h
    simp [List.find?_cons, this, h]
theorem mget_none {m : List (Int × α)} {k : Int} : mget m k = none ↔ k ∉ mkeys m := by
  induction m with
  | nil => simp [mget_nil, mkeys]
  | cons p m ih =>
    obtain ⟨j, u⟩ := p
    rw [mget_cons]
    by_cases h : j = k
    · simp [h, mkeys]
    · have h' : ¬ k = j := fun e => h e.symm
      rw [if_neg h, ih]
      simp [mkeys, h']
theorem mget_isSome {m : List (Int × α)} {k : Int} : (mget m k).isSome = true ↔ k ∈ mkeys m := by
  rw [← Option.ne_none_iff_isSome, Ne, mget_none]
  simp
theorem mget_mset (m : List (Int × α)) (k : Int) (v : α) (k' : Int) : mget (mset m k v) k' = if k = k' then some v else mget m k' := by
  induction m with
  | nil => simp [mset, mget_cons, mget_nil]
  | cons p m ih =>
    obtain ⟨j, u⟩ := p
    unfold mset
    by_cases h : j = k
    · subst h
      rw [if_pos rfl, mget_cons, mget_cons]
      by_cases h' : j = k' <;> simp [h']
    · rw [if_neg h, mget_cons, mget_cons, ih]
      by_cases h1 : j = k'
      · subst h1
        have : ¬ k = j := fun e => h e.symm
        simp [this]
      · simp [h1]
theorem mkeys_mset (m : List (Int × α)) (k : Int) (v : α) : mkeys (mset m k v) = if k ∈ mkeys m then mkeys m else mkeys m ++ [k] := by
  induction m with
  | nil => simp [mset, mkeys]
  | cons p m ih =>
    obtain ⟨j, u⟩ := p
    unfold mset
    by_cases h : j = k
    · subst h; simp [mkeys]
    · rw [if_neg h]
      have h' : ¬ k = j := fun e => h e.symm
      have e : mkeys ((j, u) :: mset m k v) = j :: mkeys (mset m k v) := rfl
      have e2 : mkeys ((j, u) :: m) = j :: mkeys m := rfl
      rw [e, ih, e2]
      by_cases hk : k ∈ mkeys m
      · simp [hk]
      · simp [hk, h']
theorem mset_nodup {m : List (Int × α)} (h : (mkeys m).Nodup) (k : Int) (v : α) : (mkeys (mset m k v)).Nodup := by
  rw [mkeys_mset]
  split
  · exact h
  · rename_i hk
    rw [List.nodup_append]
    refine ⟨h, by simp, ?_⟩
    intro a ha b hb
    simp only [List.mem_singleton] at hb
    subst hb
    intro e; subst e; exact hk ha
theorem mkeys_len (m : List (Int × α)) : (mkeys m).length = m.length := List.length_map _
theorem mset_length (m : List (Int × α)) (k : Int) (v : α) : (mset m k v).length = if k ∈ mkeys m then m.length else m.length + 1 := by
  have := congrArg List.length (mkeys_mset m k v)
  rw [mkeys_len] at this
  rw [this]
  by_cases hk : k ∈ mkeys m
  · rw [if_pos hk, if_pos hk, mkeys_len]
  · rw [if_neg hk, if_neg hk, List.length_append, mkeys_len]; rfl
theorem mkeys_mdel (m : List (Int × α)) (k : Int) : mkeys (mdel m k) = (mkeys m).erase k := by
  induction m with
  | nil => rfl
  | cons p m ih =>
    obtain ⟨j, u⟩ := p
    unfold mdel
    by_cases h : j = k
    · subst h; simp [mkeys]
    · rw [if_neg h]
      have e : mkeys ((j, u) :: mdel m k) = j :: mkeys (mdel m k) := rfl
      have e2 : mkeys ((j, u) :: m) = j :: mkeys m := rfl
      have hjk : (j == k) = false := by simpa using h
      rw [e, e2, ih, List.erase_cons]
      simp [h]
theorem mdel_nodup {m : List (Int × α)} (h : (mkeys m).Nodup) (k : Int) : (mkeys (mdel m k)).Nodup := by
  rw [mkeys_mdel]; exact h.erase k
theorem mget_mdel {m : List (Int × α)} (h : (mkeys m).Nodup) (k k' : Int) : mget (mdel m k) k' = if k = k' then none else mget m k' := by
  induction m with
  | nil => simp [mdel, mget_nil]
  | cons p m ih =>
    obtain ⟨j, u⟩ := p
    have h2 := List.nodup_cons.1 (show (j :: mkeys m).Nodup from h)
    unfold mdel
    by_cases hjk : j = k
    · subst hjk
      rw [if_pos rfl, mget_cons]
      by_cases h' : j = k'
      · subst h'; simp [mget_none.2 h2.1]
      · simp [h']
    · rw [if_neg hjk, mget_cons, mget_cons, ih h2.2]
      by_cases h1 : j = k'
      · subst h1
        have : ¬ k = j := fun e => hjk e.symm
        simp [this]
      · simp [h1]
theorem mget_mem {m : List (Int × α)} (h : (mkeys m).Nodup) {k : Int} {v : α} : mget m k = some v ↔ (k, v) ∈ m := by
  induction m with
  | nil => simp [mget_nil]
  | cons p m ih =>
    obtain ⟨j, u⟩ := p
    have h2 := List.nodup_cons.1 (show (j :: mkeys m).Nodup from h)
    rw [mget_cons]
    by_cases hjk : j = k
    · subst hjk
      rw [if_pos rfl]
      constructor
      · intro e; cases e; simp
      · intro hm
        rcases List.mem_cons.1 hm with e | e
        · cases e; rfl
        · exact absurd (List.mem_map.2 ⟨(j, v), e, rfl⟩) h2.1
    · rw [if_neg hjk, ih h2.2]
      simp only [List.mem_cons, Prod.mk.injEq]
      constructor
      · exact fun h => .inr h
      · rintro (⟨e, _⟩ | h)
        · exact absurd e.symm hjk
        · exact h
end

/- an object that is a map -/
structure MapRep (kd : Kd) (o : Obj) (m : List (Int × kd.T)) : Prop where
  nodup : (mkeys m).Nodup
  ex : ∃ es clk, o = .map es clk ∧ es.toList.map (fun e => (e.key, e.val)) = m.map (fun p => (Value.int .i64 p.1, kd.mk p.2)) ∧ (es.toList.map (·.born)).Nodup ∧ ∀ e ∈ es.toList, e.born < clk
theorem MapRep.empty (kd : Kd) : MapRep kd (.map #[] 0) [] := ⟨by simp [mkeys], #[], 0, rfl, by simp, by simp, by simp⟩

section
variable {kd : Kd}
theorem findNow_map {k : Int} : ∀ {es : List MapEntry} {m : List (Int × kd.T)} {n : Nat}, es.map (fun e => (e.key, e.val)) = m.map (fun p => (Value.int .i64 p.1, kd.mk p.2)) →
    (∀ v, mget m k = some v → ∃ i, Instr.findNow (.int .i64) (.int .i64 k) es n = some (some (n + i, kd.mk v)) ∧ m[i]? = some (k, v) ∧ ∀ j < i, ∀ p, m[j]? = some p → p.1 ≠ k) ∧ (mget m k = none → Instr.findNow (.int .i64) (.int .i64 k) es n = some none)
  | [], m, n, h => by
    have : m = [] := by simpa using h.symm
    subst this
    exact ⟨fun v hv => by simp [mget_nil] at hv, fun _ => rfl⟩
  | e :: es, [], n, h => by simp at h
  | e :: es, (j, u) :: m, n, h => by
    simp only [List.map_cons, List.cons.injEq, Prod.mk.injEq] at h
    obtain ⟨⟨h1, h2⟩, h3⟩ := h
    obtain ⟨ih1, ih2⟩ := findNow_map (k := k) (n := n + 1) h3
    have hs : Instr.sameNow (.int .i64) (.int .i64 k) e.key = some (k == j) := by rw [h1]; simp [Instr.sameNow]
    rw [mget_cons]
    by_cases hjk : j = k
    · subst hjk
      rw [if_pos rfl]
      refine ⟨fun v hv => ?_, fun hv => by cases hv⟩
      cases hv
      refine ⟨0, ?_, rfl, fun j hj => absurd hj (by omega)⟩
      unfold Instr.findNow
      rw [hs]
      simp [h2]
    · rw [if_neg hjk]
      have hkj : (k == j) = false := by simpa using fun e : k = j => hjk e.symm
      refine ⟨fun v hv => ?_, fun hv => ?_⟩
      · obtain ⟨i, hi1, hi2, hi3⟩ := ih1 v hv
        refine ⟨i + 1, ?_, by simpa using hi2, ?_⟩
        · unfold Instr.findNow
          rw [hs, hkj]
          simp only
          rw [hi1]
          congr 3
          omega
        · intro q hq p hp
          cases q with
          | zero => simp at hp; subst hp; exact hjk
          | succ q => exact hi3 q (by omega) p (by simpa using hp)
      · unfold Instr.findNow
        rw [hs, hkj]
        exact ih2 hv
theorem Look_map {h : V} {r : Nat} {o : Obj} {m : List (Int × kd.T)} {k : Int} {z : kd.T} {K : kd.T → Bool → Prop} (ho : h r = some o) (hm : MapRep kd o m) (hk : K ((mget m k).getD z) (mget m k).isSome) : Look h (some r) (.int .i64) (.int .i64 k) (.one kd) z K := by
  obtain ⟨es, clk, rfl, he, _⟩ := hm.ex
  obtain ⟨h1, h2⟩ := findNow_map (k := k) (n := 0) he
  refine ⟨es, clk, ho, ?_⟩
  cases hg : mget m k with
  | none => rw [hg] at hk; exact .inr ⟨h2 hg, hk⟩
  | some v =>
    rw [hg] at hk
    obtain ⟨i, hi, _⟩ := h1 v hg
    exact .inl ⟨0 + i, v, hi, hk⟩
theorem mset_at {α : Type} : ∀ {m : List (Int × α)} {i : Nat} {k : Int} {v u : α}, m[i]? = some (k, u) → (∀ j < i, ∀ p, m[j]? = some p → p.1 ≠ k) → mset m k v = m.set i (k, v)
  | [], i, _, _, _, h, _ => by simp at h
  | (j, w) :: m, 0, k, v, u, h, _ => by
    simp at h
    obtain ⟨rfl, rfl⟩ := h
    simp [mset]
  | (j, w) :: m, i + 1, k, v, u, h, hf => by
    have hjk : j ≠ k := hf 0 (by omega) (j, w) rfl
    unfold mset
    rw [if_neg hjk, List.set_cons_succ, mset_at (by simpa using h) fun q hq p hp => hf (q + 1) (by omega) p (by simpa using hp)]
theorem mset_new {α : Type} : ∀ {m : List (Int × α)} {k : Int} {v : α}, k ∉ mkeys m → mset m k v = m ++ [(k, v)]
  | [], _, _, _ => rfl
  | (j, w) :: m, k, v, h => by
    have h1 : ¬ j = k := fun e => h (by simp [mkeys, e])
    have h2 : k ∉ mkeys m := fun e => h (List.mem_cons_of_mem _ e)
    unfold mset
    rw [if_neg h1, mset_new h2]
    rfl
theorem mdel_at {α : Type} : ∀ {m : List (Int × α)} {i : Nat} {k : Int} {u : α}, m[i]? = some (k, u) → (∀ j < i, ∀ p, m[j]? = some p → p.1 ≠ k) → mdel m k = m.eraseIdx i
  | [], i, _, _, h, _ => by simp at h
  | (j, w) :: m, 0, k, u, h, _ => by
    simp at h
    obtain ⟨rfl, rfl⟩ := h
    simp [mdel]
  | (j, w) :: m, i + 1, k, u, h, hf => by
    have hjk : j ≠ k := hf 0 (by omega) (j, w) rfl
    unfold mdel
    rw [if_neg hjk, List.eraseIdx_cons_succ, mdel_at (by simpa using h) fun q hq p hp => hf (q + 1) (by omega) p (by simpa using hp)]
theorem mdel_new {α : Type} : ∀ {m : List (Int × α)} {k : Int}, k ∉ mkeys m → mdel m k = m
  | [], _, _ => rfl
  | (j, w) :: m, k, h => by
    have h1 : ¬ j = k := fun e => h (by simp [mkeys, e])
    have h2 : k ∉ mkeys m := fun e => h (List.mem_cons_of_mem _ e)
    unfold mdel
    rw [if_neg h1, mdel_new h2]
theorem MUpd_map {h : V} {r : Nat} {o : Obj} {m : List (Int × kd.T)} {k : Int} {v : kd.T} {K : V → Prop} (ho : h r = some o) (hm : MapRep kd o m) (hk : ∀ o', MapRep kd o' (mset m k v) → K (h.upd r o')) :
    MUpd h (some r) (.int .i64) (.int .i64 k) (kd.mk v) K := by
  obtain ⟨es, clk, rfl, he, hb, hc⟩ := hm.ex
  obtain ⟨h1, h2⟩ := findNow_map (k := k) (n := 0) he
  refine ⟨r, es, clk, rfl, ho, ?_⟩
  cases hg : mget m k with
  | none =>
    refine .inr ⟨h2 hg, hk _ ⟨mset_nodup hm.nodup k v, _, _, rfl, ?_, ?_, ?_⟩⟩
    · rw [mset_new (mget_none.1 hg)]
      simp [he]
    · simp only [Array.toList_push, List.map_append, List.map_cons, List.map_nil]
      rw [List.nodup_append]
      refine ⟨hb, by simp, ?_⟩
      intro a ha b hb' e
      simp only [List.mem_singleton] at hb'
      subst hb'; subst e
      obtain ⟨x, hx, e⟩ := List.mem_map.1 ha
      have := hc x hx
      omega
    · intro e he'
      simp only [Array.toList_push, List.mem_append, List.mem_singleton] at he'
      rcases he' with he' | rfl
      · exact Nat.lt_succ_of_lt (hc e he')
      · simp
  | some u =>
    obtain ⟨i, hi, hi2, hi3⟩ := h1 u hg
    rw [Nat.zero_add] at hi
    refine .inl ⟨i, _, hi, hk _ ⟨mset_nodup hm.nodup k v, _, _, rfl, ?_, ?_, ?_⟩⟩
    · rw [mset_at (v := v) hi2 hi3]
      rw [Array.toList_modify, List.map_set, ← he]
      apply List.ext_getElem?
      intro j
      simp only [List.getElem?_map, List.getElem?_modify, List.getElem?_set]
      by_cases hij : i = j
      · subst hij
        simp only [if_true]
        have hlen : i < es.toList.length := by
          have := congrArg List.length he
          simp only [List.length_map] at this
          rw [this]
          exact (List.getElem?_eq_some_iff.1 hi2).1
        rw [List.getElem?_eq_getElem hlen]
        simpa using hlen
      · simp [hij]
    · have : (es.modify i fun e => { e with key := Value.int .i64 k, val := kd.mk v }).toList.map (·.born) = es.toList.map (·.born) := by
        rw [Array.toList_modify]
        apply List.ext_getElem?
        intro j
        simp only [List.getElem?_map, List.getElem?_modify]
        by_cases hij : i = j
        · subst hij; cases es.toList[i]? <;> simp
        · simp [hij]
      rw [this]; exact hb
    · intro e he'
      rw [Array.toList_modify] at he'
      obtain ⟨j, hj⟩ := List.mem_iff_getElem?.1 he'
      rw [List.getElem?_modify] at hj
      cases hx : es.toList[j]? with
      | none => rw [hx] at hj; simp at hj
      | some x =>
        rw [hx] at hj
        have hxm := hc x (List.mem_of_getElem? hx)
        simp only [Option.map_eq_map, Option.map_some, Option.some.injEq] at hj
        subst hj
        split <;> exact hxm
theorem erase_map {α β : Type} (f : α → β) : ∀ (l : List α) (i : Nat), (l.eraseIdx i).map f = (l.map f).eraseIdx i
  | [], i => by simp
  | a :: l, 0 => by simp
  | a :: l, i + 1 => by simp [erase_map f l i]
theorem MDel_map {h : V} {r : Nat} {o : Obj} {m : List (Int × kd.T)} {k : Int} {K : V → Prop} (ho : h r = some o) (hm : MapRep kd o m) (hk : ∀ o', MapRep kd o' (mdel m k) → K (h.upd r o')) :
    MDel h (some r) (.int .i64) (.int .i64 k) K := by
  obtain ⟨es, clk, rfl, he, hb, hc⟩ := hm.ex
  obtain ⟨h1, h2⟩ := findNow_map (k := k) (n := 0) he
  refine ⟨es, clk, ho, ?_⟩
  cases hg : mget m k with
  | none =>
    refine .inr ⟨h2 hg, hk _ ⟨mdel_nodup hm.nodup k, _, _, rfl, ?_, hb, hc⟩⟩
    rw [mdel_new (mget_none.1 hg)]
    exact he
  | some u =>
    obtain ⟨i, hi, hi2, hi3⟩ := h1 u hg
    rw [Nat.zero_add] at hi
    have hlen : i < es.toList.length := by
      have := congrArg List.length he
      simp only [List.length_map] at this
      rw [this]
      exact (List.getElem?_eq_some_iff.1 hi2).1
    have herase : (es.eraseIdxIfInBounds i).toList = es.toList.eraseIdx i := by
      simp only [Array.eraseIdxIfInBounds]
      split
      · simp
      · rename_i hx; exact absurd (by simpa using hlen) hx
    refine .inl ⟨i, _, hi, hk _ ⟨mdel_nodup hm.nodup k, _, _, rfl, ?_, ?_, ?_⟩⟩
    · rw [herase, mdel_at hi2 hi3, erase_map, erase_map, he]
    · rw [herase, erase_map]
      exact hb.sublist (List.eraseIdx_sublist _ _)
    · intro e he'
      rw [herase] at he'
      exact hc e (List.mem_of_mem_eraseIdx he')
theorem LenM_map {h : V} {r : Nat} {o : Obj} {m : List (Int × kd.T)} {K : Int → Prop} (ho : h r = some o) (hm : MapRep kd o m) (hk : K (m.length : Nat)) : LenM h (some r) K := by
  obtain ⟨es, clk, rfl, he, _⟩ := hm.ex
  refine ⟨es, clk, ho, ?_⟩
  have := congrArg List.length he
  simp only [List.length_map, Array.length_toList] at this
  rw [this]; exact hk
end
end Go.VL
