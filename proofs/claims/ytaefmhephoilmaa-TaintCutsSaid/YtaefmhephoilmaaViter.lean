/- Going through a map. -/
import Derived.Test.YtaefmhephoilmaaVmap
namespace Go.VL
open Go

section
variable {kd : Kd}
def IterAt (kd : Kd) (h : V) (it r : Nat) (m left : List (Int × kd.T)) : Prop :=
  ∃ es clk seen, h it = some (.mapIter (some r) clk seen clk) ∧ h r = some (.map es clk) ∧ MapRep kd (.map es clk) m ∧
    left = ((m.zip es.toList).filter fun x => decide (¬ x.2.born ∈ seen)).map (·.1)
theorem IterAt.frame {h h' : V} {it r : Nat} {m left : List (Int × kd.T)} (i : IterAt kd h it r m left) (h1 : h' it = h it) (h2 : h' r = h r) : IterAt kd h' it r m left := by
  obtain ⟨es, clk, seen, a, b, c, d⟩ := i
  exact ⟨es, clk, seen, h1.trans a, h2.trans b, c, d⟩
theorem IterAt.le {h h' : V} {it r : Nat} {m left : List (Int × kd.T)} (i : IterAt kd h it r m left) (l : Le h h') : IterAt kd h' it r m left := by
  obtain ⟨es, clk, seen, a, b, c, d⟩ := i
  exact ⟨es, clk, seen, l _ _ a, l _ _ b, c, d⟩
theorem IterAt.map {h : V} {it r : Nat} {m left : List (Int × kd.T)} (i : IterAt kd h it r m left) : ∃ o, h r = some o ∧ MapRep kd o m := by
  obtain ⟨es, clk, seen, a, b, c, d⟩ := i
  exact ⟨_, b, c⟩
theorem filter_all {α : Type} (l : List α) (p : α → Bool) (h : ∀ x ∈ l, p x = true) : l.filter p = l := List.filter_eq_self.2 h
theorem Rng_map {h : V} {r : Nat} {o : Obj} {m : List (Int × kd.T)} {K : Nat → V → Prop} (ho : h r = some o) (hm : MapRep kd o m) (hk : ∀ it h', h it = none → Le h h' → (∀ b, b ≠ it → h' b = h b) → IterAt kd h' it r m m → K it h') : Rng h (some r) K := by
  obtain ⟨es, clk, rfl, he, hb, hc⟩ := hm.ex
  refine ⟨es, clk, ho, fun it hit => ?_⟩
  have hne : r ≠ it := fun e => by subst e; rw [hit] at ho; cases ho
  refine hk it _ hit (le_upd hit _) (fun b hb => upd_ne hb _) ⟨es, clk, #[], upd_self _ _ _, (upd_ne hne _).trans ho, hm, ?_⟩
  rw [filter_all _ _ (by simp)]
  have : m.length ≤ es.toList.length := by
    have := congrArg List.length he
    simp only [List.length_map] at this
    omega
  exact (List.map_fst_zip this).symm
theorem zip_get {α β : Type} {l : List α} {l' : List β} {i : Nat} {a : α} {b : β} : (l.zip l')[i]? = some (a, b) ↔ l[i]? = some a ∧ l'[i]? = some b := by
  simp [List.getElem?_zip_eq_some]
theorem NxtEnt {h : V} {it r : Nat} {m left : List (Int × kd.T)} {B : Value → Value → V → Prop} {X : Prop} (hI : IterAt kd h it r m left)
    (hT : ∀ p ∈ left, ∀ h', (∀ b, b ≠ it → h' b = h b) → IterAt kd h' it r m (left.filter fun q => decide (q.1 ≠ p.1)) → B (.int .i64 p.1) (kd.mk p.2) h') (hF : left = [] → X) :
    Nxt h it (fun _ _ h' => Ent h' it fun k v => B k v h') X := by
  obtain ⟨es, clk, seen, h1, h2, hm, hl⟩ := hI
  obtain ⟨es', clk', e, he, hb, hc⟩ := hm.ex
  cases e
  have hlen : m.length = es.toList.length := by
    have := congrArg List.length he
    simpa using this.symm
  refine .inr ⟨r, clk, seen, clk, es, clk, h1, h2, fun _ hne => ?_, fun e hmem hns => ?_, fun hall => hF ?_⟩
  · have hpos : 0 < es.size := Nat.pos_of_ne_zero fun h0 => hne (Array.eq_empty_of_size_eq_zero h0)
    exact ⟨es[0], Array.getElem_mem hpos, hc _ (by simp)⟩
  · have hne : r ≠ it := fun e => by subst e; rw [h2] at h1; cases h1
    obtain ⟨i, hi⟩ := List.mem_iff_getElem?.1 (show e ∈ es.toList by simpa using hmem)
    have hil : i < m.length := by rw [hlen]; exact (List.getElem?_eq_some_iff.1 hi).1
    have hmi : m[i]? = some m[i] := List.getElem?_eq_getElem hil
    have hkv : e.key = .int .i64 m[i].1 ∧ e.val = kd.mk m[i].2 := by
      have := congrArg (fun l => l[i]?) he
      simp only [List.getElem?_map, hi, hmi, Option.map_some, Option.some.injEq, Prod.mk.injEq] at this
      exact this
    have hin : m[i] ∈ left := by
      rw [hl]
      refine List.mem_map.2 ⟨(m[i], e), List.mem_filter.2 ⟨List.mem_of_getElem? (zip_get.2 ⟨hmi, hi⟩), by simpa using hns⟩, rfl⟩
    -- the entry with that stamp is this one
    have hfind : es.find? (fun x => x.born == e.born) = some e := by
      rw [← Array.find?_toList]
      have hx : ∃ x, es.toList.find? (fun x => x.born == e.born) = some x := by
        cases hx : es.toList.find? (fun x => x.born == e.born) with
        | some x => exact ⟨x, rfl⟩
        | none =>
          have := List.find?_eq_none.1 hx e (List.mem_of_getElem? hi)
          simp at this
      obtain ⟨x, hx⟩ := hx
      have hx1 := List.mem_of_find?_eq_some hx
      have hx2 := List.find?_some hx
      obtain ⟨j, hj⟩ := List.mem_iff_getElem?.1 hx1
      have hb2 : (es.toList.map (·.born))[i]? = (es.toList.map (·.born))[j]? := by
        simp only [List.getElem?_map, hi, hj, Option.map_some]
        congr 1
        exact (by simpa using hx2 : x.born = e.born).symm
      have hij : i = j := (List.getElem?_inj (by simp; exact (List.getElem?_eq_some_iff.1 hi).1) hb).1 hb2
      subst hij
      rw [hi] at hj
      cases hj
      exact hx
    have hB := hT m[i] hin (h.upd it (.mapIter (some r) clk (seen.push e.born) clk)) (fun b hb => upd_ne hb _) ⟨es, clk, seen.push e.born, upd_self _ _ _, (upd_ne hne _).trans h2, hm, ?_⟩
    · rw [← hkv.1, ← hkv.2] at hB
      exact ⟨r, clk, seen.push e.born, e.born, clk, es, e, upd_self _ _ _, by simp, (upd_ne hne _).trans h2, hfind, hB⟩
    · rw [hl, List.filter_map, List.filter_filter]
      congr 1
      apply List.filter_congr
      rintro ⟨q, x⟩ hqx
      obtain ⟨j, hj⟩ := List.mem_iff_getElem?.1 hqx
      obtain ⟨hj1, hj2⟩ := zip_get.1 hj
      have hkeys : q.1 = m[i].1 ↔ x.born = e.born := by
        have k1 : (mkeys m)[i]? = some m[i].1 := by simp only [mkeys, List.getElem?_map, hmi, Option.map_some]
        have k2 : (mkeys m)[j]? = some q.1 := by simp only [mkeys, List.getElem?_map, hj1, Option.map_some]
        have b1 : (es.toList.map (·.born))[i]? = some e.born := by simp only [List.getElem?_map, hi, Option.map_some]
        have b2 : (es.toList.map (·.born))[j]? = some x.born := by simp only [List.getElem?_map, hj2, Option.map_some]
        constructor
        · intro h
          have : i = j := (List.getElem?_inj (by rw [mkeys_len]; exact hil) hm.nodup).1 (by rw [k1, k2, h])
          subst this
          rw [b1] at b2; exact (Option.some.inj b2).symm
        · intro h
          have : i = j := (List.getElem?_inj (by simp; exact (List.getElem?_eq_some_iff.1 hi).1) hb).1 (by rw [b1, b2, h])
          subst this
          rw [k1] at k2; exact (Option.some.inj k2).symm
      simp only [Function.comp, Array.mem_push]
      rw [Bool.eq_iff_iff]
      simp only [Bool.and_eq_true, decide_eq_true_eq, Ne, hkeys]
      by_cases h5 : x.born ∈ seen <;> by_cases h6 : x.born = e.born <;> simp [h5, h6]
  · rw [hl]
    have : ((m.zip es.toList).filter fun x => decide (¬ x.2.born ∈ seen)) = [] := by
      rw [List.filter_eq_nil_iff]
      rintro ⟨q, x⟩ hqx
      have hx : x ∈ es.toList := (List.of_mem_zip hqx).2
      have := hall x (by simpa using hx) (hc x hx)
      simpa using this
    rw [this]; rfl
/- the map that is gone through may lose what has been come to -/
theorem MDel_iter {h : V} {it r : Nat} {m left : List (Int × kd.T)} {k : Int} {K : V → Prop} (hI : IterAt kd h it r m left) (hk : k ∉ mkeys left)
    (hK : ∀ h', (∀ b, b ≠ r → h' b = h b) → IterAt kd h' it r (mdel m k) left → K h') : MDel h (some r) (.int .i64) (.int .i64 k) K := by
  obtain ⟨es, clk, seen, h1, h2, hm, hl⟩ := hI
  obtain ⟨es', clk', e, he, hb, hc⟩ := hm.ex
  cases e
  have hne : it ≠ r := fun e => by subst e; rw [h2] at h1; cases h1
  obtain ⟨f1, f2⟩ := findNow_map (k := k) (n := 0) he
  refine ⟨es, clk, h2, ?_⟩
  cases hg : mget m k with
  | none =>
    refine .inr ⟨f2 hg, hK _ (fun b hb => upd_ne hb _) ⟨es, clk, seen, (upd_ne hne _).trans h1, upd_self _ _ _, ?_, ?_⟩⟩
    · rw [mdel_new (mget_none.1 hg)]; exact hm
    · rw [mdel_new (mget_none.1 hg)]; exact hl
  | some u =>
    obtain ⟨i, hi, hi2, hi3⟩ := f1 u hg
    rw [Nat.zero_add] at hi
    have hlen : i < es.toList.length := by
      have := congrArg List.length he
      simp only [List.length_map] at this
      rw [this]
      exact (List.getElem?_eq_some_iff.1 hi2).1
    have herase : (es.eraseIdxIfInBounds i).toList = es.toList.eraseIdx i := by
      simp only [Array.eraseIdxIfInBounds]
      split
      · simp
      · rename_i hx; exact absurd (by simpa using hlen) hx
    have hei : es.toList[i]? = some es.toList[i] := List.getElem?_eq_getElem hlen
    have hzip : ((mdel m k).zip (es.eraseIdxIfInBounds i).toList) = (m.zip es.toList).eraseIdx i := by
      rw [herase, mdel_at hi2 hi3]
      have key : ∀ (l : List (Int × kd.T)) (l' : List MapEntry) (i : Nat), l.length = l'.length → (l.eraseIdx i).zip (l'.eraseIdx i) = (l.zip l').eraseIdx i := by
        intro l
        induction l with
        | nil => intro l' i _; simp
        | cons a l ih =>
          intro l' i hll
          cases l' with
          | nil => simp at hll
          | cons b l' =>
            cases i with
            | zero => simp
            | succ i => simp [ih l' i (by simpa using hll)]
      refine key m es.toList i ?_
      have := congrArg List.length he
      simpa using this.symm
    refine .inl ⟨i, _, hi, hK _ (fun b hb => upd_ne hb _) ⟨_, clk, seen, (upd_ne hne _).trans h1, upd_self _ _ _, ⟨mdel_nodup hm.nodup k, _, _, rfl, ?_, ?_, ?_⟩, ?_⟩⟩
    · rw [herase, mdel_at hi2 hi3, erase_map, erase_map, he]
    · rw [herase, erase_map]
      exact hb.sublist (List.eraseIdx_sublist _ _)
    · intro e he'
      rw [herase] at he'
      exact hc e (List.mem_of_mem_eraseIdx he')
    · rw [hzip, hl]
      congr 1
      -- the entry that goes is none of those that are left
      have hseen : es.toList[i].born ∈ seen := by
        by_cases hs : es.toList[i].born ∈ seen
        · exact hs
        · exfalso
          refine hk ?_
          rw [hl]
          refine List.mem_map.2 ⟨(k, u), List.mem_map.2 ⟨((k, u), es.toList[i]), List.mem_filter.2 ⟨List.mem_of_getElem? (zip_get.2 ⟨hi2, hei⟩), by simpa using hs⟩, rfl⟩, rfl⟩
      have key : ∀ (l : List ((Int × kd.T) × MapEntry)) (i : Nat) (x : (Int × kd.T) × MapEntry), l[i]? = some x → x.2.born ∈ seen → l.filter (fun x => decide (¬ x.2.born ∈ seen)) = (l.eraseIdx i).filter (fun x => decide (¬ x.2.born ∈ seen)) := by
        intro l
        induction l with
        | nil => intro i x hx; simp at hx
        | cons a l ih =>
          intro i x hx hxs
          cases i with
          | zero => simp at hx; subst hx; simp [hxs]
          | succ i =>
            have := ih i x (by simpa using hx) hxs
            simp only [List.eraseIdx_cons_succ, List.filter_cons, this]
      exact key _ i _ (zip_get.2 ⟨hi2, hei⟩) hseen
theorem Rng_nil {h : V} {K : Nat → V → Prop} (hk : ∀ it h', h it = none → Le h h' → h' it = some (.mapIter none 0 #[] 0) → K it h') : Rng h none K :=
  fun it hit => hk it _ hit (le_upd hit _) (upd_self _ _ _)
theorem Nxt_nil {h : V} {it : Nat} {Kt : Value → Value → V → Prop} {X : Prop} (hi : h it = some (.mapIter none 0 #[] 0)) (hx : X) : Nxt h it Kt X := .inl ⟨_, _, _, hi, hx⟩
end
end Go.VL
