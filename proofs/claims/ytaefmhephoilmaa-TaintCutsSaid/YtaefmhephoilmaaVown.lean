/- Slices of a call's own: written to and appended to. -/
import Derived.Test.YtaefmhephoilmaaVlib
namespace Go.VL
open Go

/- cells stored one behind the other in a block -/
theorem StL_at {h : V} {r o : Nat} {t : TypeId} {K : V → Prop} : ∀ (vs : List Value) (arr : Array Value) (i : Nat) (h1 : V), o + i + vs.length ≤ arr.size → h1 r = some (.cells arr t (0, 0)) → (∀ b, b ≠ r → h1 b = h b) →
    (∀ h', (∃ arr' : Array Value, h' r = some (.cells arr' t (0, 0)) ∧ arr'.size = arr.size ∧ arr'.toList = arr.toList.take (o + i) ++ vs ++ arr.toList.drop (o + i + vs.length)) → (∀ b, b ≠ r → h' b = h b) → K h') → StL h1 ((⟨r, o, none⟩ : Addr)) i vs K
  | [], arr, i, h1, _, hb, hf, hk => hk h1 ⟨arr, hb, rfl, by simp⟩ hf
  | v :: vs, arr, i, h1, hl, hb, hf, hk => by
    have e : Addr.add ⟨r, o, none⟩ i = ⟨r, o + i, none⟩ := by unfold Addr.add; split <;> simp_all
    simp only [List.length_cons] at hl
    refine ⟨⟨_, _, 0, 0, by rw [e]; exact hb, by rw [e], by rw [e]; show o + i < _; omega, by rw [e]; simp⟩, ?_⟩
    rw [e]
    refine StL_at vs (arr.setIfInBounds (o + i) v) (i + 1) _ (by simp; omega) (setc_self (a := ⟨r, o + i, none⟩) hb v) (fun b hne => (setc_ne (a := ⟨r, o + i, none⟩) hne v).trans (hf b hne)) ?_
    rintro h' ⟨arr', h1', h3', h2'⟩ hF
    refine hk h' ⟨arr', h1', by rw [h3']; simp, ?_⟩ hF
    rw [h2', Array.toList_setIfInBounds]
    have hlt : o + i < arr.toList.length := by simp; omega
    rw [show o + (i + 1) = (o + i) + 1 by omega, List.take_succ_eq_append_getElem (by simpa using hlt)]
    simp only [List.getElem_set_self, List.length_cons]
    rw [show o + i + 1 + vs.length = o + i + (vs.length + 1) by omega]
    rw [List.take_set_of_le (Nat.le_refl _), List.drop_set_of_lt (by omega)]
    simp

/- a slice of a call's own: a stretch of a block that is none of h0's -/
def OwnS (h0 h : V) (s : Sl) (T : TypeId) (sz : Nat) (cs : List Value) : Prop :=
  cs.length = s.n * sz ∧ s.n ≤ s.c ∧ s.n ≤ 140737488355328 ∧
    ((s.a = none ∧ s.c = 0) ∨ ∃ r off arr, s.a = some ⟨r, off, none⟩ ∧ h0 r = none ∧ h r = some (.cells arr T (0, 0)) ∧ off + s.c * sz ≤ arr.size ∧ (arr.toList.drop off).take (s.n * sz) = cs)
theorem add_at (r off j : Nat) : Addr.add ⟨r, off, none⟩ j = ⟨r, off + j, none⟩ := by unfold Addr.add; split <;> simp_all
theorem OwnS.frame {h0 h h' : V} {s : Sl} {T : TypeId} {sz : Nat} {cs : List Value} (o : OwnS h0 h s T sz cs) (hf : ∀ a ob, s.a = some a → h a.block = some ob → h' a.block = some ob) : OwnS h0 h' s T sz cs := by
  obtain ⟨h1, h2, h3, h4⟩ := o
  refine ⟨h1, h2, h3, h4.imp id ?_⟩
  rintro ⟨r, off, arr, a, b, c, d⟩
  exact ⟨r, off, arr, a, b, hf _ _ a c, d⟩
theorem OwnS.le {h0 h h' : V} {s : Sl} {T : TypeId} {sz : Nat} {cs : List Value} (o : OwnS h0 h s T sz cs) (l : Le h h') : OwnS h0 h' s T sz cs := o.frame fun _ _ _ hh => l _ _ hh
theorem OwnS.base {h0 h1 h : V} {s : Sl} {T : TypeId} {sz : Nat} {cs : List Value} (o : OwnS h0 h s T sz cs) (l : Le h1 h0) : OwnS h1 h s T sz cs := by
  obtain ⟨h1, h2, h3, h4⟩ := o
  refine ⟨h1, h2, h3, h4.imp id ?_⟩
  rintro ⟨r, off, arr, a, b, c, d⟩
  exact ⟨r, off, arr, a, l.nil b, c, d⟩
theorem OwnS_nil (h0 h : V) (T : TypeId) (sz : Nat) : OwnS h0 h ⟨none, 0, 0⟩ T sz [] := ⟨by simp, Nat.le_refl _, Nat.zero_le _, .inl ⟨rfl, rfl⟩⟩
theorem OwnS.blk {h0 h : V} {s : Sl} {T : TypeId} {sz : Nat} {cs : List Value} (o : OwnS h0 h s T sz cs) {a : Addr} (ha : s.a = some a) : h0 a.block = none ∧ ∃ arr, h a.block = some (.cells arr T (0, 0)) := by
  rcases o.2.2.2 with ⟨h1, _⟩ | ⟨r, off, arr, h1, h2, h3, _⟩
  · rw [ha] at h1; cases h1
  · rw [ha] at h1; cases h1; exact ⟨h2, arr, h3⟩
theorem OwnS.cell {h0 h : V} {s : Sl} {T : TypeId} {sz : Nat} {cs : List Value} (o : OwnS h0 h s T sz cs) {j : Nat} {v : Value} (hv : cs[j]? = some v) : ∃ a, s.a = some a ∧ cellq h (a.add j) = some v := by
  obtain ⟨h1, h2, h3, h4⟩ := o
  rcases h4 with ⟨ha, hc⟩ | ⟨r, off, arr, ha, _, hr, hsz, ht⟩
  · have : cs.length = 0 := by rw [h1, show s.n = 0 by omega]; simp
    have := (List.getElem?_eq_some_iff.1 hv).1
    omega
  · refine ⟨_, ha, ?_⟩
    rw [add_at]
    unfold cellq
    rw [hr]
    simp only [Option.isSome_none, Bool.false_eq_true, if_false]
    have : arr.toList[off + j]? = some v := by
      rw [← ht] at hv
      rw [List.getElem?_take] at hv
      split at hv
      · rw [List.getElem?_drop] at hv; exact hv
      · cases hv
    simpa using this
theorem OwnS.cells {h0 h : V} {s : Sl} {T : TypeId} {sz : Nat} {cs : List Value} (o : OwnS h0 h s T sz cs) : slCells h s sz cs :=
  ⟨o.1, fun a ha => cellsAt_of fun j v hv => by
    obtain ⟨a', ha', hc⟩ := o.cell hv
    rw [ha] at ha'
    cases ha'
    rw [Nat.zero_add]; exact hc⟩
theorem OwnS.sl {α : Type} {rep : V → Addr → α → Prop} {enc : α → Value} (hrep : ∀ h a x, cellq h a = some (enc x) → rep h a x) {h0 h : V} {s : Sl} {T : TypeId} {l : List α} (o : OwnS h0 h s T 1 (l.map enc)) : isSl rep 1 h s l := by
  have h1 : s.n = l.length := by have := o.1; simp at this; omega
  refine ⟨h1, o.2.1, by have := o.2.2.1; omega, fun k hk => ?_⟩
  obtain ⟨a, ha, hc⟩ := o.cell (j := k) (v := enc l[k]) (by simp [hk])
  exact ⟨a, ha, hrep _ _ _ (by rw [Nat.mul_one]; exact hc)⟩
theorem OwnS.ints {h0 h : V} {s : Sl} {T : TypeId} {l : List Int} (o : OwnS h0 h s T 1 (l.map (Value.int .i64))) : isSl repInt 1 h s l := o.sl fun _ _ _ h => h
theorem OwnS.bools {h0 h : V} {s : Sl} {T : TypeId} {l : List Bool} (o : OwnS h0 h s T 1 (l.map Value.bool)) : isSl repBool 1 h s l := o.sl fun _ _ _ h => h
/- a new slice of equal elements -/
theorem MkSl_own {h : V} {n : Nat} {z : Value} {T : TypeId} {bytes : Nat} {K : Sl → V → Prop} (hb : n * bytes ≤ 140737488355328) (hpos : 0 < bytes) (hk : ∀ s h', Le h h' → OwnS h h' s T 1 (List.replicate n z) → s.n = n → (∀ b, h b ≠ none → h' b = h b) → (∃ a, s.a = some a) → K s h') :
    MkSl h (n : Int) (n : Int) [z] T bytes K := by
  have hn : n ≤ 140737488355328 := Nat.le_trans (Nat.le_mul_of_pos_right _ hpos) hb
  have hb' : (bytes : Int) * (n : Int) ≤ 281474976710656 := by
    have : ((bytes * n : Nat) : Int) ≤ 281474976710656 := by rw [Nat.mul_comm]; omega
    rwa [Int.natCast_mul] at this
  refine ⟨by omega, Int.le_refl _, hb', by omega, fun r hr => ?_⟩
  have hfl : (List.replicate n [z]).flatten = List.replicate n z := by
    induction n with
    | zero => rfl
    | succ n ih => simp [List.replicate_succ] at ih ⊢
  refine hk _ _ (le_upd hr _) ⟨by simp, Nat.le_refl _, by simpa using hn, .inr ⟨r, 0, _, rfl, hr, upd_self _ _ _, by simp, ?_⟩⟩ (by simp) (fun b hb => upd_ne (fun e => by subst e; exact hb hr) _) ⟨_, rfl⟩
  simp
/- a store into a slice of one's own -/
theorem OwnS.set {h0 h : V} {s : Sl} {T : TypeId} {cs : List Value} {K : V → Prop} (o : OwnS h0 h s T 1 cs) (l : Le h0 h) {i : Int} {v : Value} (hi0 : 0 ≤ i) (hi : i.toNat < cs.length)
    (hk : ∀ h', Le h0 h' → OwnS h0 h' s T 1 (cs.set i.toNat v) → (∀ b, (∀ a, s.a = some a → b ≠ a.block) → h' b = h b) → K h') : Ix s i 1 fun a => StL h a 0 [v] K := by
  obtain ⟨h1, h2, h3, h4⟩ := o
  rcases h4 with ⟨ha, hc⟩ | ⟨r, off, arr, ha, hr0, hr, hsz, ht⟩
  · have : cs.length = 0 := by rw [h1, show s.n = 0 by omega]
    omega
  · refine ⟨_, ha, hi0, by omega, ?_⟩
    rw [add_at, Nat.mul_one]
    refine StL_at (h := h) [v] arr 0 h (by simp; omega) hr (fun _ _ => rfl) ?_
    rintro h' ⟨arr', hr', hs', he'⟩ hF
    refine hk h' (fun b x hb => (hF b (fun e => by subst e; rw [hr0] at hb; cases hb)).trans (l _ _ hb)) ⟨by simpa using h1, h2, h3, .inr ⟨r, off, arr', ha, hr0, hr', by rw [hs']; exact hsz, ?_⟩⟩ (fun b hb => hF b (hb _ ha))
    rw [he', ← ht]
    apply List.ext_getElem?
    intro j
    have hlt : off + i.toNat < arr.toList.length := by simp; omega
    by_cases hj : j < s.n * 1
    · rw [List.getElem?_take_of_lt hj, List.getElem?_drop]
      by_cases hji : j = i.toNat
      · subst hji
        rw [List.getElem?_set_self (by simp; omega)]
        simp only [Nat.add_zero, List.append_assoc]
        rw [List.getElem?_append_right (by rw [List.length_take]; exact Nat.min_le_left _ _)]
        simp only [List.length_take]
        rw [Nat.min_eq_left (by omega)]
        simp
      · rw [List.getElem?_set_ne (by omega), List.getElem?_take_of_lt hj, List.getElem?_drop]
        simp only [Nat.add_zero, List.append_assoc]
        by_cases hlt2 : j < i.toNat
        · rw [List.getElem?_append_left (by simp; omega), List.getElem?_take_of_lt (by omega)]
        · rw [List.getElem?_append_right (by simp; omega)]
          simp only [List.length_take]
          rw [Nat.min_eq_left (by omega), List.singleton_append]
          obtain ⟨d, hd⟩ : ∃ d, off + j - (off + i.toNat) = d + 1 := ⟨j - i.toNat - 1, by omega⟩
          rw [hd, List.getElem?_cons_succ, List.getElem?_drop]
          congr 1
          simp; omega
    · rw [List.getElem?_take_eq_none (by omega), List.getElem?_set_ne (by omega), List.getElem?_take_eq_none (by omega)]

theorem App_own {h0 h : V} {s x : Sl} {T : TypeId} {sz bytes : Nat} {zero cs xs : List Value} {K : Sl → V → Prop} (l : Le h0 h) (o : OwnS h0 h s T sz cs) (hx : slCells h x sz xs) (hx0 : x.a = none → x.n = 0) (h1 : xs.all oneCell = true)
    (hz : zero.length = sz) (hpos : 0 < bytes) (hb : (s.n + x.n) * bytes ≤ 140737488355328)
    (hk : ∀ s' h', Le h0 h' → OwnS h0 h' s' T sz (cs ++ xs) → s'.n = s.n + x.n → (∀ b, (∀ a, s.a = some a → b ≠ a.block) → h b ≠ none → h' b = h b) → (∀ a', s'.a = some a' → (∃ a, s.a = some a ∧ a'.block = a.block) ∨ h a'.block = none) → K s' h') : App h s x T sz bytes zero K := by
  have hoc := o.cells
  obtain ⟨o1, o2, o3, o4⟩ := o
  have hn : s.n + x.n ≤ 140737488355328 := Nat.le_trans (Nat.le_mul_of_pos_right _ hpos) hb
  have hlen : (cs ++ xs).length = (s.n + x.n) * sz := by rw [List.length_append, o1, hx.1, Nat.add_mul]
  refine ⟨xs, hx0, hx, h1, fun hle => ⟨fun ha => ?_, fun a ha => ?_, fun ha => ?_⟩, fun hlt => ⟨hb, hpos, cs, fun ha => ?_, hoc, fun r c hr hc => ?_⟩⟩
  · rcases o4 with ⟨_, hc⟩ | ⟨r, off, arr, ha', _⟩
    · omega
    · rw [ha] at ha'; cases ha'
  · rcases o4 with ⟨ha', _⟩ | ⟨r, off, arr, ha', hr0, hr, hsz, ht⟩
    · rw [ha] at ha'; cases ha'
    · rw [ha] at ha'
      cases ha'
      rw [add_at]
      have hfit : s.n * sz + xs.length ≤ s.c * sz := by
        rw [hx.1, ← Nat.add_mul]; exact Nat.mul_le_mul_right _ hle
      refine StL_at (h := h) xs arr 0 h (by omega) hr (fun _ _ => rfl) ?_
      rintro h' ⟨arr', hr', hs', he'⟩ hF
      refine hk _ h' (fun b y hb => (hF b (fun e => by subst e; rw [hr0] at hb; cases hb)).trans (l _ _ hb)) ⟨hlen, hle, hn, .inr ⟨r, off, arr', ha, hr0, hr', by rw [hs']; exact hsz, ?_⟩⟩ rfl (fun b hbne _ => hF b (hbne _ ha)) (fun a' ha' => .inl ⟨a', ha', rfl⟩)
      have hoff : off ≤ arr.toList.length := by simp; omega
      rw [he', ← hlen]
      simp only [Nat.add_zero]
      have hd : (arr.toList.take (off + s.n * sz)).drop off = cs := by
        rw [List.drop_take, ← ht]
        congr 1
        omega
      rw [List.append_assoc, List.drop_append_of_le_length (by simp; omega), hd]
      rw [← List.append_assoc]
      exact List.take_left
  · rcases o4 with ⟨_, hc⟩ | ⟨r, off, arr, ha', _⟩
    · have h3 : x.n = 0 := by omega
      have h4 : s.n = 0 := by omega
      have : xs = [] := List.eq_nil_of_length_eq_zero (by rw [hx.1, h3]; simp)
      subst this
      exact hk _ h l ⟨hlen, by omega, hn, .inl ⟨ha, hc⟩⟩ rfl (fun _ _ _ => rfl) (fun a' ha' => .inl ⟨a', ha', rfl⟩)
    · rw [ha] at ha'; cases ha'
  · rcases o4 with ⟨_, hc⟩ | ⟨r, off, arr, ha', _⟩
    · omega
    · rw [ha] at ha'; cases ha'
  · refine hk _ _ (l.upd (l.nil hr) _) ⟨hlen, hc, hn, .inr ⟨r, 0, _, rfl, l.nil hr, upd_self _ _ _, ?_, ?_⟩⟩ rfl (fun b _ hbn => upd_ne (fun e => by subst e; exact hbn hr) _) (fun a' ha' => .inr (by cases ha'; exact hr))
    · simp only [List.size_toArray, List.length_append, List.length_flatten, List.map_replicate, List.sum_replicate_nat, o1, hx.1, hz, ← Nat.add_mul, Nat.zero_add]
      exact Nat.mul_le_mul_right _ (by omega)
    · show (((cs ++ xs) ++ _).drop 0).take ((s.n + x.n) * sz) = cs ++ xs
      rw [List.drop_zero, ← hlen]
      exact List.take_left
/- a slice that came in, as cells -/
theorem isSl_cells {α : Type} {rep : V → Addr → α → Prop} {enc : α → Value} (hrep : ∀ h a x, rep h a x → cellq h a = some (enc x)) {h : V} {s : Sl} {l : List α} (hs : isSl rep 1 h s l) : slCells h s 1 (l.map enc) ∧ (s.a = none → s.n = 0) := by
  refine ⟨⟨by simp [hs.1], fun a ha => cellsAt_of fun j v hv => ?_⟩, fun ha => ?_⟩
  · have hj : j < l.length := by have := (List.getElem?_eq_some_iff.1 hv).1; simpa using this
    obtain ⟨a', ha', hr⟩ := hs.2.2.2 j hj
    rw [ha] at ha'
    cases ha'
    rw [Nat.mul_one] at hr
    rw [Nat.zero_add, hrep _ _ _ hr]
    simp [hj] at hv
    rw [hv]
  · rcases Nat.eq_zero_or_pos s.n with h0 | h0
    · exact h0
    · obtain ⟨a', ha', _⟩ := hs.2.2.2 0 (by have := hs.1; omega)
      rw [ha] at ha'; cases ha'
/- one element -/
theorem App_one {h0 h : V} {s : Sl} {T : TypeId} {bytes r : Nat} {v z : Value} {cs : List Value} {K : Sl → V → Prop} {t : TypeId} (l : Le h0 h) (o : OwnS h0 h s T 1 cs) (b : Box h r [v] t) (h1 : oneCell v = true) (hpos : 0 < bytes) (hb : (s.n + 1) * bytes ≤ 140737488355328)
    (hk : ∀ s' h', Le h0 h' → OwnS h0 h' s' T 1 (cs ++ [v]) → s'.n = s.n + 1 → (∀ b, (∀ a, s.a = some a → b ≠ a.block) → h b ≠ none → h' b = h b) → (∀ a', s'.a = some a' → (∃ a, s.a = some a ∧ a'.block = a.block) ∨ h a'.block = none) → K s' h') : App h s ⟨some ⟨r, 0, none⟩, 1, 1⟩ T 1 bytes [z] K :=
  App_own l o ⟨rfl, fun a ha => by cases ha; exact b.cells⟩ (fun ha => by cases ha) (by simp [h1]) rfl hpos hb hk
/- s[1:] -/
theorem Slc_tail {h0 h : V} {s : Sl} {T : TypeId} {v : Value} {cs : List Value} {K : Sl → Prop} (o : OwnS h0 h s T 1 (v :: cs)) (hk : ∀ s', OwnS h0 h s' T 1 cs → s'.n + 1 = s.n → (∀ a', s'.a = some a' → ∃ a, s.a = some a ∧ a'.block = a.block) → K s') : Slc s (some 1) none none 1 K := by
  obtain ⟨h1, h2, h3, h4⟩ := o
  simp only [List.length_cons, Nat.mul_one] at h1
  refine ⟨by simp, by simp; omega, by simp; omega, by simp, ?_⟩
  simp only [Option.getD_some, Option.getD_none, Int.toNat_natCast]
  have e1 : Int.toNat 1 = 1 := rfl
  rw [e1]
  rcases h4 with ⟨ha, hc⟩ | ⟨r, off, arr, ha, hr0, hr, hsz, ht⟩
  · omega
  · by_cases hc1 : s.c = 1
    · rw [if_pos hc1]
      have hcs : cs = [] := List.eq_nil_of_length_eq_zero (by omega)
      subst hcs
      refine hk _ ⟨by simp; omega, by simp; omega, by simp; omega, .inr ⟨r, off, arr, ha, hr0, hr, by simp; omega, by simp; omega⟩⟩ (by simp; omega) (fun a' ha' => ⟨a', ha', rfl⟩)
    · rw [if_neg hc1, ha]
      refine hk _ ⟨by simp; omega, by simp; omega, by simp; omega, .inr ⟨r, off + 1, arr, by simp [add_at], hr0, hr, by simp; omega, ?_⟩⟩ (by simp; omega) (fun a' ha' => ⟨_, ha, ?_⟩)
      · simp only [Nat.mul_one]
        have : (arr.toList.drop off) = v :: (arr.toList.drop (off + 1)) := by
          have h0 : ((arr.toList.drop off).take (s.n * 1))[0]? = some v := by rw [ht]; rfl
          rw [List.getElem?_take_of_lt (by omega), List.getElem?_drop] at h0
          have hlt : off < arr.toList.length := (List.getElem?_eq_some_iff.1 h0).1
          rw [List.drop_eq_getElem_cons hlt]
          have := List.getElem?_eq_getElem hlt
          rw [Nat.add_zero] at h0
          rw [h0] at this
          cases this
          rfl
        rw [this] at ht
        obtain ⟨n, hn⟩ : ∃ n, s.n = n + 1 := ⟨s.n - 1, by omega⟩
        rw [hn] at ht ⊢
        simpa using ht
      · simp at ha'
        rw [← ha', Addr.blk]
end Go.VL
