/- One order of a region's operations stands for all: the theorem. -/
import Derived.Test.YtaefmhephoilmaaVordb
namespace Go.VL
open Go

def aopsI (P : Program) (ops : List Oper) (xs : List Nat) : List Nat → Env → V → (Env → V → Prop) → Prop
  | [], E, h, K => K E h
  | i :: is, E, h, K => stepOK P ops xs i E h fun E' h' => Inf h' → aopsI P ops xs is E' h' K
theorem aopsI_closed {P : Program} {ops : List Oper} {xs : List Nat} {K : Env → V → Prop} (hK : ClosedE K) : ∀ l, ClosedE fun E h => aopsI P ops xs l E h K
  | [] => hK
  | _ :: is => fun _ _ _ he hk => stepOK_congr (fun _ _ _ he hk hi => aopsI_closed hK is _ _ _ he (hk hi)) he hk
theorem aopsI_of {P : Program} {ops : List Oper} {xs : List Nat} {K K' : Env → V → Prop} (hK : ClosedE K') (hKK : ∀ E h, K E h → K' E h) : ∀ l E h, aops P ops xs l E h K → aopsI P ops xs l E h K'
  | [], _, _, hk => hKK _ _ hk
  | i :: is, E, h, hk => by
    have hk : astep P ops xs i E h fun E' h' => aops P ops xs is E' h' K := hk
    have h1 : astep P ops xs i E h fun E' h' => aopsI P ops xs is E' h' K' := by
      have mono : ∀ {C C' : Env → V → Prop}, (∀ E h, C E h → C' E h) → astep P ops xs i E h C → astep P ops xs i E h C' := by
        intro C C' hC hk
        unfold astep at *
        cases ho : ops[i]? with
        | none => rw [ho] at hk; exact hk
        | some o =>
          rw [ho] at hk
          simp only at hk ⊢
          cases hg : o.guard with
          | none => rw [hg] at hk; exact aopx_mono (fun _ _ => hC _ _) hk
          | some jw =>
            obtain ⟨j, want⟩ := jw
            rw [hg] at hk
            simp only at hk ⊢
            cases hd : (ops[j]?).bind (·.dst) with
            | none => rw [hd] at hk; exact hk
            | some d =>
              rw [hd] at hk
              simp only at hk ⊢
              split at hk
              · rename_i b _
                cases b <;> cases want <;> simp only [cond_true, cond_false] at hk ⊢ <;> first | exact hC _ _ hk | exact aopx_mono (fun _ _ => hC _ _) hk
              · exact hC _ _ hk
              · exact hk.elim
      exact mono (fun E h => aopsI_of hK hKK is E h) hk
    exact stepOK_mono (fun _ _ hc _ => hc) (astep_ok (aopsI_closed hK is) h1)
theorem move_front {P : Program} {ops : List Oper} {xs : List Nat} {K : Env → V → Prop} (hK : ClosedE K) {i : Nat} {post : List Nat} : ∀ (pre : List Nat) (E : Env) (h : V), (∀ x ∈ pre, swapOk ops xs x i = true) → Inf h →
    aopsI P ops xs (pre ++ i :: post) E h K → aopsI P ops xs (i :: (pre ++ post)) E h K
  | [], _, _, _, _, hk => hk
  | x :: pre, E, h, hs, hi, hk => by
    have h1 : stepOK P ops xs x E h fun E' h' => Inf h' → stepOK P ops xs i E' h' fun E'' h'' => Inf h'' → aopsI P ops xs (pre ++ post) E'' h'' K :=
      stepOK_mono (fun E' h' hc hi' => move_front hK pre E' h' (fun y hy => hs y (by simp [hy])) hi' (hc hi')) hk
    exact swap_sound (hs x (by simp)) (fun _ _ _ he hc hi' => aopsI_closed hK (pre ++ post) _ _ _ he (hc hi')) hi h1

theorem run_step {P : Program} {nt : Nat} {w0 : World} {F : Act → Prop} {ops : Array Oper} {Q : Exit → Act → World → Prop} {xs : List Nat} {i : Nat} (hF : Stable (ops.toList.filterMap (·.dst)) F) (hnt : ∀ d ∈ ops.toList.filterMap (·.dst), d < nt)
    {E : Env} {h : V} {a : Act} {w : World} {C : Env → V → Prop} {next : Act → World → Prop} (hn : ∀ E' h' a' w', Agr nt a' E' → Sees w' h' → Kept w0 w' → F a' → C E' h' → next a' w')
    (hk : stepOK P ops.toList xs i E h C) (g : Agr nt a E) (s : Sees w h) (k : Kept w0 w) (f : F a) : wpOp P ops Q i next a w := by
  obtain ⟨o, ho, hk⟩ := hk
  have ho' : ops[i]? = some o := by simpa using ho
  have hmem : o ∈ ops.toList := by
    have := Array.mem_of_getElem? ho'
    simpa using this
  have hin : ∀ t, o.dst = some t → t ∈ ops.toList.filterMap (·.dst) := fun t ht => List.mem_filterMap.2 ⟨o, hmem, ht⟩
  have hdn : ∀ t, o.dst = some t → t < nt := fun t ht => hnt t (hin t ht)
  unfold wpOp
  rw [ho']
  simp only
  have hw : ∀ b, wantedE ops.toList E o = some b → Region.wanted o (yielded ops a.tmps) = b := by
    intro b hb
    unfold wantedE at hb
    unfold Region.wanted
    cases hg : o.guard with
    | none => rw [hg] at hb; cases hb; rfl
    | some jw =>
      obtain ⟨j, want⟩ := jw
      rw [hg] at hb
      simp only at hb ⊢
      have hj : ops.toList[j]? = ops[j]? := by simp
      rw [hj] at hb
      cases hd : (ops[j]?).bind (·.dst) with
      | none => rw [hd] at hb; cases hb
      | some d =>
        rw [hd] at hb
        simp only at hb
        split at hb
        · rename_i c hv
          rw [yielded_bool g hd hv]
          cases hb
          cases c <;> cases want <;> rfl
        · rename_i vs hv
          rw [yielded_tuple g hd hv]
          cases hb
          rfl
        · cases hb
  rcases hk with ⟨hb, hk⟩ | ⟨hb, hk⟩
  · rw [hw _ hb]
    refine .inl (aop_sound (fun v w' h' s' k' hK => ?_) g s hk)
    exact hn _ _ _ _ (g.put o.dst hdn v) s' (k.trans k') (hF.put f hin v) (bif_K hK)
  · rw [hw _ hb]
    exact hn _ _ _ _ (g.put o.dst hdn _) s k (hF.put f hin _) hk

theorem mem_srcs {o : Oper} {k : Nat} : k ∈ srcs o ↔ ∃ e ∈ o.after, Region.binds .any e = true ∧ e.on = k := by
  unfold srcs
  simp only [List.mem_filterMap, Array.mem_toList_iff]
  constructor
  · rintro ⟨e, he, hk⟩
    refine ⟨e, he, ?_⟩
    unfold Region.binds
    cases hg : e.ground <;> rw [hg] at hk <;> simp only [Option.some.injEq, reduceCtorEq] at hk <;> exact ⟨rfl, hk⟩
  · rintro ⟨e, he, hb, hk⟩
    refine ⟨e, he, ?_⟩
    unfold Region.binds at hb
    cases hg : e.ground <;> rw [hg] at hb <;> simp only at hb ⊢ <;> first | (simp [hk]; done) | (cases hb)
def dep (ops : List Oper) (x i : Nat) : Prop := ∃ o, ops[i]? = some o ∧ ∃ k ∈ srcs o, reachO ops ops.length x k = true
structure RemInv (ops : Array Oper) (xs rem : List Nat) (listed : Array Bool) : Prop where
  size : listed.size = ops.size
  nodup : rem.Nodup
  mem : ∀ i, i ∈ rem ↔ i < ops.size ∧ listed.getD i true = false
  srcs : ∀ i o, ops[i]? = some o → ∀ k ∈ VL.srcs o, k < ops.size ∧ k ≠ i
  topo : rem.Pairwise fun x i => ∀ o, ops[x]? = some o → i ∉ VL.srcs o
  pair : rem.Pairwise fun x i => swapOk ops.toList xs x i = true ∨ dep ops.toList x i
  down : ∀ i o, ops[i]? = some o → listed.getD i true = true → ∀ k ∈ VL.srcs o, listed.getD k true = true
theorem getD_eq {listed : Array Bool} {i : Nat} (h : i < listed.size) (d d' : Bool) : listed.getD i d = listed.getD i d' := by simp [Array.getD, h]
theorem RemInv.reach {ops : Array Oper} {xs rem : List Nat} {listed : Array Bool} (v : RemInv ops xs rem listed) {x : Nat} : ∀ (n j : Nat), reachO ops.toList n x j = true → listed.getD j true = true → j < ops.size → listed.getD x true = true
  | 0, _, h, _, _ => by cases h
  | n + 1, j, h, hj, hlt => by
    unfold reachO at h
    simp only [Bool.or_eq_true] at h
    rcases h with h | h
    · have := Nat.eq_of_beq_eq_true h; subst this; exact hj
    · have hj' : ops.toList[j]? = ops[j]? := by simp
      rw [hj'] at h
      cases ho : ops[j]? with
      | none => rw [ho] at h; cases h
      | some o =>
        rw [ho] at h
        simp only [List.any_eq_true] at h
        obtain ⟨k, hk, hr⟩ := h
        exact v.reach n k hr (v.down j o ho hj k hk) (v.srcs j o ho k hk).1
theorem RemInv.step {ops : Array Oper} {xs pre post : List Nat} {i : Nat} {listed : Array Bool} (v : RemInv ops xs (pre ++ i :: post) listed) (hr : i ∈ Region.ready .any ops listed) : RemInv ops xs (pre ++ post) (listed.setIfInBounds i true) := by
  have hsub : (pre ++ post).Sublist (pre ++ i :: post) := List.Sublist.append (List.Sublist.refl _) (List.sublist_cons_self _ _)
  have hi : i < ops.size := ((v.mem i).1 (by simp)).1
  have hnd := v.nodup
  have hnotin : i ∉ pre ++ post := by
    have : (i :: (pre ++ post)).Nodup := (List.perm_middle.nodup_iff).1 hnd
    exact (List.nodup_cons.1 this).1
  refine ⟨by simp [v.size], hnd.sublist hsub, fun j => ?_, v.srcs, v.topo.sublist hsub, v.pair.sublist hsub, fun j o ho hj k hk => ?_⟩
  · by_cases hji : j = i
    · subst hji
      constructor
      · intro h; exact absurd h hnotin
      · rintro ⟨h1, h2⟩
        have : j < listed.size := by rw [v.size]; exact hi
        simp [Array.getD, this] at h2
    · rw [getD_set_ne true (fun e => hji e.symm), ← v.mem j]
      simp [hji]
  · by_cases hji : j = i
    · subst hji
      obtain ⟨_, o', ho', hall⟩ := (mem_ready (md := .any)).1 hr
      rw [ho] at ho'
      cases ho'
      obtain ⟨e, he, hb, rfl⟩ := mem_srcs.1 hk
      have hs := v.srcs j o ho _ hk
      rw [getD_set_ne true (fun h => hs.2 h.symm), getD_eq (by rw [v.size]; exact hs.1) true false]
      exact hall e he hb
    · rw [getD_set_ne true (fun e => hji e.symm)] at hj
      have hkk := v.down j o ho hj k hk
      by_cases hki : k = i
      · subst hki
        have := ((v.mem k).1 (by simp)).2
        rw [hkk] at this
        cases this
      · rw [getD_set_ne true (fun e => hki e.symm)]
        exact hkk
theorem wpAny_of {P : Program} {nt : Nat} {w0 : World} {F : Act → Prop} {ops : Array Oper} {Q : Exit → Env → V → Prop} {xs : List Nat} {K : Env → V → Prop} (hK : ClosedE K) (hKQ : ∀ E h, K E h → ∃ E', EqE E' E ∧ Q .normal E' h)
    (hF : Stable (ops.toList.filterMap (·.dst)) F) (hnt : ∀ d ∈ ops.toList.filterMap (·.dst), d < nt) :
    ∀ (fuel : Nat) (listed : Array Bool) (rem : List Nat) (E : Env) (h : V) (a : Act) (w : World), rem.length = fuel → RemInv ops xs rem listed → aopsI P ops.toList xs rem E h K →
      Agr nt a E → Sees w h → Kept w0 w → F a → wpAny P .any ops (LQ nt w0 F Q) fuel listed a w
  | 0, listed, rem, E, h, a, w, hl, v, hk, g, s, k, f => by
    have : rem = [] := List.eq_nil_of_length_eq_zero hl
    subst this
    refine ⟨?_, k, f, ?_⟩
    · cases hr : Region.ready .any ops listed with
      | nil => rfl
      | cons j l =>
        exfalso
        have hj : j ∈ Region.ready .any ops listed := by rw [hr]; simp
        obtain ⟨h0, o, ho, _⟩ := mem_ready.1 hj
        have := (v.mem j).2 ⟨(Array.getElem?_eq_some_iff.1 ho).1, h0⟩
        simp at this
    · obtain ⟨E', he, hq⟩ := hKQ _ _ hk
      exact ⟨E', h, ⟨g.size, g.defers, fun t u hu => g.get t u (by rw [← he t]; exact hu)⟩, s, hq⟩
  | fuel + 1, listed, rem, E, h, a, w, hl, v, hk, g, s, k, f => by
    refine ⟨fun h0 => ?_, fun i hi => ?_⟩
    · exfalso
      cases rem with
      | nil => simp at hl
      | cons x tl =>
        obtain ⟨hx1, hx2⟩ := (v.mem x).1 (by simp)
        have ho : ops[x]? = some ops[x] := Array.getElem?_eq_getElem hx1
        have : x ∈ Region.ready .any ops listed := by
          refine mem_ready.2 ⟨hx2, _, ho, fun e he hb => ?_⟩
          have hin : e.on ∈ srcs ops[x] := mem_srcs.2 ⟨e, he, hb, rfl⟩
          obtain ⟨hs1, hs2⟩ := v.srcs x _ ho _ hin
          cases hc : listed.getD e.on false with
          | true => rfl
          | false =>
            exfalso
            rw [getD_eq (by rw [v.size]; exact hs1) false true] at hc
            have hm := (v.mem e.on).2 ⟨hs1, hc⟩
            rcases List.mem_cons.1 hm with h | h
            · exact hs2 h
            · exact (List.pairwise_cons.1 v.topo).1 _ h _ ho hin
        rw [h0] at this
        simp at this
    · obtain ⟨hi0, o, ho, hall⟩ := mem_ready.1 hi
      have hmem : i ∈ rem := (v.mem i).2 ⟨(Array.getElem?_eq_some_iff.1 ho).1, hi0⟩
      obtain ⟨pre, post, rfl⟩ := List.append_of_mem hmem
      have hsw : ∀ x ∈ pre, swapOk ops.toList xs x i = true := by
        intro x hx
        have hp := List.pairwise_append.1 v.pair
        rcases hp.2.2 x hx i (by simp) with h | h
        · exact h
        · exfalso
          obtain ⟨o', ho', kk, hkk, hr⟩ := h
          have : ops.toList[i]? = ops[i]? := by simp
          rw [this, ho] at ho'
          cases ho'
          obtain ⟨e, he, hb, rfl⟩ := mem_srcs.1 hkk
          have hs := v.srcs i o ho _ hkk
          have hl1 : listed.getD e.on true = true := by
            rw [getD_eq (by rw [v.size]; exact hs.1) true false]; exact hall e he hb
          have := v.reach _ _ hr hl1 hs.1
          have hx' := ((v.mem x).1 (by simp [hx])).2
          rw [this] at hx'
          cases hx'
      have hk' := move_front hK pre E h hsw s.inf hk
      refine run_step hF hnt (fun E' h' a' w' g' s' k' f' hc => ?_) hk' g s k f
      exact wpAny_of hK hKQ hF hnt fuel _ _ E' h' a' w' (by simp at hl ⊢; omega) (v.step hi) (hc s'.inf) g' s' k' f'
theorem allPre_spec {f : List Nat → Nat → Bool} : ∀ {l pre : List Nat}, allPre f pre l = true → ∀ p i q, l = p ++ i :: q → f (pre ++ p) i = true
  | [], _, _, p, i, q, e => by simp at e
  | j :: l, pre, h, p, i, q, e => by
    simp only [allPre, Bool.and_eq_true] at h
    cases p with
    | nil => cases e; simpa using h.1
    | cons y p =>
      cases e
      have := allPre_spec h.2 p i q rfl
      simpa using this
theorem nodupN_spec : ∀ {l : List Nat}, nodupN l = true → l.Nodup
  | [], _ => by simp
  | i :: l, h => by
    simp only [nodupN, Bool.and_eq_true, Bool.not_eq_true'] at h
    refine List.nodup_cons.2 ⟨fun hin => ?_, nodupN_spec h.2⟩
    have := memN_iff.2 hin
    rw [h.1] at this
    cases this
theorem pairwise_of_split {R : Nat → Nat → Prop} : ∀ (l : List Nat), (∀ p i q, l = p ++ i :: q → ∀ x ∈ p, R x i) → l.Pairwise R
  | [], _ => List.Pairwise.nil
  | x :: l, h => by
    refine List.pairwise_cons.2 ⟨fun i hi => ?_, pairwise_of_split l fun p i q e y hy => h (x :: p) i q (by rw [e]; rfl) y (by simp [hy])⟩
    obtain ⟨p, q, rfl⟩ := List.append_of_mem hi
    exact h (x :: p) i q rfl x (by simp)
theorem okPerm_inv {ops : Array Oper} {l xs : List Nat} (h : okPerm ops.toList l xs = true) : l.length = ops.size ∧ RemInv ops xs l (Array.replicate ops.size false) := by
  simp only [okPerm, Bool.and_eq_true] at h
  obtain ⟨⟨⟨⟨h1, h2⟩, h3⟩, h4⟩, h5⟩ := h
  have hlen : l.length = ops.size := by simpa using Nat.eq_of_beq_eq_true h1
  have hnd := nodupN_spec h2
  have hlt : ∀ i ∈ l, i < ops.size := fun i hi => by
    have := List.all_eq_true.1 h3 i hi
    have : (Nat.ble (i + 1) ops.toList.length) = true := this
    have h2 := Nat.le_of_ble_eq_true this
    simp only [Array.length_toList] at h2
    omega
  have hall : ∀ i, i < ops.size → i ∈ l := fun i hi => by
    have := List.all_eq_true.1 h4 i (by simpa using hi)
    exact memN_iff.1 this
  have spec : ∀ p i q, l = p ++ i :: q → ∃ o, ops[i]? = some o ∧ (∀ k ∈ srcs o, k ∈ p) ∧ ∀ x ∈ p, swapOk ops.toList xs x i = true ∨ dep ops.toList x i := by
    intro p i q e
    have := allPre_spec h5 p i q e
    simp only [List.nil_append] at this
    have hi' : ops.toList[i]? = ops[i]? := by simp
    rw [hi'] at this
    cases ho : ops[i]? with
    | none => rw [ho] at this; cases this
    | some o =>
      rw [ho] at this
      simp only [Bool.and_eq_true, List.all_eq_true, Bool.or_eq_true, List.any_eq_true] at this
      refine ⟨o, rfl, fun k hk => memN_iff.1 (this.1 k hk), fun x hx => ?_⟩
      rcases this.2 x hx with h | h
      · exact .inl h
      · exact .inr ⟨o, by rw [hi', ho], h⟩
  refine ⟨hlen, by simp, hnd, fun i => ⟨fun hi => ⟨hlt i hi, by simp [Array.getD, hlt i hi]⟩, fun hi => hall i hi.1⟩, fun i o ho k hk => ?_, ?_, ?_, fun i o ho hi k hk => ?_⟩
  · have hi := hall i (Array.getElem?_eq_some_iff.1 ho).1
    obtain ⟨p, q, e⟩ := List.append_of_mem hi
    obtain ⟨o', ho', hs, _⟩ := spec p i q e
    rw [ho] at ho'
    cases ho'
    have hkp := hs k hk
    refine ⟨hlt k (by rw [e]; simp [hkp]), fun hki => ?_⟩
    subst hki
    rw [e] at hnd
    exact (List.nodup_append.1 hnd).2.2 k hkp k (by simp) rfl
  · refine pairwise_of_split l fun p i q e x hx o ho hin => ?_
    obtain ⟨p1, p2, e1⟩ := List.append_of_mem hx
    obtain ⟨o', ho', hs, _⟩ := spec p1 x (p2 ++ i :: q) (by rw [e, e1]; simp)
    rw [ho] at ho'
    cases ho'
    have hip := hs i hin
    rw [e, e1] at hnd
    have := (List.nodup_append.1 hnd).2.2 i (by simp [hip]) i (by simp)
    exact this rfl
  · exact pairwise_of_split l fun p i q e x hx => (spec p i q e).choose_spec.2.2 x hx
  · have : i < ops.size := (Array.getElem?_eq_some_iff.1 ho).1
    simp [Array.getD, this] at hi
theorem region_draw_sound {P : Program} (hm : P.follows .mixedOrders = true) {nt : Nat} {w0 : World} {F : Act → Prop} {id : Nat} {ops : Array Oper} {Q : Exit → Env → V → Prop} {l xs : List Nat} (hok : okPerm ops.toList l xs = true)
    (hF : Stable (ops.toList.filterMap (·.dst)) F) (hnt : ∀ d ∈ ops.toList.filterMap (·.dst), d < nt) {E : Env} {h : V} {a : Act} {w : World}
    (hk : aops P ops.toList xs l E h (Q .normal)) (g : Agr nt a E) (s : Sees w h) (k : Kept w0 w) (f : F a) : (Code.region id ops true).wp P (LQ nt w0 F Q) a w := by
  obtain ⟨hlen, hv⟩ := okPerm_inv hok
  refine wp_region_any hm ?_
  have hK : ClosedE fun E h => ∃ E', EqE E' E ∧ Q .normal E' h := fun E E' h he ⟨E1, h1, h2⟩ => ⟨E1, h1.trans he, h2⟩
  exact wpAny_of hK (fun _ _ h => h) hF hnt _ _ l E h a _ hlen hv (aopsI_of hK (fun E h hq => ⟨E, EqE.refl E, hq⟩) l E h hk) g s.drew (k.trans ⟨rfl, rfl, rfl⟩) f
end Go.VL
