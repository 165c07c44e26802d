/- What a view says of code is what the code does; the contract of a function. -/
import Derived.Test.YtaefmhephoilmaaVsndd
namespace Go.VL
open Go

theorem wp_loop_n {P : Program} {Q : Exit → Act → World → Prop} {c : Code} (I : Nat → Act → World → Prop)
    (round : ∀ n a w, I n a w → c.wp P (Exit.then (fun a' w' => ∃ m, m < n ∧ I m a' w') Q) a w) {a : Act} {w : World} {n : Nat} (h₀ : I n a w) : (Code.loop c).wp P Q a w := by
  intro b k cs
  have key : ∀ n a w, I n a w → ∃ e a' w', Q e a' w' ∧ Arrives P (lone (b.at a (.code c :: .inLoop c :: k)) cs w) b k cs e a' w' := by
    intro n
    induction n using Nat.strongRecOn with
    | _ n ih =>
      intro a w hI
      obtain ⟨e, a₁, w₁, hq, harr⟩ := round n a w hI b (.inLoop c :: k) cs
      cases e with
      | normal =>
        obtain ⟨m, hlt, hI₁⟩ := hq
        obtain ⟨e₂, a₂, w₂, hq₂, harr₂⟩ := ih m hlt a₁ w₁ hI₁
        exact ⟨e₂, a₂, w₂, hq₂, .of_steps (Steps.trans harr (.one step_inLoop)) harr₂⟩
      | exit id => exact ⟨_, a₁, w₁, hq, .pass (x := .inLoop c) rfl (fun _ _ => .inl (by simp)) harr⟩
      | goto l => exact ⟨_, a₁, w₁, hq, .pass (x := .inLoop c) rfl (fun _ _ => .inl (by simp)) harr⟩
      | ret => exact ⟨_, a₁, w₁, hq, .pass (x := .inLoop c) rfl (fun _ _ => .inl (by simp)) harr⟩
      | panic ch => exact ⟨_, a₁, w₁, hq, .pass (x := .inLoop c) rfl (fun _ _ => .inl (by simp)) harr⟩
      | outgrown => exact ⟨_, a₁, w₁, hq, .pass (x := .inLoop c) rfl (fun _ _ => .inl (by simp)) harr⟩
  obtain ⟨e, a', w', hq, harr⟩ := key n a w h₀
  exact ⟨e, a', w', hq, .of_steps (.one step_loop) harr⟩

/- a frame that writes to some slots leave be -/
def Stable (ws : List Nat) (F : Act → Prop) : Prop := ∀ a d v, d ∈ ws → F a → F (a.put (some d) v)
theorem Stable.put {ws : List Nat} {F : Act → Prop} (h : Stable ws F) {a : Act} (ha : F a) {d : Option Tmp} (hd : ∀ t, d = some t → t ∈ ws) (v : Value) : F (a.put d v) := by
  cases d with
  | none => exact ha
  | some d => exact h a d v (hd d rfl) ha
theorem Stable.sub {ws vs : List Nat} {F : Act → Prop} (h : Stable ws F) (hs : ∀ t, t ∈ vs → t ∈ ws) : Stable vs F := fun a d v hd ha => h a d v (hs d hd) ha

def LQ (nt : Nat) (w0 : World) (F : Act → Prop) (Q : Exit → Env → V → Prop) : Exit → Act → World → Prop :=
  fun e a w => Kept w0 w ∧ F a ∧ ∃ E h, Agr nt a E ∧ Sees w h ∧ Q e E h

theorem yielded_bool {nt : Nat} {a : Act} {E : Env} (g : Agr nt a E) {ops : Array Oper} {j d : Nat} {b : Bool} (hd : (ops[j]?).bind (·.dst) = some d) (hv : eget E d = some (.bool b)) : yielded ops a.tmps j = some b := by
  obtain ⟨h1, h2⟩ := g.get d _ hv
  unfold yielded
  rw [hd]
  have : a.tmps[d]? = some (.bool b) := by
    have hlt : d < a.tmps.size := by rw [g.size]; exact h1
    rw [Array.getElem?_eq_getElem hlt]
    simpa [Array.getD, hlt] using h2
  simp [this]
theorem yielded_tuple {nt : Nat} {a : Act} {E : Env} (g : Agr nt a E) {ops : Array Oper} {j d : Nat} {vs : Array Value} (hd : (ops[j]?).bind (·.dst) = some d) (hv : eget E d = some (.tuple vs)) : yielded ops a.tmps j = none := by
  obtain ⟨h1, h2⟩ := g.get d _ hv
  unfold yielded
  rw [hd]
  have : a.tmps[d]? = some (.tuple vs) := by
    have hlt : d < a.tmps.size := by rw [g.size]; exact h1
    rw [Array.getElem?_eq_getElem hlt]
    simpa [Array.getD, hlt] using h2
  simp [this]

/- the operations of a region, one behind the other -/
theorem aops_sound {P : Program} {nt : Nat} {w0 : World} {F : Act → Prop} {ops : Array Oper} {Q : Exit → Env → V → Prop} (hF : Stable (ops.toList.filterMap (·.dst)) F) (hnt : ∀ d ∈ ops.toList.filterMap (·.dst), d < nt) :
    ∀ (l : List Nat) (E : Env) (h : V) (a : Act) (w : World), aops P ops.toList [] l E h (Q .normal) → Agr nt a E → Sees w h → Kept w0 w → F a → wpOps P ops (LQ nt w0 F Q) l a w
  | [], E, h, a, w, hk, g, s, k, f => ⟨k, f, E, h, g, s, hk⟩
  | i :: is, E, h, a, w, hk, g, s, k, f => by
    unfold aops astep at hk
    unfold wpOps
    have hget : ops.toList[i]? = ops[i]? := by simp
    rw [hget] at hk
    cases ho : ops[i]? with
    | none => rw [ho] at hk; exact hk.elim
    | some o =>
      rw [ho] at hk
      have hmem : o ∈ ops.toList := by
        have := Array.mem_of_getElem? ho
        simpa using this
      have hin : ∀ t, o.dst = some t → t ∈ ops.toList.filterMap (·.dst) := fun t ht => List.mem_filterMap.2 ⟨o, hmem, ht⟩
      have hdn : ∀ t, o.dst = some t → t < nt := fun t ht => hnt t (hin t ht)
      have go : ∀ E', Agr nt a E' → (aop P E' h o fun v h' => aops P ops.toList [] is (eput E' o.dst v) h' (Q .normal)) → o.wp P a w (wpOps P ops (LQ nt w0 F Q) is) (LQ nt w0 F Q) := by
        intro E' g' hk'
        exact aop_sound (fun v w' h' s' k' hK => aops_sound hF hnt is _ _ _ _ hK (g'.put o.dst hdn v) s' (k.trans k') (hF.put f hin v)) g' s hk'
      have skip : ∀ E', Agr nt a E' → aops P ops.toList [] is (eput E' o.dst undef) h (Q .normal) → wpOps P ops (LQ nt w0 F Q) is (a.put o.dst undef) w := by
        intro E' g' hk'
        exact aops_sound hF hnt is _ _ _ _ hk' (g'.put o.dst hdn _) s k (hF.put f hin _)
      simp only at hk ⊢
      cases hg : o.guard with
      | none =>
        rw [hg] at hk
        simp only [Region.wanted, hg, if_true]
        exact .inl (go E g hk)
      | some jw =>
        obtain ⟨j, want⟩ := jw
        rw [hg] at hk
        simp only at hk
        have hj : ops.toList[j]? = ops[j]? := by simp
        rw [hj] at hk
        cases hd : (ops[j]?).bind (·.dst) with
        | none => rw [hd] at hk; exact hk.elim
        | some d =>
          rw [hd] at hk
          simp only at hk
          split at hk
          · rename_i b hv
            have hy := yielded_bool g hd hv
            have hw : Region.wanted o (yielded ops a.tmps) = (b == want) := by
              simp only [Region.wanted, hg, hy]
              cases b <;> cases want <;> rfl
            rw [hw]
            cases b with
            | true =>
              simp only [cond_true] at hk
              cases want with
              | true => exact .inl (go _ (g.same hv) hk)
              | false => exact skip _ (g.same hv) hk
            | false =>
              simp only [cond_false] at hk
              cases want with
              | true => exact skip _ (g.same hv) hk
              | false => exact .inl (go _ (g.same hv) hk)
          · rename_i vs hv
            have hy := yielded_tuple g hd hv
            have hw : Region.wanted o (yielded ops a.tmps) = false := by
              simp only [Region.wanted, hg, hy]
              cases want <;> rfl
            rw [hw]
            exact skip E g hk
          · exact hk.elim

theorem memN_iff {n : Nat} : ∀ {l : List Nat}, memN n l = true ↔ n ∈ l
  | [] => by simp [memN]
  | m :: l => by
    unfold memN
    cases hb : Nat.beq m n with
    | true => have := Nat.eq_of_beq_eq_true hb; simp [this]
    | false =>
      have : m ≠ n := fun e => by subst e; simp [Nat.beq_eq_true_eq] at hb
      simp only [cond_false, memN_iff, List.mem_cons]
      constructor
      · exact fun h => .inr h
      · rintro (h | h)
        · exact absurd h.symm this
        · exact h
theorem keepE_get {ws : List Nat} {t : Nat} {v : Value} : ∀ {E : Env}, eget (keepE ws E) t = some v → eget E t = some v ∧ t ∉ ws
  | [], h => by simp [keepE, eget] at h
  | (s, u) :: E, h => by
    unfold keepE at h
    cases hm : memN s ws with
    | true =>
      rw [hm] at h
      simp only [cond_true] at h
      obtain ⟨h1, h2⟩ := keepE_get (E := E) h
      refine ⟨?_, h2⟩
      rw [eget_cons]
      have : s ≠ t := fun e => by subst e; exact h2 (memN_iff.1 hm)
      rw [if_neg this]
      exact h1
    | false =>
      rw [hm] at h
      simp only [cond_false] at h
      rw [eget_cons] at h ⊢
      by_cases e : s = t
      · subst e
        rw [if_pos rfl] at h ⊢
        refine ⟨h, fun hin => ?_⟩
        rw [memN_iff.2 hin] at hm
        cases hm
      · rw [if_neg e] at h ⊢
        exact keepE_get (E := E) h
theorem eget_append {t : Nat} {v : Value} : ∀ {E E' : Env}, eget (E ++ E') t = some v → eget E t = some v ∨ eget E' t = some v
  | [], _, h => .inr h
  | (s, u) :: E, E', h => by
    rw [List.cons_append, eget_cons] at h
    rw [eget_cons]
    by_cases e : s = t
    · rw [if_pos e] at h ⊢; exact .inl h
    · rw [if_neg e] at h ⊢; exact eget_append (E := E) h
theorem Agr.append {nt : Nat} {a : Act} {E E' : Env} (g : Agr nt a E) (g' : Agr nt a E') : Agr nt a (E ++ E') :=
  ⟨g.size, g.defers, fun t v hv => (eget_append hv).elim (g.get t v) (g'.get t v)⟩
theorem Agr.keep {nt : Nat} {a : Act} {E : Env} (g : Agr nt a E) (ws : List Nat) : Agr nt a (keepE ws E) := ⟨g.size, g.defers, fun t v hv => g.get t v (keepE_get hv).1⟩
theorem stable_keep (nt : Nat) (ws : List Nat) (E : Env) : Stable ws (fun a => Agr nt a (keepE ws E)) := by
  intro a d v hd g
  refine ⟨by simp [Act.put, g.size], g.defers, fun t u hu => ?_⟩
  obtain ⟨h1, h2⟩ := g.get t u hu
  refine ⟨h1, ?_⟩
  have hne : d ≠ t := fun e => by subst e; exact (keepE_get hu).2 hd
  rw [← h2]
  simp [Act.put, hne]
theorem unK_some {k : Kd} {v : Value} {f : k.T → Prop} (hf : unK k v f) : ∃ x, v = k.mk x ∧ f x := by
  cases k with
  | int k =>
    cases v <;> simp only [unK] at hf
    split at hf
    · rename_i e _; subst e; exact ⟨_, rfl, hf⟩
    · exact hf.elim
  | raw => exact ⟨v, rfl, hf⟩
  | _ => cases v <;> first | exact hf.elim | exact ⟨_, rfl, hf⟩
theorem unKs_some : ∀ {ks : List Kd} {vs : List Value} {f : Tys ks → Prop}, unKs ks vs f → ∃ x, vs = mks ks x ∧ f x
  | [], [], f, hf => ⟨(), rfl, hf⟩
  | [], _ :: _, f, hf => hf.elim
  | _ :: _, [], f, hf => hf.elim
  | k :: ks, v :: vs, f, hf => by
    obtain ⟨x, rfl, hx⟩ := unK_some hf
    obtain ⟨s, rfl, hs⟩ := unKs_some (ks := ks) hx
    exact ⟨(x, s), rfl, hs⟩
theorem unL_some {l : Ly} {v : Value} {f : l.T → Prop} (hf : unL l v f) : ∃ x, v = l.mk x ∧ f x := by
  cases l with
  | one k => exact unK_some hf
  | agg ks =>
    cases v <;> first | exact (show False from hf).elim | skip
    rename_i cs
    obtain ⟨x, hx, hK⟩ := unKs_some (ks := ks) (vs := cs.toList) hf
    exact ⟨x, by show Value.agg cs = Value.agg ⟨mks ks x⟩; rw [← hx], hK⟩
theorem selE_some {nt : Nat} {a : Act} {E : Env} (g : Agr nt a E) : ∀ {cs : List (Nat × Ly)} {f : StT cs → Prop}, selE cs E f → ∃ s, Agr nt a (bindE cs s) ∧ f s
  | [], f, hf => ⟨(), ⟨g.size, g.defers, fun t v hv => by simp [bindE, eget] at hv⟩, hf⟩
  | (t, l) :: cs, f, hf => by
    unfold selE at hf
    split at hf
    · rename_i v hv
      obtain ⟨x, rfl, hx⟩ := unL_some hf
      obtain ⟨s, gs, hs⟩ := selE_some g (cs := cs) hx
      refine ⟨(x, s), ⟨g.size, g.defers, fun u y hy => ?_⟩, hs⟩
      rw [bindE, eget_cons] at hy
      by_cases e : t = u
      · subst e
        rw [if_pos rfl] at hy
        cases hy
        exact g.get _ _ hv
      · rw [if_neg e] at hy
        exact gs.get _ _ hy
    · exact hf.elim

end Go.VL
