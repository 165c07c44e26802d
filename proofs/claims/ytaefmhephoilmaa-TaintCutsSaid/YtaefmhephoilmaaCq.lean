/- Contracts of package taint: the parts of Of. -/
import Derived.Test.YtaefmhephoilmaaCp
namespace Go.Proofs.Ytaefmhephoilmaa
open Go Go.VL

theorem own_ne {hA hB hh : V} {s s' : Sl} {T T' : TypeId} {xs xs' : List Value} (o : OwnS hA hh s T 1 xs) (o' : OwnS hB hh s' T' 1 xs') (hT : T ≠ T') {a a' : Addr} (ha : s.a = some a) (ha' : s'.a = some a') : a.block ≠ a'.block := by
  obtain ⟨_, arr, h1⟩ := o.blk ha
  obtain ⟨_, arr', h2⟩ := o'.blk ha'
  intro e
  rw [e, h2] at h1
  cases h1; exact hT rfl
theorem own_box {hA hh : V} {s : Sl} {T T' : TypeId} {xs vs : List Value} {r : Nat} (o : OwnS hA hh s T 1 xs) (b : Box hh r vs T') (hT : T ≠ T') {a : Addr} (ha : s.a = some a) : a.block ≠ r := by
  obtain ⟨_, arr, h1⟩ := o.blk ha
  intro e
  unfold Box at b
  rw [e, b] at h1
  cases h1; exact hT rfl
theorem Box_st {hh : V} {r i : Nat} {vs : List Value} {T : TypeId} {v : Value} {K : V → Prop} (b : Box hh r vs T) (hi : i < vs.length) (hK : ∀ h', Box h' r (vs.set i v) T → (∀ q, q ≠ r → h' q = hh q) → K h') : StL hh (Addr.add ⟨r, 0, none⟩ i) 0 [v] K := by
  rw [add_at, Nat.zero_add]
  refine StL_at [v] _ 0 hh (by simp; omega) b (fun _ _ => rfl) fun h' ⟨arr', h1, h2, h3⟩ hf => hK h' ?_ hf
  unfold Box
  rw [h1]
  congr 1
  congr 1
  apply Array.ext'
  rw [h3]
  simp only [Nat.add_zero, List.length_cons, List.length_nil, Nat.zero_add]
  rw [List.set_eq_take_append_cons_drop, if_pos hi]
  simp
def L0 (p : ProgD) : LabF := fun t => match t with
  | .arr i => match p.arrays[i]? with
    | some a => if a.hold = 2 then 2 else 0
    | none => 0
  | _ => 0
structure LeastL (p : ProgD) (cut : CutF) (wr : List Bool) (L : LabF) : Prop where
  ge : LeL (L0 p) L
  le2 : ∀ t, L t ≤ 2
  closed : Closed (progCons p cut wr) L
  least : ∀ M, LeL (L0 p) M → Closed (progCons p cut wr) M → LeL L M

theorem imax_mono {a b c d : Int} (h : a ≤ c) (h' : b ≤ d) : imax a b ≤ imax c d := by unfold imax; split <;> split <;> omega
theorem imax_bd {a b c : Int} (h : a ≤ c) (h' : b ≤ c) : imax a b ≤ c := by unfold imax; split <;> omega
theorem valsOf_mono {f : Nat} {args : List Int} {L M : LabF} (h : LeL L M) : valsOf f args L ≤ valsOf f args M := by
  unfold valsOf
  suffices ∀ (a b : Int), a ≤ b → args.foldl (fun a v => imax a (L (.val f v))) a ≤ args.foldl (fun a v => imax a (M (.val f v))) b from this 0 0 (Int.le_refl _)
  induction args with
  | nil => exact fun a b h => h
  | cons v args ih =>
    intro a b hab
    exact ih _ _ (imax_mono hab (h _))
theorem valsOf_bd {f : Nat} {args : List Int} {L : LabF} (h : ∀ t, L t ≤ 2) : valsOf f args L ≤ 2 := by
  unfold valsOf
  suffices ∀ a : Int, a ≤ 2 → args.foldl (fun a v => imax a (L (.val f v))) a ≤ 2 from this 0 (by omega)
  induction args with
  | nil => exact fun a h => h
  | cons v args ih =>
    intro a ha
    exact ih _ (imax_bd ha (h _))
theorem staysD_bd {a : Int} (h : a ≤ 2) : staysD a ≤ 2 := by unfold staysD; split <;> omega
theorem cutS_mono {cut : CutF} {f : Nat} {v a b : Int} (h : a ≤ b) : cutS cut f v a ≤ cutS cut f v b := by unfold cutS; split; exact staysD_mono h; exact h
theorem cutS_bd {cut : CutF} {f : Nat} {v a : Int} (h : a ≤ 2) : cutS cut f v a ≤ 2 := by unfold cutS; split; exact staysD_bd h; exact h
theorem mayD_bd {wr : List Bool} {i : InsD} : mayD wr i ≤ 2 := by unfold mayD; repeat (split; · omega); omega

def Con.ok (c : Con) : Prop := c.mono ∧ c.bd
theorem parCons_ok {cut : CutF} {g : Nat} {ps : List Int} {src : Nat → LabF → Int} (hm : ∀ j L M, LeL L M → src j L ≤ src j M) (hb : ∀ j L, (∀ t, L t ≤ 2) → src j L ≤ 2) (k : Nat) : ∀ c ∈ parCons cut g ps src k, c.ok := by
  intro c hc
  obtain ⟨j, _, rfl⟩ := List.mem_map.1 hc
  exact ⟨fun L M h => cutS_mono (hm j L M h), fun L h => cutS_bd (hb j L h)⟩
theorem insCons_ok {p : ProgD} {cut : CutF} {wr : List Bool} {f : Nat} {i : InsD} : ∀ c ∈ insCons p cut wr f i, c.ok := by
  intro c hc
  unfold insCons at hc
  split at hc
  · rw [List.mem_singleton.1 hc]
    exact ⟨fun L M h => Int.le_refl _, fun L h => cutS_bd (by omega)⟩
  split at hc
  · rw [List.mem_singleton.1 hc]
    exact ⟨fun L M h => cutS_mono (valsOf_mono h), fun L h => cutS_bd (valsOf_bd h)⟩
  split at hc
  · rw [List.mem_singleton.1 hc]
    exact ⟨fun L M h => cutS_mono (imax_mono (imax_mono (h _) (valsOf_mono h)) (Int.le_refl _)), fun L h => cutS_bd (imax_bd (imax_bd (h _) (valsOf_bd h)) mayD_bd)⟩
  split at hc
  · rw [List.mem_singleton.1 hc]
    exact ⟨fun L M h => staysD_mono (valsOf_mono h), fun L h => staysD_bd (valsOf_bd h)⟩
  split at hc
  · rw [List.mem_singleton.1 hc]
    exact ⟨fun L M h => staysD_mono (h _), fun L h => staysD_bd (h _)⟩
  split at hc
  · rcases List.mem_append.1 hc with g | g
    · exact parCons_ok (src := fun j L => staysD (L (.val f (i.args.getD j 0)))) (fun j L M h => staysD_mono (h _)) (fun j L h => staysD_bd (h _)) _ c g
    · rw [List.mem_singleton.1 g]
      exact ⟨fun L M h => cutS_mono (h _), fun L h => cutS_bd (h _)⟩
  · cases hc
theorem blockCons_ok {p : ProgD} {cut : CutF} {wr : List Bool} {f : Nat} {b : BlockD} : ∀ c ∈ blockCons p cut wr f b, c.ok := by
  intro c hc
  unfold blockCons at hc
  rcases List.mem_append.1 hc with g | g
  · rcases List.mem_append.1 g with g | g
    · obtain ⟨i, _, g⟩ := List.mem_flatMap.1 g
      exact insCons_ok c g
    · obtain ⟨w, _, g⟩ := List.mem_flatMap.1 g
      unfold wayCons at g
      split at g
      · exact parCons_ok (src := fun j L => L (.val f (w.args.getD j 0))) (fun j L M h => h _) (fun j L h => h _) _ c g
      · cases g
  · unfold endCons at g
    split at g
    · rw [List.mem_singleton.1 g]
      exact ⟨fun L M h => staysD_mono (h _), fun L h => staysD_bd (h _)⟩
    · cases g
theorem progCons_ok {p : ProgD} {cut : CutF} {wr : List Bool} : ∀ c ∈ progCons p cut wr, c.ok := by
  intro c hc
  obtain ⟨f, _, g⟩ := List.mem_flatMap.1 hc
  obtain ⟨n, _, g⟩ := List.mem_flatMap.1 g
  split at g
  · split at g
    · exact blockCons_ok c g
    · cases g
  · cases g
end Go.Proofs.Ytaefmhephoilmaa
