/- Maps to true as sets. -/
import Derived.Test.YtaefmhephoilmaaViter
namespace Go.VL
open Go

def SetRep (o : Obj) (s : Int → Bool) : Prop := ∃ m : List (Int × Bool), MapRep .bool o m ∧ ∀ k, mget m k = if s k then some true else none
theorem SetRep.empty : SetRep (.map #[] 0) fun _ => false := ⟨[], MapRep.empty .bool, fun k => by simp [mget_nil]⟩
theorem SetRep.cong {o : Obj} {s s' : Int → Bool} (h : SetRep o s) (e : ∀ k, s k = s' k) : SetRep o s' := by
  have : s = s' := funext e
  exact this ▸ h
theorem SetRep.look {h : V} {r : Nat} {o : Obj} {s : Int → Bool} {k : Int} {K : Bool → Bool → Prop} (ho : h r = some o) (hs : SetRep o s) (hk : K (s k) (s k)) : Look h (some r) (.int .i64) (.int .i64 k) (.one .bool) false K := by
  obtain ⟨m, hm, hg⟩ := hs
  refine Look_map (kd := .bool) ho hm ?_
  rw [hg k]
  cases hsk : s k with
  | true => rw [hsk] at hk; exact hk
  | false => rw [hsk] at hk; exact hk
theorem SetRep.add {h : V} {r : Nat} {o : Obj} {s : Int → Bool} {k : Int} {K : V → Prop} (ho : h r = some o) (hs : SetRep o s) (hk : ∀ o', SetRep o' (fun j => s j || j == k) → K (h.upd r o')) : MUpd h (some r) (.int .i64) (.int .i64 k) (.bool true) K := by
  obtain ⟨m, hm, hg⟩ := hs
  refine MUpd_map (kd := .bool) (v := true) ho hm fun o' ho' => hk o' ⟨_, ho', fun j => ?_⟩
  rw [mget_mset]
  by_cases e : k = j
  · subst e; simp
  · have : (j == k) = false := by simpa using fun x : j = k => e x.symm
    rw [if_neg e, hg j]
    simp only [this, Bool.or_false]
theorem SetRep.mem {o : Obj} {s : Int → Bool} {m : List (Int × Bool)} (hm : MapRep .bool o m) (hg : ∀ k, mget m k = if s k then some true else none) {k : Int} : k ∈ mkeys m ↔ s k = true := by
  rw [← mget_isSome, hg k]
  cases s k <;> simp
theorem filter_lt {α : Type} {l : List (Int × α)} {p : Int × α} (hp : p ∈ l) : (l.filter fun q => decide (q.1 ≠ p.1)).length < l.length := by
  have h1 := List.length_filter_le (fun q => decide (q.1 ≠ p.1)) l
  rcases Nat.lt_or_ge (l.filter fun q => decide (q.1 ≠ p.1)).length l.length with h | h
  · exact h
  · exfalso
    have := List.length_filter_eq_length_iff.1 (Nat.le_antisymm h1 h) p hp
    simp at this
theorem keys_filter {α : Type} {l : List (Int × α)} {j k : Int} : k ∈ mkeys (l.filter fun q => decide (q.1 ≠ j)) ↔ k ∈ mkeys l ∧ k ≠ j := by
  simp only [mkeys, List.mem_map, List.mem_filter, decide_eq_true_eq]
  constructor
  · rintro ⟨p, ⟨h1, h2⟩, rfl⟩; exact ⟨⟨p, h1, rfl⟩, h2⟩
  · rintro ⟨⟨p, h1, rfl⟩, h2⟩; exact ⟨p, ⟨h1, h2⟩, rfl⟩
/- a loop through a map -/
theorem Lp_iter {kd : Kd} {σ : Type} {B : (σ → V → Prop) → σ → Value → Value → V → Prop} {X : (σ → V → Prop) → σ → V → Prop} {it r : Nat} {m0 : List (Int × kd.T)} (I : List (Int × kd.T) → List (Int × kd.T) → σ → V → Prop) {s : σ} {h : V}
    (h0 : IterAt kd h it r m0 m0) (i0 : I m0 m0 s h)
    (hstep : ∀ m left s h h' p K, IterAt kd h it r m left → I m left s h → p ∈ left → (∀ b, b ≠ it → h' b = h b) → IterAt kd h' it r m (left.filter fun q => decide (q.1 ≠ p.1)) →
      (∀ m' s' h', IterAt kd h' it r m' (left.filter fun q => decide (q.1 ≠ p.1)) → I m' (left.filter fun q => decide (q.1 ≠ p.1)) s' h' → K s' h') → B K s (.int .i64 p.1) (kd.mk p.2) h')
    (hend : ∀ m s h K, IterAt kd h it r m [] → I m [] s h → X K s h) :
    Lp (fun K s h => Nxt h it (fun _ _ h' => Ent h' it fun k v => B K s k v h') (X K s h)) s h := by
  refine Lp_inv (fun n s h => ∃ m left, n = left.length ∧ IterAt kd h it r m left ∧ I m left s h) ⟨m0, m0, rfl, h0, i0⟩ ?_
  rintro n s h K ⟨m, left, rfl, hI, hi⟩ hK
  refine NxtEnt hI (fun p hp h' hf hI' => ?_) (fun e => ?_)
  · exact hstep m left s h h' p K hI hi hp hf hI' fun m' s' h'' hI'' hi'' => hK _ s' h'' (filter_lt hp) ⟨m', _, rfl, hI'', hi''⟩
  · subst e
    exact hend m s h K hI hi
end Go.VL
