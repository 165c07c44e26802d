/- From a row's reading of memory to views. -/
import Derived.Test.YtaefmhephoilmaaVssa
import Derived.Test.YtaefmhephoilmaaVmap
import Derived.Deep.Slices
import Derived.OpenShut
import Derived.ChangeSame
import Derived.Below
namespace Go.VL
open Go Go.RowKit Go.WideShapes Go.ChangeShapes

def V.of (w : World) : V := fun b => w.heap[b]?
theorem sees_of (w : World) : Sees w (V.of w) := fun _ _ h => h
theorem cellq_of (w : World) (a : Addr) : cellq (V.of w) a = w.cell? a := rfl
/- what a call that began with the whole memory leaves as it was -/
theorem below_of {w w' : World} {h' : V} (k : Kept w w') (s : Sees w' h') (l : Le (V.of w) h') : Below w.heap.size w w' := by
  have hb : ∀ k, k < w.heap.size → w'.heap[k]? = w.heap[k]? := fun k hk => by
    have e : w.heap[k]? = some w.heap[k] := Array.getElem?_eq_getElem hk
    rw [e]
    exact s _ _ (l _ _ e)
  refine ⟨k.os, k.tape, k.output, ?_, hb⟩
  rcases Nat.eq_zero_or_pos w.heap.size with h0 | h0
  · omega
  · have := hb (w.heap.size - 1) (by omega)
    rw [Array.getElem?_eq_getElem (by omega : w.heap.size - 1 < w.heap.size)] at this
    have := (Array.getElem?_eq_some_iff.1 this).1
    omega
theorem list_choose {α : Type} {Q : Nat → α → Prop} : ∀ n : Nat, (∀ i, i < n → ∃ x, Q i x) → ∃ xs : List α, xs.length = n ∧ ∀ i (h : i < xs.length), Q i xs[i]
  | 0, _ => ⟨[], rfl, fun i h => by simp at h⟩
  | n + 1, hq => by
    obtain ⟨xs, h1, h2⟩ := list_choose n fun i hi => hq i (by omega)
    obtain ⟨x, hx⟩ := hq n (by omega)
    refine ⟨xs ++ [x], by simp [h1], fun i hi => ?_⟩
    by_cases g : i < xs.length
    · rw [List.getElem_append_left g]; exact h2 i g
    · have e : i = n := by simp at hi; omega
      subst e
      rw [List.getElem_append_right (by omega)]
      simpa [h1] using hx

section
variable {H : Type} {enc : TypeId × Value → H} {P : Program} {w : World} {base : Nat} {spare : Nat → Bool} {held : Bool}
def Rd (enc : TypeId × Value → H) (P : Program) (w : World) (base : Nat) (spare : Nat → Bool) (held : Bool) (t : TypeId) (cs : List Value) : Prop := ∃ fuel x, DataW.trod enc P w base spare held fuel t cs = some x
theorem rd_slice {α : Type} {rep : V → Addr → α → Prop} {t e : TypeId} {sz : Nat} {cs : List Value} (ht : P.underlying t = some (.slice e)) (hsz : P.cellsOf e = sz)
    (hel : ∀ a cs', (∀ j, j < sz → w.cell? (a.add j) = cs'[j]?) → cs'.length = sz → Rd enc P w base spare held e cs' → ∃ x, rep (V.of w) a x) (h : Rd enc P w base spare held t cs) :
    ∃ (s : Sl) (xs : List α), cs = [.slice s.a s.n s.c] ∧ isSl rep sz (V.of w) s xs := by
  obtain ⟨fuel, x, h⟩ := h
  rcases Deep.open_slice ht h with ⟨rfl, _⟩ | ⟨a, len, cap, m, n, D, Pl, rfl, hb, hl, hm, hmm, hx, hi⟩
  · exact ⟨⟨none, 0, 0⟩, [], rfl, isSl_nil _ _ _⟩
  · have hlm : len ≤ m := by rw [hmm]; split <;> omega
    obtain ⟨xs, h1, h2⟩ := list_choose (Q := fun i x => rep (V.of w) (a.add (i * sz)) x) len fun i hil => by
      obtain ⟨cs', hc, htr⟩ := hi i (by omega)
      rw [hsz] at hc
      obtain ⟨_, hlen, hat⟩ := World.cells?_some hc
      exact hel _ cs' hat hlen ⟨n, _, htr⟩
    have : maxLen = 9223372036854775807 := by decide
    exact ⟨⟨some a, len, cap⟩, xs, rfl, h1.symm, hl, by show len ≤ _; omega, fun k hk => ⟨a, rfl, h2 k hk⟩⟩
theorem rd_int {t : TypeId} {k : IntKind} {cs : List Value} (ht : P.underlying t = some (.int k)) (h : Rd enc P w base spare held t cs) : ∃ n, cs = [.int k n] ∧ (Lit.int k n).wf = true := by
  obtain ⟨fuel, x, h⟩ := h
  cases fuel with
  | zero => simp [DataW.trod] at h
  | succ n =>
    unfold DataW.trod at h
    rw [ht] at h
    split at h <;> simp_all
theorem rd_string {t : TypeId} {cs : List Value} (ht : P.underlying t = some .string) (h : Rd enc P w base spare held t cs) : ∃ s, cs = [.string s] := by
  obtain ⟨fuel, x, h⟩ := h
  cases fuel with
  | zero => simp [DataW.trod] at h
  | succ n =>
    unfold DataW.trod at h
    rw [ht] at h
    split at h <;> simp_all
theorem rd_field {t : TypeId} {fs : Array Field} {cs : List Value} (ht : P.underlying t = some (.struct fs)) (h : Rd enc P w base spare held t cs) :
    cs.length = P.cellsOf t ∧ ∀ (j : Nat) f, fs[j]? = some f → Rd enc P w base spare held f.type ((cs.drop f.offset).take (P.cellsOf f.type)) := by
  obtain ⟨fuel, x, h⟩ := h
  obtain ⟨xs, n, _, _, h1, h2, h3⟩ := DataW.trod_struct ht h
  refine ⟨h1, fun j f hf => ?_⟩
  have hj : j < xs.length := by rw [h2]; exact (Array.getElem?_eq_some_iff.1 hf).1
  exact ⟨n, xs[j], by rw [h3 j f hf, List.getElem?_eq_getElem hj]⟩
theorem rd_at {a : Addr} {cs : List Value} {sz : Nat} (h : ∀ j, j < sz → w.cell? (a.add j) = cs[j]?) (hl : cs.length = sz) : cellsAt (V.of w) a 0 cs :=
  cellsAt_of fun j v hv => by rw [Nat.zero_add, cellq_of, h j (by have := (List.getElem?_eq_some_iff.1 hv).1; omega), hv]
end
end Go.VL
