/- What a view says of an operation is what the operation does. -/
import Derived.Test.YtaefmhephoilmaaVawp
import Derived.Laws.AppendOwn
import Derived.MapKept
namespace Go.VL
open Go

/- frames and environments -/
structure Agr (nt : Nat) (a : Act) (E : Env) : Prop where
  size : a.tmps.size = nt
  defers : a.defers = []
  get : ∀ t v, eget E t = some v → t < nt ∧ a.tmps.getD t undef = v

theorem Agr.ev {nt : Nat} {a : Act} {E : Env} (h : Agr nt a E) {x : Operand} {v : Value} (hv : ev E x = some v) : a.eval x = v := by
  cases x with
  | tmp t => exact (h.get t v hv).2
  | const c => simpa [VL.ev, Act.eval] using hv
  | global g => simpa [VL.ev, Act.eval] using hv
  | func f => simpa [VL.ev, Act.eval] using hv

theorem eget_cons (t : Nat) (v : Value) (E : Env) (s : Nat) : eget ((t, v) :: E) s = if t = s then some v else eget E s := by
  by_cases h : t = s
  · subst h; simp [eget]
  · have : Nat.beq t s = false := by
      cases hb : Nat.beq t s with
      | false => rfl
      | true => exact absurd (Nat.eq_of_beq_eq_true hb) h
    simp [eget, this, h]

theorem Agr.put {nt : Nat} {a : Act} {E : Env} (h : Agr nt a E) (d : Option Tmp) (hd : ∀ t, d = some t → t < nt) (v : Value) : Agr nt (a.put d v) (eput E d v) := by
  cases d with
  | none => exact h
  | some d =>
    have hdn := hd d rfl
    refine ⟨by simp [Act.put, h.size], h.defers, fun t u hu => ?_⟩
    simp only [eput, eget_cons] at hu
    by_cases ht : d = t
    · subst ht
      rw [if_pos rfl] at hu
      cases hu
      refine ⟨hdn, ?_⟩
      simp [Act.put, Array.getD, h.size, hdn]
    · rw [if_neg ht] at hu
      obtain ⟨h1, h2⟩ := h.get t u hu
      refine ⟨h1, ?_⟩
      rw [← h2]
      simp [Act.put, ht]

/- a slot whose value is known may be told anew -/
theorem Agr.same {nt : Nat} {a : Act} {E : Env} (h : Agr nt a E) {d : Nat} {v : Value} (hd : eget E d = some v) : Agr nt a ((d, v) :: E) := by
  refine ⟨h.size, h.defers, fun t u hu => ?_⟩
  rw [eget_cons] at hu
  by_cases ht : d = t
  · subst ht; rw [if_pos rfl] at hu; cases hu; exact h.get _ _ hd
  · rw [if_neg ht] at hu; exact h.get _ _ hu

theorem Agr.evs {nt : Nat} {a : Act} {E : Env} (h : Agr nt a E) : ∀ {xs : List Operand} {vs : List Value}, evs E xs = some vs → xs.map a.eval = vs
  | [], vs, hv => by simp [VL.evs] at hv; simp [hv]
  | x :: xs, vs, hv => by
    simp only [VL.evs] at hv
    cases h1 : VL.ev E x with
    | none => rw [h1] at hv; simp at hv
    | some v =>
      cases h2 : VL.evs E xs with
      | none => rw [h1, h2] at hv; simp at hv
      | some us =>
        rw [h1, h2] at hv
        simp only [Option.some.injEq] at hv
        rw [← hv, List.map_cons, h.ev h1, h.evs h2]

theorem Agr.evp {nt : Nat} {a : Act} {E : Env} (h : Agr nt a E) : ∀ {xs : List (Nat × Operand)} {vs : List (Nat × Value)}, evp E xs = some vs → xs.map (fun (i, x) => (i, a.eval x)) = vs
  | [], vs, hv => by simp [VL.evp] at hv; simp [hv]
  | (i, x) :: xs, vs, hv => by
    simp only [VL.evp] at hv
    cases h1 : VL.ev E x with
    | none => rw [h1] at hv; simp at hv
    | some v =>
      cases h2 : VL.evp E xs with
      | none => rw [h1, h2] at hv; simp at hv
      | some us =>
        rw [h1, h2] at hv
        simp only [Option.some.injEq] at hv
        rw [← hv, List.map_cons, h.evp h2]
        simp [h.ev h1]

/- views and worlds -/
theorem Kept.refl (w : World) : Kept w w := ⟨rfl, rfl, rfl⟩
theorem Kept.trans {a b c : World} (h : Kept a b) (k : Kept b c) : Kept a c := ⟨k.os.trans h.os, k.tape.trans h.tape, k.output.trans h.output⟩
theorem Le.refl (h : V) : Le h h := fun _ _ x => x
theorem Le.trans {a b c : V} (h : Le a b) (k : Le b c) : Le a c := fun b o x => k b o (h b o x)
theorem Sees.le {w : World} {h h' : V} (s : Sees w h') (l : Le h h') : Sees w h := fun b o x => s b o (l b o x)
theorem Sees.lt {w : World} {h : V} (s : Sees w h) {b : Nat} {o : Obj} (hb : h b = some o) : b < w.heap.size := by
  have := s b o hb
  exact (Array.getElem?_eq_some_iff.1 this).1
theorem Sees.cell {w : World} {h : V} (s : Sees w h) {a : Addr} {v : Value} (hc : cellq h a = some v) : w.cell? a = some v := by
  unfold cellq at hc
  unfold World.cell?
  split at hc
  · rename_i c e f hb
    rw [s _ _ hb]
    exact hc
  · cases hc
theorem Sees.new {w : World} {h : V} (s : Sees w h) (o : Obj) : h w.heap.size = none ∧ Sees { w with heap := w.heap.push o } (h.upd w.heap.size o) := by
  have h0 : h w.heap.size = none := by
    cases hx : h w.heap.size with
    | none => rfl
    | some o => exact absurd (s.lt hx) (by omega)
  refine ⟨h0, fun b o' hb => ?_⟩
  unfold V.upd at hb
  by_cases e : b = w.heap.size
  · subst e
    rw [if_pos rfl] at hb
    cases hb
    simp
  · rw [if_neg e] at hb
    have := s.lt hb
    simp only [Array.getElem?_push]
    rw [if_neg (by omega)]
    exact s b o' hb
theorem Sees.drew {w : World} {h : V} (s : Sees w h) : Sees { w with drawn := w.drawn + 1 } h := s
theorem Sees.upd {w : World} {h : V} (s : Sees w h) {r : Nat} {o : Obj} (hr : h r = some o) (o' : Obj) : Sees { w with heap := w.heap.setIfInBounds r o' } (h.upd r o') := by
  intro b x hb
  unfold V.upd at hb
  have hlt := s.lt hr
  by_cases e : b = r
  · subst e
    rw [if_pos rfl] at hb
    cases hb
    simp [hlt]
  · rw [if_neg e] at hb
    have e' : r ≠ b := fun h => e h.symm
    simp only [Array.getElem?_setIfInBounds, e', if_false]
    exact s b x hb
theorem Sees.setc {w : World} {h : V} (s : Sees w h) {a : Addr} (hs : canSet h a) (v : Value) : Sees (w.setCell a v) (setc h a v) := by
  obtain ⟨c, e, lo, hi, hb, hspot, hoff, hfr⟩ := hs
  intro b x hx
  unfold VL.setc at hx
  have hlt := s.lt hb
  by_cases eb : b = a.block
  · subst eb
    rw [if_pos rfl, hb] at hx
    cases hx
    simp [World.setCell, Array.getElem?_modify, s _ _ hb, hspot]
  · rw [if_neg eb] at hx
    have e' : a.block ≠ b := fun h => eb h.symm
    simp only [World.setCell, Array.getElem?_modify, e', if_false]
    exact s b x hx
theorem Sees.can {w : World} {h : V} (s : Sees w h) {a : Addr} (hs : canSet h a) : (∃ v, w.cell? a = some v) ∧ w.frozen? a = false := by
  obtain ⟨c, e, lo, hi, hb, hspot, hoff, hfr⟩ := hs
  have := s _ _ hb
  refine ⟨⟨c[a.off], ?_⟩, ?_⟩
  · simp [World.cell?, this, hspot, hoff]
  · simp only [World.frozen?, this]
    simp only [Bool.and_eq_false_iff, decide_eq_false_iff_not]
    omega
theorem kept_setCell (w : World) (a : Addr) (v : Value) : Kept w (w.setCell a v) := ⟨rfl, rfl, rfl⟩

theorem oneCell_eq (v : Value) : oneCell v = v.oneCell' := by cases v <;> rfl
theorem run_store_view {P : Program} {w : World} {h : V} (s : Sees w h) {a : Addr} (hs : canSet h a) {v : Value} (hv : oneCell v = true) :
    (store a v).run P w = .ok () (w.setCell a v) := by
  obtain ⟨⟨u, hu⟩, hf⟩ := s.can hs
  rw [run_store P w a v .plain (by rw [← oneCell_eq]; exact hv), hu]
  simp [hf]
theorem run_storeCells_view {P : Program} {a : Addr} {K : V → Prop} : ∀ (vs : List Value) (i : Nat) (w : World) (h : V), Sees w h → vs.all oneCell = true → StL h a i vs K →
    ∃ w' h', (storeCells a vs i).run P w = .ok () w' ∧ Sees w' h' ∧ Kept w w' ∧ K h'
  | [], i, w, h, s, _, hk => ⟨w, h, by simp [storeCells], s, Kept.refl w, hk⟩
  | v :: vs, i, w, h, s, h1, hk => by
    simp only [List.all_cons, Bool.and_eq_true] at h1
    obtain ⟨hc, hk⟩ := hk
    obtain ⟨w', h', hr, s', k', hK⟩ := run_storeCells_view vs (i + 1) _ _ (s.setc hc v) h1.2 hk
    refine ⟨w', h', ?_, s', (kept_setCell _ _ _).trans k', hK⟩
    unfold storeCells
    simp only [Sem.run_bind, run_store_view s hc h1.1, Result.andThen_ok]
    exact hr
theorem cellsAt_get {h : V} {a : Addr} : ∀ {vs : List Value} {i : Nat}, cellsAt h a i vs → ∀ j v, vs[j]? = some v → cellq h (a.add (i + j)) = some v
  | [], _, _, _, _, hj => by simp at hj
  | u :: vs, i, hc, 0, v, hj => by simp at hj; subst hj; exact hc.1
  | u :: vs, i, hc, j + 1, v, hj => by
    have := cellsAt_get (vs := vs) (i := i + 1) hc.2 j v (by simpa using hj)
    rw [show i + (j + 1) = i + 1 + j by omega]
    exact this
theorem run_loadCells_view {P : Program} {w : World} {h : V} (s : Sees w h) {a : Addr} {vs : List Value} (hc : cellsAt h a 0 vs) :
    (loadCells a vs.length).run P w = .ok vs.toArray w := by
  have := run_loadCells_list (P := P) w a vs (fun j v hj => s.cell (by have := cellsAt_get hc j v hj; simpa using this))
  exact this

/- types -/
theorem run_typeInfo {P : Program} {t : TypeId} {i : TypeInfo} (h : P.info? t = some i) (w : World) : (typeInfo t).run P w = .ok i w := by simp [typeInfo, h]
theorem run_sizeOf {P : Program} {t : TypeId} {i : TypeInfo} (h : P.info? t = some i) (w : World) : (sizeOf t).run P w = .ok i.size w := by simp [sizeOf, typeInfo, h]
theorem run_zeroT {P : Program} {t : TypeId} {z : Value} (h : zeroT P t = some z) (w : World) : (zeroValue t).run P w = .ok z w := by
  unfold zeroT at h
  cases hi : P.info? t with
  | none => rw [hi] at h; simp at h
  | some i => rw [hi] at h; simp only [Option.bind_some] at h; simp [zeroValue, typeInfo, hi, h]
theorem info_of_under {P : Program} {t : TypeId} {d : TypeDesc} (h : P.underlying t = some d) : ∃ i, P.info? t = some i := by
  unfold Program.underlying at h
  cases hi : P.info? t with
  | none => rw [hi] at h; simp at h
  | some i => exact ⟨i, rfl⟩
theorem run_isAgg {P : Program} {t : TypeId} {d : TypeDesc} (h : P.underlying t = some d) (w : World) : (isAgg t).run P w = .ok (isAggT P t) w := by
  simp only [isAgg, Sem.run_bind, run_underlying h, Result.andThen_ok, isAggT, h]
  cases d <;> rfl
theorem cellsN_of {P : Program} {t : TypeId} {i : TypeInfo} (h : P.info? t = some i) : cellsN P t = i.size := by simp [cellsN, h]
theorem bytesN_of {P : Program} {t : TypeId} {i : TypeInfo} (h : P.info? t = some i) : bytesN P t = i.bytes := by simp [bytesN, h]

end Go.VL
