/- Contracts: head, the document's example. -/
import Derived.Test.YtaefmhephoilmaaCt
namespace Go.Proofs.Ytaefmhephoilmaa
open Go Go.VL

theorem Box.from {h : V} {r : Nat} {cs vs : List Value} {T : TypeId} (b : Box h r cs T) (i : Nat) (hv : ∀ (j : Nat) v, vs[j]? = some v → cs[i + j]? = some v) : cellsAt h (Addr.add ⟨r, 0, none⟩ i) 0 vs :=
  cellsAt_of fun j v hj => by rw [Addr.add_add, Nat.zero_add]; exact b.cell (hv j v hj)
def hI1 : InsD := ⟨3, 1, [], 0, 0, 0, 0⟩
def hI2 : InsD := ⟨2, 2, [1, 1], 0, 1, 0, 0⟩
def hBl : BlockD := ⟨[], [hI1, hI2], ⟨3, 2, [], 0⟩⟩
def hP : ProgD := ⟨[⟨⟨#[115]⟩, 2, 0⟩], [⟨⟨#[]⟩, [hBl]⟩], 0⟩
theorem hRch : Rch [hBl] 0 := .zero (by decide)
theorem hKnown : knownOk [hBl] := by
  have h1 : roundF [hBl] 1 ⟨[none], []⟩ = (⟨[some 0], [fun _ => false, afterD (fun _ => false) hBl]⟩, true) := by
    show blockF [hBl] 0 (⟨[none], []⟩, false) = _
    unfold blockF
    rw [if_pos (rchB_iff.2 hRch)]
    rfl
  have h2 : roundF [hBl] 1 ⟨[some 0], [fun _ => false, afterD (fun _ => false) hBl]⟩ = (⟨[some 0], [fun _ => false, afterD (fun _ => false) hBl, afterD (fun _ => false) hBl]⟩, false) := by
    show blockF [hBl] 0 (⟨[some 0], _⟩, false) = _
    unfold blockF
    rw [if_pos (rchB_iff.2 hRch)]
    rfl
  have u : usedD (fun _ => false) hBl = true := by decide
  refine ⟨⟨⟨[some 0], [fun _ => false, afterD (fun _ => false) hBl, afterD (fun _ => false) hBl]⟩, ?_, ?_⟩, [some 0], fun _ _ => false, rfl, fun _ _ _ => rfl, ?_, ?_⟩
  · refine KRun.go (by show (roundF [hBl] 1 ⟨[none], []⟩).2 = true; rw [h1]) ?_
    show KRun _ (roundF [hBl] 1 ⟨[none], []⟩).1 _
    rw [h1]
    have := KRun.stop (bs := [hBl]) (st := ⟨[some 0], [fun _ => false, afterD (fun _ => false) hBl]⟩) (by show (roundF [hBl] 1 _).2 = false; rw [h2])
    have e : (roundF [hBl] [hBl].length ⟨[some 0], [fun _ => false, afterD (fun _ => false) hBl]⟩).1 = ⟨[some 0], [fun _ => false, afterD (fun _ => false) hBl, afterD (fun _ => false) hBl]⟩ := by
      show (roundF [hBl] 1 _).1 = _
      rw [h2]
    rw [e] at this
    exact this
  · intro b h bk hb hbk
    match b, hb, hbk with
    | 0, hb, hbk => cases hb; cases hbk; exact u
  · intro b bk _ hbk
    match b, hbk with
    | 0, hbk => cases hbk; exact ⟨fun _ => ⟨0, rfl⟩, fun r _ w hw => by simp [hBl] at hw⟩
  · intro b r bk hb hbk
    match b, hb, hbk with
    | 0, hb, hbk => cases hbk; exact u
theorem hOk : CheckOk hP := by
  refine ⟨fun a ha => ?_, by decide, by decide, fun f hf => ?_, fun f hf => ?_⟩
  · rw [List.mem_singleton.1 ha]; exact ⟨by decide, by decide, by decide, by decide⟩
  · cases hf; rfl
  · rw [List.mem_singleton.1 hf]
    refine ⟨by simp, by decide, by decide, fun b hb => ?_, hKnown⟩
    rw [List.mem_singleton.1 hb]
    refine ⟨by decide, fun i hi => ?_⟩
    rcases List.mem_cons.1 hi with e | e
    · subst e; decide
    · rw [List.mem_singleton.1 e]; decide
theorem hFew : FewOk hP := by
  refine ⟨by decide, by decide, fun f hf => ?_⟩
  rw [List.mem_singleton.1 hf]
  refine ⟨by decide, by decide, fun b hb => ?_⟩
  rw [List.mem_singleton.1 hb]
  refine ⟨by decide, by decide, by decide, fun i hi => ?_, fun w hw => by simp [hBl] at hw⟩
  rcases List.mem_cons.1 hi with e | e
  · subst e; decide
  · rw [List.mem_singleton.1 e]; decide
theorem hLab {L : LabF} {wr : List Bool} (h : LeastL hP (cutOf []) wr L) : L (.val 0 1) = 2 ∧ L (.val 0 2) = 2 ∧ L (.ret 0) = 2 := by
  have ha : 2 ≤ L (.arr 0) := h.ge (.arr 0)
  have hm : ∀ c ∈ blockCons hP (cutOf []) wr 0 hBl, c ∈ progCons hP (cutOf []) wr := by
    intro c hc
    refine List.mem_flatMap.2 ⟨0, by decide, List.mem_flatMap.2 ⟨0, by decide, ?_⟩⟩
    have e : (FuncD.at hP 0).blocks = [hBl] := rfl
    rw [e, if_pos (rchB_iff.2 hRch)]
    exact hc
  have c1 := h.closed _ (hm ⟨.val 0 1, fun L => cutS (cutOf []) 0 1 (imax (imax (L (.arr 0)) (valsOf 0 [] L)) (mayD wr hI1))⟩ (by simp [blockCons, hBl, insCons, hI1]))
  have c2 := h.closed _ (hm ⟨.val 0 2, fun L => cutS (cutOf []) 0 2 (valsOf 0 [1, 1] L)⟩ (by simp [blockCons, hBl, insCons, hI1, hI2]))
  have c3 := h.closed _ (hm ⟨.ret 0, fun L => staysD (L (.val 0 2))⟩ (by simp [blockCons, hBl, endCons]))
  have k : ∀ v x, cutS (cutOf []) 0 v x = x := fun v x => by unfold cutS; rw [if_neg (by simp [cutOf])]
  simp only [k] at c1 c2
  have b1 := h.le2 (.val 0 1)
  have b2 := h.le2 (.val 0 2)
  have b3 := h.le2 (.ret 0)
  have e1 : L (.val 0 1) = 2 := by
    have : L (.arr 0) ≤ imax (imax (L (.arr 0)) (valsOf 0 [] L)) (mayD wr hI1) := by unfold imax; split <;> split <;> omega
    omega
  have e2 : L (.val 0 2) = 2 := by
    have : 2 ≤ valsOf 0 [1, 1] L := by simp [valsOf, imax, e1]
    omega
  refine ⟨e1, e2, ?_⟩
  simp only [e2] at c3
  have : staysD 2 = 2 := by decide
  omega
end Go.Proofs.Ytaefmhephoilmaa
