/- Plain: what is secret is so whatever is cut; with all cut nothing is transient. -/
import Derived.Test.YtaefmhephoilmaaPd
namespace Go.Proofs.Ytaefmhephoilmaa
open Go Go.VL

theorem staysD_idem (x : Int) : staysD (staysD x) = staysD x := by unfold staysD; split <;> simp_all
theorem staysD_one {x : Int} (h : x ≤ 1) : staysD x ≤ 0 := by unfold staysD; split <;> omega
theorem L0_cases (p : ProgD) (t : Tgt) : L0 p t = 0 ∨ (L0 p t = 2 ∧ ∃ i, t = .arr i) := by
  cases t with
  | val f v => exact .inl rfl
  | ret f => exact .inl rfl
  | arr i =>
    unfold L0
    simp only
    split
    · split
      · exact .inr ⟨rfl, i, rfl⟩
      · exact .inl rfl
    · exact .inl rfl
def secM (D : LabF) : LabF := fun t => match t with
  | .val f v => if D (.val f v) = 2 then 2 else 1
  | .arr i => if D (.arr i) = 2 then 2 else 0
  | .ret f => if D (.ret f) = 2 then 2 else 0
theorem same_two {p : ProgD} {wr : List Bool} {a d : CutF} {A D : LabF} (hA : LeastL p a wr A) (hD : LeastL p d wr D) : ∀ t, A t = 2 → D t = 2 := by
  have hM2 : ∀ t, secM D t ≤ 2 := by intro t; cases t <;> (unfold secM; simp only; split <;> omega)
  have hM1 : ∀ t, D t < 2 → secM D t ≤ 1 := by
    intro t ht
    cases t <;> (unfold secM; simp only; rw [if_neg (by omega)]; omega)
  have hup : LeL (L0 p) (secM D) := by
    intro t
    rcases L0_cases p t with e | ⟨e, i, rfl⟩
    · rw [e]; cases t <;> (unfold secM; simp only; split <;> omega)
    · have := hD.ge (.arr i)
      have h2 := hD.le2 (.arr i)
      unfold secM; simp only
      rw [if_pos (by omega), e]
      exact Int.le_refl _
  have hcl : Closed (progCons p a wr) (secM D) := by
    intro c hc
    rw [progCons_raw] at hc
    obtain ⟨r, hr, rfl⟩ := List.mem_map.1 hc
    have ok := progRaw_ok r hr
    have hd := hD.closed (mkC d r) (by rw [progCons_raw]; exact List.mem_map.2 ⟨r, hr, rfl⟩)
    have b1 := ok.bd _ hM2
    have t2 := ok.two (secM D) D hM1
    obtain ⟨t, s⟩ := r
    simp only at b1 t2
    have hs : s D ≤ 2 := ok.bd D hD.le2
    cases t with
    | val g v =>
      have hd : cutS d g v (s D) ≤ D (.val g v) := hd
      show cutS a g v (s (secM D)) ≤ if D (.val g v) = 2 then 2 else 1
      have hle : cutS a g v (s (secM D)) ≤ s (secM D) := by unfold cutS; split; exact staysD_le _; exact Int.le_refl _
      by_cases h : s D < 2
      · have := t2 h
        split <;> omega
      · have e : s D = 2 := by omega
        rw [e] at hd
        have : cutS d g v 2 = 2 := by unfold cutS; split <;> rfl
        have h2 := hD.le2 (.val g v)
        rw [if_pos (by omega)]
        omega
    | arr i =>
      have hd : staysD (s D) ≤ D (.arr i) := hd
      show staysD (s (secM D)) ≤ if D (.arr i) = 2 then 2 else 0
      by_cases h : s D < 2
      · have := staysD_one (t2 h)
        split <;> omega
      · have e : s D = 2 := by omega
        rw [e] at hd
        have : staysD 2 = 2 := rfl
        have h2 := hD.le2 (.arr i)
        rw [if_pos (by omega)]
        exact staysD_bd b1
    | ret i =>
      have hd : staysD (s D) ≤ D (.ret i) := hd
      show staysD (s (secM D)) ≤ if D (.ret i) = 2 then 2 else 0
      by_cases h : s D < 2
      · have := staysD_one (t2 h)
        split <;> omega
      · have e : s D = 2 := by omega
        rw [e] at hd
        have : staysD 2 = 2 := rfl
        have h2 := hD.le2 (.ret i)
        rw [if_pos (by omega)]
        exact staysD_bd b1
  intro t ht
  have h1 := hA.least _ hup hcl t
  have h2 := hD.le2 t
  apply Classical.byContradiction
  intro hn
  have := hM1 t (by omega)
  omega
theorem no_one {p : ProgD} {wr : List Bool} {d : CutF} {D : LabF} (hD : LeastL p d wr D) (hall : ∀ r ∈ progRaw p wr, ∀ g v, r.tgt = .val g v → d g v = true) : ∀ t, D t ≠ 1 := by
  have hle : LeL (fun t => staysD (D t)) D := fun t => staysD_le _
  have hup : LeL (L0 p) (fun t => staysD (D t)) := by
    intro t
    rcases L0_cases p t with e | ⟨e, i, rfl⟩
    · have := hD.ge t
      rw [e] at this ⊢
      exact staysD_mono (a := 0) this
    · have := hD.ge (.arr i)
      rw [e] at this ⊢
      exact staysD_mono (a := 2) this
  have hcl : Closed (progCons p d wr) (fun t => staysD (D t)) := by
    intro c hc
    rw [progCons_raw] at hc
    obtain ⟨r, hr, rfl⟩ := List.mem_map.1 hc
    have ok := progRaw_ok r hr
    have ha := hall r hr
    have hd := hD.closed (mkC d r) (by rw [progCons_raw]; exact List.mem_map.2 ⟨r, hr, rfl⟩)
    have hm := ok.mono _ _ hle
    obtain ⟨t, s⟩ := r
    simp only at hm ha
    have key : staysD (s D) ≤ D t → staysD (s fun t => staysD (D t)) ≤ staysD (D t) := fun h => by
      have h1 := staysD_mono h
      rw [staysD_idem] at h1
      exact Int.le_trans (staysD_mono hm) h1
    cases t with
    | val g v =>
      have hc := ha g v rfl
      have hd : cutS d g v (s D) ≤ D (.val g v) := hd
      show cutS d g v (s fun t => staysD (D t)) ≤ staysD (D (.val g v))
      unfold cutS at hd ⊢
      rw [if_pos hc] at hd ⊢
      exact key hd
    | arr i => exact key hd
    | ret i => exact key hd
  intro t ht
  have h1 : D t ≤ staysD (D t) := hD.least _ hup hcl t
  rw [ht] at h1
  have : staysD 1 = 0 := rfl
  omega
end Go.Proofs.Ytaefmhephoilmaa
