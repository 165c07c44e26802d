/- Plain: which values constraints speak of: those that are made. -/
import Derived.Test.YtaefmhephoilmaaPe
namespace Go.Proofs.Ytaefmhephoilmaa
open Go Go.VL

def madeIn (f : FuncD) (v : Int) : Prop := ∃ b ∈ f.blocks, v ∈ b.params ∨ ∃ i ∈ b.ins, i.dst = v ∧ v > 0
theorem foldl_imax_ge : ∀ (l : List Int) (b : Int), b ≤ l.foldl imax b
  | [], b => Int.le_refl _
  | v :: l, b => Int.le_trans (by unfold imax; split <;> omega) (foldl_imax_ge l (imax b v))
theorem foldl_imax_mem : ∀ (l : List Int) (b v : Int), v ∈ l → v ≤ l.foldl imax b
  | [], _, _, h => by simp at h
  | x :: l, b, v, h => by
    rcases List.mem_cons.1 h with e | e
    · subst e; exact Int.le_trans (by unfold imax; split <;> omega) (foldl_imax_ge l (imax b v))
    · exact foldl_imax_mem l _ v e
theorem mostB_ge (n : Int) (b : BlockD) : n ≤ mostB n b := Int.le_trans (foldl_imax_ge b.params n) (foldl_imax_ge _ _)
theorem mostB_mem {n : Int} {b : BlockD} {v : Int} (h : v ∈ b.params ∨ ∃ i ∈ b.ins, i.dst = v) : v ≤ mostB n b := by
  rcases h with h | ⟨i, hi, rfl⟩
  · exact Int.le_trans (foldl_imax_mem b.params n v h) (foldl_imax_ge _ _)
  · exact foldl_imax_mem _ _ _ (List.mem_map.2 ⟨i, hi, rfl⟩)
theorem foldl_most_ge : ∀ (l : List BlockD) (n : Int), n ≤ l.foldl mostB n
  | [], n => Int.le_refl _
  | b :: l, n => Int.le_trans (mostB_ge n b) (foldl_most_ge l _)
theorem made_most {f : FuncD} {v : Int} (h : madeIn f v) : v ≤ FuncD.most f := by
  obtain ⟨b, hb, hv⟩ := h
  have hv : v ∈ b.params ∨ ∃ i ∈ b.ins, i.dst = v := by
    rcases hv with h | ⟨i, hi, e, _⟩
    · exact .inl h
    · exact .inr ⟨i, hi, e⟩
  unfold FuncD.most
  suffices ∀ (l : List BlockD) (n : Int), b ∈ l → v ≤ l.foldl mostB n from this _ _ hb
  intro l
  induction l with
  | nil => intro n h; simp at h
  | cons c l ih =>
    intro n h
    rcases List.mem_cons.1 h with e | e
    · subst e; exact Int.le_trans (mostB_mem hv) (foldl_most_ge l _)
    · exact ih _ e
theorem onceL_pos : ∀ {l : List Int} {s : Int → Bool}, (onceL s l).isSome = true → ∀ v ∈ l, v > 0
  | [], _, _, v, h => by simp at h
  | x :: l, s, ho, v, h => by
    unfold onceL at ho
    split at ho
    · cases ho
    · rename_i hn
      rcases List.mem_cons.1 h with e | e
      · subst e; omega
      · exact onceL_pos ho v e
theorem made_pos {p : ProgD} {f : FuncD} (ok : funcOk p f) {v : Int} (h : madeIn f v) : v > 0 := by
  obtain ⟨b, hb, hv⟩ := h
  rcases hv with h | ⟨i, _, _, h⟩
  · have h3 : onceD f.blocks = true := ok.2.2.1
    unfold onceD at h3
    exact onceL_pos h3 v (List.mem_flatMap.2 ⟨b, hb, List.mem_append_left _ h⟩)
  · exact h
theorem right_dst {p : ProgD} {i : InsD} (h : rightD p i = true) (ho : i.op = 1 ∨ i.op = 2 ∨ i.op = 3 ∨ i.op = 5 ∨ i.op = 7) : i.dst > 0 := by
  unfold rightD at h
  split at h
  · cases h
  split at h
  · cases h
  split at h
  · cases h
  rename_i hn
  have e : (shapeD i.op).2 = true := by
    rcases ho with e | e | e | e | e <;> (rw [e]; rfl)
  rw [e] at hn
  apply Classical.byContradiction
  intro x
  exact hn (by simp [x])
theorem parRaw_tgt {g : Nat} {ps : List Int} {src : Nat → LabF → Int} {g' : Nat} {v : Int} : ∀ c ∈ parRaw g ps src ps.length, c.tgt = .val g' v → g' = g ∧ v ∈ ps := by
  intro c hc e
  obtain ⟨j, hj, rfl⟩ := List.mem_map.1 hc
  have hj : j < ps.length := by simpa using hj
  cases e
  exact ⟨rfl, by rw [getD_lt hj]; exact List.getElem_mem hj⟩
theorem raw_made {p : ProgD} {wr : List Bool} (ok : CheckOk p) : ∀ r ∈ progRaw p wr, ∀ g v, r.tgt = .val g v → ∃ hg : g < p.funcs.length, madeIn p.funcs[g] v := by
  intro c hc g v e
  obtain ⟨f, hf, hc⟩ := List.mem_flatMap.1 hc
  have hf : f < p.funcs.length := by simpa using hf
  obtain ⟨n, _, hc⟩ := List.mem_flatMap.1 hc
  rw [FuncD.at_eq hf] at hc
  have hfo := ok.funcs _ (List.getElem_mem hf)
  split at hc
  case isFalse => cases hc
  split at hc
  case h_2 => cases hc
  rename_i b hb
  have hbm : b ∈ p.funcs[f].blocks := List.mem_of_getElem? hb
  have hbo := hfo.2.2.2.1 b hbm
  unfold blockRaw at hc
  rcases List.mem_append.1 hc with hc | hc
  · rcases List.mem_append.1 hc with hc | hc
    · obtain ⟨i, hi, hc⟩ := List.mem_flatMap.1 hc
      have hr := hbo.2 i hi
      have dst : (i.op = 1 ∨ i.op = 2 ∨ i.op = 3 ∨ i.op = 5 ∨ i.op = 7) → madeIn p.funcs[f] i.dst := fun ho => ⟨b, hbm, .inr ⟨i, hi, rfl, right_dst hr ho⟩⟩
      unfold insRaw at hc
      split at hc
      · rw [List.mem_singleton.1 hc] at e; cases e; exact ⟨hf, dst (by omega)⟩
      split at hc
      · rw [List.mem_singleton.1 hc] at e; cases e; exact ⟨hf, dst (by omega)⟩
      split at hc
      · rw [List.mem_singleton.1 hc] at e; cases e; exact ⟨hf, dst (by omega)⟩
      split at hc
      · rw [List.mem_singleton.1 hc] at e; cases e
      split at hc
      · rw [List.mem_singleton.1 hc] at e; cases e
      split at hc
      · rename_i h7
        rcases List.mem_append.1 hc with hc | hc
        · obtain ⟨rfl, hv⟩ := parRaw_tgt c hc e
          obtain ⟨_, hlt, _⟩ := right_call hr h7
          rw [FuncD.at_eq hlt] at hv
          refine ⟨hlt, ?_⟩
          unfold FuncD.params at hv
          split at hv
          · simp at hv
          · rename_i b0 bs hb0
            exact ⟨b0, by rw [hb0]; simp, .inl hv⟩
        · rw [List.mem_singleton.1 hc] at e; cases e; exact ⟨hf, dst (by omega)⟩
      · cases hc
    · obtain ⟨w, hw, hc⟩ := List.mem_flatMap.1 hc
      unfold wayRaw at hc
      rw [FuncD.at_eq hf] at hc
      split at hc
      · rename_i b2 hb2
        obtain ⟨rfl, hv⟩ := parRaw_tgt c hc e
        exact ⟨hf, b2, List.mem_of_getElem? hb2, .inl hv⟩
      · cases hc
  · unfold endRaw at hc
    split at hc
    · rw [List.mem_singleton.1 hc] at e; cases e
    · cases hc
end Go.Proofs.Ytaefmhephoilmaa
