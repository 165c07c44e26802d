/- Plain: constraints without their cut; what more cut does. -/
import Derived.Test.YtaefmhephoilmaaCq
namespace Go.Proofs.Ytaefmhephoilmaa
open Go Go.VL

def mkC (cut : CutF) (r : Con) : Con := ⟨r.tgt, fun L => match r.tgt with
  | .val g v => cutS cut g v (r.src L)
  | _ => staysD (r.src L)⟩
def parRaw (g : Nat) (ps : List Int) (src : Nat → LabF → Int) (k : Nat) : List Con := (List.range k).map fun j => ⟨.val g (ps.getD j 0), src j⟩
def insRaw (p : ProgD) (wr : List Bool) (f : Nat) (i : InsD) : List Con :=
  if i.op = 1 then [⟨.val f i.dst, fun _ => 0⟩]
  else if i.op = 2 then [⟨.val f i.dst, fun L => valsOf f i.args L⟩]
  else if i.op = 3 ∨ i.op = 5 then [⟨.val f i.dst, fun L => imax (imax (L (.arr i.arr.toNat)) (valsOf f i.args L)) (mayD wr i)⟩]
  else if i.op = 4 then [⟨.arr i.arr.toNat, fun L => valsOf f i.args L⟩]
  else if i.op = 6 then [⟨.arr i.arr.toNat, fun L => L (.val f (i.args.getD 1 0))⟩]
  else if i.op = 7 then parRaw i.fn.toNat (FuncD.at p i.fn.toNat).params (fun j L => staysD (L (.val f (i.args.getD j 0)))) (FuncD.at p i.fn.toNat).params.length ++ [⟨.val f i.dst, fun L => L (.ret i.fn.toNat)⟩]
  else []
def wayRaw (p : ProgD) (f : Nat) (w : EdgeD) : List Con := match (FuncD.at p f).blocks[w.to.toNat]? with
  | some b => parRaw f b.params (fun j L => L (.val f (w.args.getD j 0))) b.params.length
  | none => []
def endRaw (f : Nat) (e : EndD) : List Con := if e.kind = 3 then [⟨.ret f, fun L => L (.val f e.val)⟩] else []
def blockRaw (p : ProgD) (wr : List Bool) (f : Nat) (b : BlockD) : List Con := b.ins.flatMap (insRaw p wr f) ++ b.e.ways.flatMap (wayRaw p f) ++ endRaw f b.e
noncomputable def funcRaw (p : ProgD) (wr : List Bool) (f : Nat) : List Con :=
  (List.range (FuncD.at p f).blocks.length).flatMap fun n => if rchB (FuncD.at p f).blocks n = true then (match (FuncD.at p f).blocks[n]? with | some b => blockRaw p wr f b | none => []) else []
noncomputable def progRaw (p : ProgD) (wr : List Bool) : List Con := (List.range p.funcs.length).flatMap (funcRaw p wr)
theorem parCons_raw {cut : CutF} {g : Nat} {ps : List Int} {src : Nat → LabF → Int} {k : Nat} : parCons cut g ps src k = (parRaw g ps src k).map (mkC cut) := by
  unfold parCons parRaw
  rw [List.map_map]
  rfl
theorem insCons_raw {p : ProgD} {cut : CutF} {wr : List Bool} {f : Nat} {i : InsD} : insCons p cut wr f i = (insRaw p wr f i).map (mkC cut) := by
  unfold insCons insRaw
  split
  · rfl
  split
  · rfl
  split
  · rfl
  split
  · rfl
  split
  · rfl
  split
  · rw [List.map_append, parCons_raw]; rfl
  · rfl
theorem wayCons_raw {p : ProgD} {cut : CutF} {f : Nat} {w : EdgeD} : wayCons p cut f w = (wayRaw p f w).map (mkC cut) := by
  unfold wayCons wayRaw
  cases (FuncD.at p f).blocks[w.to.toNat]? with
  | some b => exact parCons_raw
  | none => rfl
theorem endCons_raw {cut : CutF} {f : Nat} {e : EndD} : endCons f e = (endRaw f e).map (mkC cut) := by
  unfold endCons endRaw
  split <;> rfl
theorem blockCons_raw {p : ProgD} {cut : CutF} {wr : List Bool} {f : Nat} {b : BlockD} : blockCons p cut wr f b = (blockRaw p wr f b).map (mkC cut) := by
  unfold blockCons blockRaw
  rw [List.map_append, List.map_append, List.map_flatMap, List.map_flatMap, ← endCons_raw]
  congr 2
  · congr 1; funext i; exact insCons_raw
  · congr 1; funext w; exact wayCons_raw
theorem progCons_raw {p : ProgD} {cut : CutF} {wr : List Bool} : progCons p cut wr = (progRaw p wr).map (mkC cut) := by
  unfold progCons progRaw
  rw [List.map_flatMap]
  congr 1
  funext f
  unfold funcCons funcRaw
  rw [List.map_flatMap]
  congr 1
  funext n
  split
  · cases (FuncD.at p f).blocks[n]? with
    | some b => exact blockCons_raw
    | none => rfl
  · rfl
theorem staysD_le (x : Int) : staysD x ≤ x := by unfold staysD; split <;> omega
theorem cutS_le {a b : CutF} (h : ∀ f v, a f v = true → b f v = true) (f : Nat) (v x : Int) : cutS b f v x ≤ cutS a f v x := by
  unfold cutS
  by_cases ha : a f v = true
  · rw [if_pos ha, if_pos (h f v ha)]; exact Int.le_refl _
  · rw [if_neg ha]
    split
    · exact staysD_le x
    · exact Int.le_refl _
theorem mkC_le {a b : CutF} (h : ∀ f v, a f v = true → b f v = true) (r : Con) (L : LabF) : (mkC b r).src L ≤ (mkC a r).src L := by
  obtain ⟨t, s⟩ := r
  cases t with
  | val g v => exact cutS_le h g v _
  | arr i => exact Int.le_refl _
  | ret f => exact Int.le_refl _
/- more cut, less labels -/
theorem more_cut {p : ProgD} {wr : List Bool} {a b : CutF} {A B : LabF} (hA : LeastL p a wr A) (hB : LeastL p b wr B) (h : ∀ f v, a f v = true → b f v = true) : LeL B A := by
  refine hB.least A hA.ge fun c hc => ?_
  rw [progCons_raw] at hc
  obtain ⟨r, hr, rfl⟩ := List.mem_map.1 hc
  have := hA.closed (mkC a r) (by rw [progCons_raw]; exact List.mem_map.2 ⟨r, hr, rfl⟩)
  exact Int.le_trans (mkC_le h r A) this
/- what raw constraints are like -/
structure RawOk (r : Con) : Prop where
  mono : r.mono
  bd : r.bd
  two : ∀ L N : LabF, (∀ t, N t < 2 → L t ≤ 1) → r.src N < 2 → r.src L ≤ 1
theorem valsOf_two {f : Nat} {args : List Int} {L N : LabF} (h : ∀ t, N t < 2 → L t ≤ 1) (hv : valsOf f args N < 2) : valsOf f args L ≤ 1 := by
  unfold valsOf at *
  suffices ∀ (a b : Int), a ≤ 1 → args.foldl (fun a v => imax a (N (.val f v))) b < 2 → args.foldl (fun a v => imax a (L (.val f v))) a ≤ 1 from this 0 0 (by omega) hv
  have grow : ∀ (l : List Int) (b : Int), b ≤ l.foldl (fun a v => imax a (N (.val f v))) b := by
    intro l
    induction l with
    | nil => exact fun b => Int.le_refl _
    | cons v l ih =>
      intro b
      refine Int.le_trans ?_ (ih (imax b (N (.val f v))))
      unfold imax; split <;> omega
  clear hv
  induction args with
  | nil => exact fun a b h _ => h
  | cons v args ih =>
    intro a b ha hb
    have h1 := grow args (imax b (N (.val f v)))
    have h2 : imax b (N (.val f v)) < 2 := Int.lt_of_le_of_lt h1 hb
    have h3 : N (.val f v) < 2 := by unfold imax at h2; split at h2 <;> omega
    exact ih _ _ (imax_bd ha (h _ h3)) hb
theorem staysD_two {a b : Int} (h : b < 2 → a ≤ 1) (hb : staysD b < 2) : staysD a ≤ 1 := by
  have : b < 2 := by unfold staysD at hb; split at hb <;> omega
  exact Int.le_trans (staysD_le a) (h this)
theorem parRaw_ok {g : Nat} {ps : List Int} {src : Nat → LabF → Int} (h : ∀ j, RawOk ⟨.val g 0, src j⟩) (k : Nat) : ∀ c ∈ parRaw g ps src k, RawOk c := by
  intro c hc
  obtain ⟨j, _, rfl⟩ := List.mem_map.1 hc
  exact ⟨(h j).mono, (h j).bd, (h j).two⟩
theorem mayD_one {wr : List Bool} {i : InsD} : mayD wr i ≤ 1 := by unfold mayD; repeat (split; · omega); omega
theorem insRaw_ok {p : ProgD} {wr : List Bool} {f : Nat} {i : InsD} : ∀ c ∈ insRaw p wr f i, RawOk c := by
  intro c hc
  unfold insRaw at hc
  split at hc
  · rw [List.mem_singleton.1 hc]
    exact ⟨fun L M h => Int.le_refl _, fun L h => by show (0 : Int) ≤ 2; omega, fun L N _ _ => by show (0 : Int) ≤ 1; omega⟩
  split at hc
  · rw [List.mem_singleton.1 hc]
    exact ⟨fun L M h => valsOf_mono h, fun L h => valsOf_bd h, fun L N h hv => valsOf_two h hv⟩
  split at hc
  · rw [List.mem_singleton.1 hc]
    refine ⟨fun L M h => imax_mono (imax_mono (h _) (valsOf_mono h)) (Int.le_refl _), fun L h => imax_bd (imax_bd (h _) (valsOf_bd h)) mayD_bd, fun L N h hv => ?_⟩
    have hv : imax (imax (N (.arr i.arr.toNat)) (valsOf f i.args N)) (mayD wr i) < 2 := hv
    have h1 : N (.arr i.arr.toNat) < 2 ∧ valsOf f i.args N < 2 := by
      unfold imax at hv
      split at hv <;> split at hv <;> omega
    exact imax_bd (imax_bd (h _ h1.1) (valsOf_two h h1.2)) mayD_one
  split at hc
  · rw [List.mem_singleton.1 hc]
    exact ⟨fun L M h => valsOf_mono h, fun L h => valsOf_bd h, fun L N h hv => valsOf_two h hv⟩
  split at hc
  · rw [List.mem_singleton.1 hc]
    exact ⟨fun L M h => h _, fun L h => h _, fun L N h hv => h _ hv⟩
  split at hc
  · rcases List.mem_append.1 hc with g | g
    · exact parRaw_ok (src := fun j L => staysD (L (.val f (i.args.getD j 0)))) (fun j => ⟨fun L M h => staysD_mono (h _), fun L h => staysD_bd (h _), fun L N h hv => staysD_two (h _) hv⟩) _ c g
    · rw [List.mem_singleton.1 g]
      exact ⟨fun L M h => h _, fun L h => h _, fun L N h hv => h _ hv⟩
  · cases hc
theorem progRaw_ok {p : ProgD} {wr : List Bool} : ∀ c ∈ progRaw p wr, RawOk c := by
  intro c hc
  obtain ⟨f, _, g⟩ := List.mem_flatMap.1 hc
  obtain ⟨n, _, g⟩ := List.mem_flatMap.1 g
  split at g
  · split at g
    · rename_i b _
      unfold blockRaw at g
      rcases List.mem_append.1 g with g | g
      · rcases List.mem_append.1 g with g | g
        · obtain ⟨i, _, g⟩ := List.mem_flatMap.1 g
          exact insRaw_ok c g
        · obtain ⟨w, _, g⟩ := List.mem_flatMap.1 g
          unfold wayRaw at g
          split at g
          · exact parRaw_ok (src := fun j L => L (.val f (w.args.getD j 0))) (fun j => ⟨fun L M h => h _, fun L h => h _, fun L N h hv => h _ hv⟩) _ c g
          · cases g
      · unfold endRaw at g
        split at g
        · rw [List.mem_singleton.1 g]
          exact ⟨fun L M h => h _, fun L h => h _, fun L N h hv => h _ hv⟩
        · cases g
    · cases g
  · cases g
end Go.Proofs.Ytaefmhephoilmaa
