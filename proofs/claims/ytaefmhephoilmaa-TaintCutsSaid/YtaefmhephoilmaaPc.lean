/- Plain: labels that are raised, one by one, till nothing turns: the least ones that are let. -/
import Derived.Test.YtaefmhephoilmaaCi
namespace Go.Proofs.Ytaefmhephoilmaa
open Go Go.VL

inductive Tgt where
  | val (f : Nat) (v : Int)
  | arr (i : Nat)
  | ret (f : Nat)
deriving DecidableEq
abbrev LabF := Tgt → Int
structure Con where
  tgt : Tgt
  src : LabF → Int
def putL (L : LabF) (t : Tgt) (x : Int) : LabF := fun u => if u = t then x else L u
theorem putL_self (L : LabF) (t : Tgt) (x : Int) : putL L t x t = x := by simp [putL]
theorem putL_ne {L : LabF} {t u : Tgt} {x : Int} (h : u ≠ t) : putL L t x u = L u := by simp [putL, h]
def stepC (s : LabF × Bool) (c : Con) : LabF × Bool := if s.1 c.tgt < c.src s.1 then (putL s.1 c.tgt (c.src s.1), true) else s
def runC (cs : List Con) (s : LabF × Bool) : LabF × Bool := cs.foldl stepC s
theorem runC_append (cs bs : List Con) (s : LabF × Bool) : runC (cs ++ bs) s = runC bs (runC cs s) := List.foldl_append
theorem runC_cons (c : Con) (bs : List Con) (s : LabF × Bool) : runC (c :: bs) s = runC bs (stepC s c) := rfl
theorem runC_nil (s : LabF × Bool) : runC [] s = s := rfl
theorem runC_one (c : Con) (s : LabF × Bool) : runC [c] s = stepC s c := rfl

def LeL (L M : LabF) : Prop := ∀ t, L t ≤ M t
theorem LeL.refl (L : LabF) : LeL L L := fun _ => Int.le_refl _
theorem LeL.trans {L M N : LabF} (h : LeL L M) (h' : LeL M N) : LeL L N := fun t => Int.le_trans (h t) (h' t)
theorem LeL.antisymm {L M : LabF} (h : LeL L M) (h' : LeL M L) : L = M := funext fun t => Int.le_antisymm (h t) (h' t)
def Con.mono (c : Con) : Prop := ∀ L M, LeL L M → c.src L ≤ c.src M
def Closed (cs : List Con) (M : LabF) : Prop := ∀ c ∈ cs, c.src M ≤ M c.tgt

theorem stepC_ge (s : LabF × Bool) (c : Con) : LeL s.1 (stepC s c).1 := by
  intro t
  unfold stepC
  split
  · rename_i h
    show s.1 t ≤ putL s.1 c.tgt (c.src s.1) t
    by_cases e : t = c.tgt
    · subst e; rw [putL_self]; omega
    · rw [putL_ne e]; exact Int.le_refl _
  · exact Int.le_refl _
theorem runC_ge : ∀ (cs : List Con) (s : LabF × Bool), LeL s.1 (runC cs s).1
  | [], s => LeL.refl _
  | c :: cs, s => (stepC_ge s c).trans (runC_ge cs (stepC s c))
theorem stepC_le {s : LabF × Bool} {c : Con} {M : LabF} (hm : c.mono) (hc : c.src M ≤ M c.tgt) (h : LeL s.1 M) : LeL (stepC s c).1 M := by
  intro t
  unfold stepC
  split
  · show putL s.1 c.tgt (c.src s.1) t ≤ M t
    by_cases e : t = c.tgt
    · subst e; rw [putL_self]; exact Int.le_trans (hm _ _ h) hc
    · rw [putL_ne e]; exact h t
  · exact h t
theorem runC_le {M : LabF} : ∀ (cs : List Con) (s : LabF × Bool), (∀ c ∈ cs, c.mono) → Closed cs M → LeL s.1 M → LeL (runC cs s).1 M
  | [], s, _, _, h => h
  | c :: cs, s, hm, hc, h => runC_le cs _ (fun c' h' => hm c' (List.mem_cons_of_mem _ h')) (fun c' h' => hc c' (List.mem_cons_of_mem _ h')) (stepC_le (hm c List.mem_cons_self) (hc c List.mem_cons_self) h)
theorem stepC_tu {s : LabF × Bool} {c : Con} (h : s.2 = true) : (stepC s c).2 = true := by
  unfold stepC; split
  · rfl
  · exact h
theorem runC_tu : ∀ (cs : List Con) (s : LabF × Bool), s.2 = true → (runC cs s).2 = true
  | [], _, h => h
  | c :: cs, s, h => runC_tu cs _ (stepC_tu h)
theorem runC_false : ∀ (cs : List Con) (s : LabF × Bool), (runC cs s).2 = false → s.2 = false ∧ runC cs s = s ∧ Closed cs s.1
  | [], s, h => ⟨h, rfl, fun c hc => by simp at hc⟩
  | c :: cs, s, h => by
    obtain ⟨h1, h2, h3⟩ := runC_false cs (stepC s c) h
    have hstep : stepC s c = s ∧ c.src s.1 ≤ s.1 c.tgt := by
      by_cases g : s.1 c.tgt < c.src s.1
      · unfold stepC at h1; rw [if_pos g] at h1; cases h1
      · exact ⟨by unfold stepC; rw [if_neg g], by omega⟩
    rw [hstep.1] at h1 h3
    rw [hstep.1] at h2
    refine ⟨h1, by rw [runC_cons, hstep.1]; exact h2, fun c' hc' => ?_⟩
    rcases List.mem_cons.1 hc' with e | e
    · subst e; exact hstep.2
    · exact h3 c' e

/- an end: each raise makes less of what is left -/
def Con.bd (c : Con) : Prop := ∀ L, (∀ t, L t ≤ 2) → c.src L ≤ 2
def muC (all : List Con) (L : LabF) : Nat := (all.map fun c => (2 - L c.tgt).toNat).sum
theorem muC_le {all : List Con} {L M : LabF} (h : LeL L M) : muC all M ≤ muC all L := sum_le fun c _ => by have := h c.tgt; omega
theorem stepC_bd {s : LabF × Bool} {c : Con} (hc : c.bd) (h : ∀ t, s.1 t ≤ 2) : ∀ t, (stepC s c).1 t ≤ 2 := by
  intro t
  unfold stepC; split
  · show putL s.1 c.tgt (c.src s.1) t ≤ 2
    by_cases e : t = c.tgt
    · subst e; rw [putL_self]; exact hc _ h
    · rw [putL_ne e]; exact h t
  · exact h t
theorem runC_bd : ∀ (cs : List Con) (s : LabF × Bool), (∀ c ∈ cs, c.bd) → (∀ t, s.1 t ≤ 2) → ∀ t, (runC cs s).1 t ≤ 2
  | [], _, _, h => h
  | c :: cs, s, hc, h => runC_bd cs _ (fun c' h' => hc c' (List.mem_cons_of_mem _ h')) (stepC_bd (hc c List.mem_cons_self) h)
theorem runC_mu {all : List Con} : ∀ (cs : List Con) (s : LabF × Bool), (∀ c ∈ cs, c ∈ all) → (∀ c ∈ cs, c.bd) → (∀ t, s.1 t ≤ 2) → s.2 = false → (runC cs s).2 = true → muC all (runC cs s).1 < muC all s.1
  | [], s, _, _, _, h, h' => by rw [runC_nil] at h'; rw [h] at h'; cases h'
  | c :: cs, s, ha, hb, hl, h, h' => by
    by_cases g : s.1 c.tgt < c.src s.1
    · have e : stepC s c = (putL s.1 c.tgt (c.src s.1), true) := by unfold stepC; rw [if_pos g]
      have h2 : c.src s.1 ≤ 2 := hb c List.mem_cons_self _ hl
      have hlt : muC all (stepC s c).1 < muC all s.1 := by
        refine sum_lt (fun d _ => by have := stepC_ge s c d.tgt; omega) ⟨c, ha c List.mem_cons_self, ?_⟩
        rw [e]; show (2 - putL s.1 c.tgt (c.src s.1) c.tgt).toNat < _
        rw [putL_self]; omega
      exact Nat.lt_of_le_of_lt (muC_le (runC_ge cs (stepC s c))) hlt
    · have e : stepC s c = s := by unfold stepC; rw [if_neg g]
      rw [runC_cons, e] at h' ⊢
      exact runC_mu cs s (fun c' h' => ha c' (List.mem_cons_of_mem _ h')) (fun c' h' => hb c' (List.mem_cons_of_mem _ h')) hl h h'

/- what instructions, ways and ends ask of labels -/
def staysD (l : Int) : Int := if l = 1 then 0 else l
theorem staysD_mono {a b : Int} (h : a ≤ b) : staysD a ≤ staysD b := by unfold staysD; split <;> split <;> omega
def valsOf (f : Nat) (args : List Int) (L : LabF) : Int := args.foldl (fun a v => imax a (L (.val f v))) 0
abbrev CutF := Nat → Int → Bool
def cutS (cut : CutF) (f : Nat) (v : Int) (x : Int) : Int := if cut f v = true then staysD x else x
def mayD (wr : List Bool) (i : InsD) : Int := if i.op = 5 then 1 else if i.op = 3 ∧ 0 ≤ i.arr ∧ wr[i.arr.toNat]? = some true then 1 else 0
def FuncD.at (p : ProgD) (f : Nat) : FuncD := p.funcs.getD f ⟨⟨#[]⟩, []⟩
def parCons (cut : CutF) (g : Nat) (ps : List Int) (src : Nat → LabF → Int) (k : Nat) : List Con := (List.range k).map fun j => ⟨.val g (ps.getD j 0), fun L => cutS cut g (ps.getD j 0) (src j L)⟩
def insCons (p : ProgD) (cut : CutF) (wr : List Bool) (f : Nat) (i : InsD) : List Con :=
  if i.op = 1 then [⟨.val f i.dst, fun _ => cutS cut f i.dst 0⟩]
  else if i.op = 2 then [⟨.val f i.dst, fun L => cutS cut f i.dst (valsOf f i.args L)⟩]
  else if i.op = 3 ∨ i.op = 5 then [⟨.val f i.dst, fun L => cutS cut f i.dst (imax (imax (L (.arr i.arr.toNat)) (valsOf f i.args L)) (mayD wr i))⟩]
  else if i.op = 4 then [⟨.arr i.arr.toNat, fun L => staysD (valsOf f i.args L)⟩]
  else if i.op = 6 then [⟨.arr i.arr.toNat, fun L => staysD (L (.val f (i.args.getD 1 0)))⟩]
  else if i.op = 7 then parCons cut i.fn.toNat (FuncD.at p i.fn.toNat).params (fun j L => staysD (L (.val f (i.args.getD j 0)))) (FuncD.at p i.fn.toNat).params.length ++ [⟨.val f i.dst, fun L => cutS cut f i.dst (L (.ret i.fn.toNat))⟩]
  else []
def wayCons (p : ProgD) (cut : CutF) (f : Nat) (w : EdgeD) : List Con := match (FuncD.at p f).blocks[w.to.toNat]? with
  | some b => parCons cut f b.params (fun j L => L (.val f (w.args.getD j 0))) b.params.length
  | none => []
def endCons (f : Nat) (e : EndD) : List Con := if e.kind = 3 then [⟨.ret f, fun L => staysD (L (.val f e.val))⟩] else []
def blockCons (p : ProgD) (cut : CutF) (wr : List Bool) (f : Nat) (b : BlockD) : List Con := b.ins.flatMap (insCons p cut wr f) ++ b.e.ways.flatMap (wayCons p cut f) ++ endCons f b.e
noncomputable def funcCons (p : ProgD) (cut : CutF) (wr : List Bool) (f : Nat) : List Con :=
  (List.range (FuncD.at p f).blocks.length).flatMap fun n => if rchB (FuncD.at p f).blocks n = true then (match (FuncD.at p f).blocks[n]? with | some b => blockCons p cut wr f b | none => []) else []
noncomputable def progCons (p : ProgD) (cut : CutF) (wr : List Bool) : List Con := (List.range p.funcs.length).flatMap (funcCons p cut wr)
end Go.Proofs.Ytaefmhephoilmaa
