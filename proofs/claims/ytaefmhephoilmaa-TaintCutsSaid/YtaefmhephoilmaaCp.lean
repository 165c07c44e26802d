/- Contracts of package taint: what Of begins with. -/
import Derived.Test.YtaefmhephoilmaaCo
namespace Go.Proofs.Ytaefmhephoilmaa
open Go Go.VL

theorem IterAt.mem {kd : Kd} {h : V} {it r : Nat} {m left : List (Int × kd.T)} (i : IterAt kd h it r m left) : ∀ p ∈ left, p ∈ m := by
  obtain ⟨es, clk, seen, _, _, _, hl⟩ := i
  intro p hp
  rw [hl] at hp
  obtain ⟨⟨p1, e1⟩, hp1, rfl⟩ := List.mem_map.1 hp
  exact (List.of_mem_zip (List.mem_filter.1 hp1).1).1
theorem unK_b {b : Bool} {f : Bool → Prop} (h : f b) : unK .bool (.bool b) f := h
/- what a map to truths says, also if there is none -/
def cutQ (h : V) (q : Option Nat) (f : Int → Bool) : Prop := match q with
  | none => ∀ v, f v = false
  | some r => ∃ o m, h r = some o ∧ MapRep .bool o m ∧ ∀ v, (mget m v).getD false = f v
def repCut (h : V) (a : Addr) (f : Int → Bool) : Prop := ∃ q, cellq h a = some (Value.map q) ∧ cutQ h q f
theorem cutQ_le {h h' : V} {q : Option Nat} {f : Int → Bool} (l : Le h h') (c : cutQ h q f) : cutQ h' q f := by
  cases q with
  | none => exact c
  | some r => obtain ⟨o, m, h1, h2⟩ := c; exact ⟨o, m, l _ _ h1, h2⟩
theorem mono_cut : Mono repCut := fun _ _ _ _ l ⟨q, h1, h2⟩ => ⟨q, cellq_le l h1, cutQ_le l h2⟩

theorem copy_map {h : V} {q : Option Nat} {f : Int → Bool} {r45 : Nat} {J : Unit → V → Prop} (hq : cutQ h q f) (h45 : h r45 = some (.map #[] 0)) (hne : ∀ r, q = some r → r ≠ r45)
    (hJ : ∀ h', (∀ b, b ≠ r45 → h b ≠ none → h' b = h b) → (∃ o m, h' r45 = some o ∧ MapRep .bool o m ∧ ∀ v, (mget m v).getD false = f v) → J () h') :
    Rng h q fun r54 h19 => Lp (σ := Unit) (fun K_1 _ h20 => Nxt h20 r54 (fun _ _ h21 => Ent h21 r54 fun k57 v57 => unK (.int .i64) k57 fun (x58 : Int) => unK .bool v57 fun (x59 : Bool) =>
      MUpd h21 (some r45) (.int .i64) (.int .i64 x58) (.bool x59) fun h22 => Wk h22 fun h23 => K_1 () h23) (Wk h20 fun h24 => J () h24)) () h19 := by
  cases q with
  | none =>
    refine Rng_nil fun it h3 hit l3 hi => Lp_inv (fun _ _ hh => h3 = hh) (n := 0) rfl ?_
    rintro _ _ _ K rfl hK
    refine Nxt_nil hi (Wk_self (hJ h3 (fun b _ hb => ?_) ⟨_, [], l3 _ _ h45, MapRep.empty _, fun v => by rw [mget_nil]; exact (hq v).symm⟩))
    cases e : h b with
    | none => exact absurd e hb
    | some o => exact l3 _ _ e
  | some r =>
    obtain ⟨o, m, hr, hm, hg⟩ := hq
    have hrr := hne r rfl
    refine Rng_map (kd := .bool) hr hm fun it h3 hit l3 f3 hI => ?_
    have hit45 : it ≠ r45 := fun e => by subst e; rw [hit] at h45; cases h45
    refine Lp_iter (kd := .bool) (m0 := m) (B := fun K s k v h5 => unK (.int .i64) k fun (x58 : Int) => unK .bool v fun (x59 : Bool) => MUpd h5 (some r45) (.int .i64) (.int .i64 x58) (.bool x59) fun h22 => Wk h22 fun h23 => K () h23)
      (fun m' left _ hh => m' = m ∧ (∀ b, b ≠ r45 → h b ≠ none → hh b = h b) ∧ ∃ o2 m2, hh r45 = some o2 ∧ MapRep .bool o2 m2 ∧ ∀ v, mget m2 v = if v ∈ mkeys left then none else mget m v)
      hI ⟨rfl, fun b _ hb => f3 b (fun e => by subst e; exact hb hit), _, [], l3 _ _ h45, MapRep.empty _, fun v => ?_⟩ ?_ ?_
    · rw [mget_nil]
      split
      · rfl
      · rename_i hv; exact (mget_none.2 hv).symm
    · rintro m' left _ hh h' p K hI1 ⟨rfl, fr, o2, m2, g1, g2, g3⟩ hp hf hI2 hK
      have hpm : (p.1, p.2) ∈ m' := IterAt.mem hI1 p hp
      refine unK_i (unK_b (b := p.2) ?_)
      refine MUpd_map (kd := .bool) (v := p.2) ((hf _ (fun e => hit45 e.symm)).trans g1) g2 fun o' ho' => ?_
      refine Wk_self (hK _ _ _ (hI2.frame (upd_ne hit45 _) (upd_ne hrr _)) ⟨rfl, fun b hb hbn => ?_, o', _, upd_self _ _ _, ho', fun v => ?_⟩)
      · rw [upd_ne hb, hf b (fun e => by subst e; exact hbn hit)]; exact fr b hb hbn
      · rw [mget_mset]
        by_cases e : p.1 = v
        · subst e
          have : ¬ (p.1 ∈ mkeys (left.filter fun q => decide (q.1 ≠ p.1))) := by rw [keys_filter]; exact fun h => h.2 rfl
          rw [if_pos rfl, if_neg this]
          exact ((mget_mem hm.nodup).2 hpm).symm
        · rw [if_neg e, g3 v]
          have : (v ∈ mkeys (left.filter fun q => decide (q.1 ≠ p.1))) ↔ v ∈ mkeys left := by rw [keys_filter]; exact ⟨fun h => h.1, fun h => ⟨h, fun x => e x.symm⟩⟩
          simp only [this]
    · rintro m' _ hh K hI1 ⟨rfl, fr, o2, m2, g1, g2, g3⟩
      exact Wk_self (hJ hh fr ⟨o2, m2, g1, g2, fun v => by rw [g3 v]; simp [mkeys, hg v]⟩)
end Go.Proofs.Ytaefmhephoilmaa
