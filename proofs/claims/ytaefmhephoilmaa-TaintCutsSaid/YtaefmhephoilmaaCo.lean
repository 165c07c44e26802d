/- Contracts of package taint: Writes. -/
import Derived.Test.YtaefmhephoilmaaCn
namespace Go.Proofs.Ytaefmhephoilmaa
open Go Go.VL

def outOf (n : Nat) (l : List InsD) : List Bool := (List.range n).map fun (k : Nat) => l.any fun i => decide (i.op = 4 ∧ i.arr = (k : Int))
def anyS (l : List InsD) : Bool := l.any fun i => decide (i.op = 6)
def insOfF (f : FuncD) : List InsD := f.blocks.flatMap BlockD.ins
def insOfP (p : ProgD) : List InsD := p.funcs.flatMap insOfF
def writesD (p : ProgD) : List Bool := (outOf p.arrays.length (insOfP p)).map (· || anyS (insOfP p))
theorem outOf_len (n : Nat) (l : List InsD) : (outOf n l).length = n := by simp [outOf]
theorem outOf_one {n : Nat} {l : List InsD} {i : InsD} : outOf n (l ++ [i]) = if i.op = 4 ∧ 0 ≤ i.arr ∧ i.arr.toNat < n then (outOf n l).set i.arr.toNat true else outOf n l := by
  apply List.ext_getElem?
  intro k
  have e1 : ∀ l, (outOf n l)[k]? = if k < n then some (l.any fun i => decide (i.op = 4 ∧ i.arr = (k : Int))) else none := by
    intro l
    unfold outOf
    rw [List.getElem?_map]
    by_cases h : k < n
    · rw [if_pos h, List.getElem?_range h]; rfl
    · rw [if_neg h, List.getElem?_eq_none (by simpa using h)]; rfl
  split
  · rename_i h
    rw [List.getElem?_set, e1, e1]
    by_cases e : i.arr.toNat = k
    · rw [if_pos e]
      have hk : k < n := by omega
      have : i.arr = (k : Int) := by omega
      simp [outOf_len, hk, h.1, this]
    · rw [if_neg e]
      have : ¬ i.arr = (k : Int) := by omega
      simp [this]
  · rename_i h
    rw [e1, e1]
    split
    · rename_i hk
      have : ¬ (i.op = 4 ∧ i.arr = (k : Int)) := fun x => h ⟨x.1, by omega, by omega⟩
      simp [this]
    · rfl
theorem anyS_one {l : List InsD} {i : InsD} : anyS (l ++ [i]) = (anyS l || decide (i.op = 6)) := by simp [anyS]

theorem c_Writes {h : V} {p : ProgD} {sa sf : Sl} {R : Value → V → Prop} (ha : isArrs h sa p.arrays) (hf : isFuncs h sf p.funcs) (hfew : p.arrays.length ≤ 1048576)
    (hR : ∀ s' h', Le h h' → OwnS h h' s' 4 1 ((writesD p).map Value.bool) → (∀ b, h b ≠ none → h' b = h b) → R (sV s') h') : ACalls Try.prog 18 [.agg ⟨[sV sa, sV sf, iV p.main]⟩] h R := by
  refine S18_ok _ _ _ _ _ (New_box fun r1 h1 hr1 l1 b1 => ⟨sa, b1.cell rfl, ?_⟩)
  refine MkSl_own (by rw [ha.len]; omega) (by omega) fun s15 h2 l2 o2 n2 f2 a2 => ⟨sf, (b1.le l2).cell rfl, ?_⟩
  rw [ha.len] at o2 n2
  have hrep : List.replicate p.arrays.length (Value.bool false) = (outOf p.arrays.length []).map Value.bool := by
    apply List.ext_getElem?
    intro k
    simp only [outOf, List.getElem?_map, List.getElem?_replicate]
    by_cases hk : k < p.arrays.length
    · rw [if_pos hk, List.getElem?_range hk]; rfl
    · rw [if_neg hk, List.getElem?_eq_none (by simpa using hk)]; rfl
  rw [hrep] at o2
  have l12 : Le h h1 := l1
  -- one instruction more
  refine Lp_count p.funcs.length (fun k st hh => Le h1 hh ∧ st = (anyS ((p.funcs.take k).flatMap insOfF), (k : Int), ()) ∧ OwnS h1 hh s15 4 1 ((outOf p.arrays.length ((p.funcs.take k).flatMap insOfF)).map Value.bool))
    ⟨l2, rfl, o2⟩ ?_
  rintro k _ h3 K hk ⟨l3, rfl, o3⟩ hK
  refine cond_dec (fun hlt => ?_) (fun hge => ?_)
  · have hk' : k < p.funcs.length := by have := hf.len; simp only at hlt; omega
    rw [flatMap_take_succ hk'] at hK
    generalize (p.funcs.take k).flatMap insOfF = c0 at *
    refine elem_func (hf.le mono_func l1) l3 hk' rfl rfl fun sb hsb r6 h5 l5 l5' hr6 b6 => ⟨sb, b6.cell rfl, ?_⟩
    have hr6' : h1 r6 = none := l3.nil hr6
    refine Lp_count p.funcs[k].blocks.length (fun j st hh => Le h1 hh ∧ st = (anyS (c0 ++ (p.funcs[k].blocks.take j).flatMap BlockD.ins), (j : Int), ()) ∧ OwnS h1 hh s15 4 1 ((outOf p.arrays.length (c0 ++ (p.funcs[k].blocks.take j).flatMap BlockD.ins)).map Value.bool))
      ⟨l5, by simp, by simpa using o3.le l5'⟩ ?_
    rintro j _ h6 K1 hj ⟨l6, rfl, o6⟩ hK1
    refine cond_dec (fun hlt => ?_) (fun hge => ?_)
    · have hj' : j < p.funcs[k].blocks.length := by have := hsb.len; simp only at hlt; omega
      rw [flatMap_take_succ hj', ← List.append_assoc] at hK1
      generalize c0 ++ (p.funcs[k].blocks.take j).flatMap BlockD.ins = c1 at *
      refine elem_block hsb l6 hj' rfl rfl fun q i w hq hi hw r8 h8 l8 l8' hr8 b8 => ⟨i, b8.cell rfl, ?_⟩
      refine Lp_count p.funcs[k].blocks[j].ins.length (fun m st hh => Le h1 hh ∧ st = (anyS (c1 ++ p.funcs[k].blocks[j].ins.take m), (m : Int), ()) ∧ OwnS h1 hh s15 4 1 ((outOf p.arrays.length (c1 ++ p.funcs[k].blocks[j].ins.take m)).map Value.bool))
        ⟨l8, by simp, by simpa using o6.le l8'⟩ ?_
      rintro m _ h9 K2 hm ⟨l9, rfl, o9⟩ hK2
      refine cond_dec (fun hlt => ?_) (fun hge => ?_)
      · have hm' : m < p.funcs[k].blocks[j].ins.length := by have := hi.len; simp only at hlt; omega
        rw [List.take_succ_eq_append_getElem hm', ← List.append_assoc] at hK2
        generalize c1 ++ p.funcs[k].blocks[j].ins.take m = c2 at *
        rw [outOf_one, anyS_one] at hK2
        refine elem_ins hi l9 hm' rfl rfl fun z hz r10 h11 l11 l11' hr10 b10 => ?_
        generalize p.funcs[k].blocks[j].ins[m] = ii at *
        have o11 := o9.le l11'
        refine Cut_i (fun st hh => h11 = hh ∧ st.1 = (anyS c2 || decide (ii.op = 6))) (fun J hJ => ?_) ?_
        · refine cond_b (fun hy => Wk_self (hJ _ _ ⟨rfl, ?_⟩)) (fun hn => ⟨_, b10.cell0, Wk_self (hJ _ _ ⟨rfl, ?_⟩)⟩)
          · have hy : anyS c2 = true := hy
            rw [hy]; rfl
          · have hn : anyS c2 = false := hn
            rw [hn]; simp; rfl
        · rintro ⟨st, u⟩ _ ⟨rfl, e⟩
          have e : st = _ := e
          subst e
          have no : ¬ (ii.op = 4 ∧ 0 ≤ ii.arr ∧ ii.arr.toNat < p.arrays.length) → Wk h11 fun h' => K2 (anyS c2 || decide (ii.op = 6), IntKind.wrap .i64 ((m : Int) + 1), ()) h' := fun hn =>
            Wk_self (hK2 _ _ hm' ⟨l11, by rw [wnat hm' hi.bd], by rw [if_neg hn]; exact o11⟩)
          refine ⟨_, b10.cell0, cond_eqi (fun e4 => ⟨_, b10.cell rfl, cond_dec (fun g0 => ⟨_, b10.cell rfl, cond_dec (fun g1 => ⟨_, b10.cell rfl, ?_⟩) (fun g1 => no ?_)⟩) (fun g0 => no ?_)⟩) (fun n4 => no ?_)⟩
          · have e4 : ii.op = 4 := e4
            have g0 : ii.arr ≥ 0 := g0
            have g1 : ii.arr < (s15.n : Int) := g1
            have hlt2 : ii.arr.toNat < p.arrays.length := by omega
            refine OwnS.set o11 l11 (i := ii.arr) (by omega) (by simpa [outOf_len] using hlt2) fun h13 l13 o13 f13 => ?_
            rw [bset] at o13
            refine Wk_self (hK2 _ _ hm' ⟨l13, by rw [wnat hm' hi.bd], by rw [if_pos ⟨e4, g0, hlt2⟩]; exact o13⟩)
          · have g1 : ¬ ii.arr < (s15.n : Int) := g1
            omega
          · have g0 : ¬ ii.arr ≥ 0 := g0
            omega
          · have n4 : ii.op ≠ 4 := n4
            exact fun x => n4 x.1
      · have : m = p.funcs[k].blocks[j].ins.length := by have := hi.len; simp only at hge; omega
        subst this
        rw [List.take_of_length_le (Nat.le_refl _)] at *
        exact Wk_self (hK1 _ _ hj' ⟨l9, by rw [wnat hj' hsb.bd], o9⟩)
    · have : j = p.funcs[k].blocks.length := by have := hsb.len; simp only at hge; omega
      subst this
      rw [List.take_of_length_le (Nat.le_refl _)] at *
      exact Wk_self (hK _ _ hk' ⟨l6, by rw [wnat hk' hf.bd]; rfl, o6⟩)
  · have : k = p.funcs.length := by have := hf.len; simp only at hge; omega
    subst this
    rw [List.take_of_length_le (Nat.le_refl _)] at *
    have ei : p.funcs.flatMap insOfF = (insOfP p) := rfl
    rw [ei] at *
    -- the last loop
    refine Lp_count p.arrays.length (fun m st hh => Le h1 hh ∧ st = ((m : Int), ()) ∧ OwnS h1 hh s15 4 1 ((((outOf p.arrays.length (insOfP p)).take m).map (· || anyS (insOfP p)) ++ (outOf p.arrays.length (insOfP p)).drop m).map Value.bool))
      ⟨l3, rfl, by simpa [insOfP] using o3⟩ ?_
    rintro m _ h22 K3 hm ⟨l22, rfl, o22⟩ hK3
    refine cond_dec (fun hlt => ?_) (fun hge => ?_)
    · have hm' : m < p.arrays.length := by simp only at hlt; omega
      have hmo : m < (outOf p.arrays.length (insOfP p)).length := by rw [outOf_len]; exact hm'
      have hml : (((outOf p.arrays.length (insOfP p)).take m).map (· || anyS (insOfP p))).length = m := by simp [outOf_len]; omega
      have hget : (((outOf p.arrays.length (insOfP p)).take m).map (· || anyS (insOfP p)) ++ (outOf p.arrays.length (insOfP p)).drop m)[m]? = some ((outOf p.arrays.length (insOfP p))[m]'hmo) := by
        rw [List.getElem?_append_right (by omega), hml, Nat.sub_self, List.getElem?_drop, Nat.add_zero, List.getElem?_eq_getElem hmo]
      have hset : ∀ b, (((outOf p.arrays.length (insOfP p)).take m).map (· || anyS (insOfP p)) ++ (outOf p.arrays.length (insOfP p)).drop m).set m b = ((outOf p.arrays.length (insOfP p)).take m).map (· || anyS (insOfP p)) ++ b :: (outOf p.arrays.length (insOfP p)).drop (m + 1) := by
        intro b
        rw [List.set_append_right _ _ (by omega), hml, Nat.sub_self, List.drop_eq_getElem_cons hmo, List.set_cons_zero]
      have hnext : ∀ b, b = ((outOf p.arrays.length (insOfP p))[m]'hmo || anyS (insOfP p)) → (((outOf p.arrays.length (insOfP p)).take m).map (· || anyS (insOfP p)) ++ (outOf p.arrays.length (insOfP p)).drop m).set m b = ((outOf p.arrays.length (insOfP p)).take (m + 1)).map (· || anyS (insOfP p)) ++ (outOf p.arrays.length (insOfP p)).drop (m + 1) := by
        intro b hb
        rw [hset, hb, List.take_succ_eq_append_getElem hmo, List.map_append, List.append_assoc]
        rfl
      have hlm : m < (((outOf p.arrays.length (insOfP p)).take m).map (· || anyS (insOfP p)) ++ (outOf p.arrays.length (insOfP p)).drop m).length := (List.getElem?_eq_some_iff.1 hget).1
      have bd : p.arrays.length ≤ 9223372036854775807 := by omega
      have sto : ∀ b, b = ((outOf p.arrays.length (insOfP p))[m]'hmo || anyS (insOfP p)) → Ix s15 (m : Int) 1 fun a => StL h22 a 0 [.bool b] fun h23 => Wk h23 fun h24 => K3 (IntKind.wrap .i64 ((m : Int) + 1), ()) h24 := by
        intro b hb
        refine OwnS.set o22 l22 (i := (m : Int)) (by omega) (by simpa using hlm) fun h23 l23 o23 f23 => ?_
        rw [bset, Int.toNat_natCast, hnext b hb] at o23
        exact Wk_self (hK3 _ _ hm' ⟨l23, by rw [wnat hm' bd], o23⟩)
      refine o22.bools.ixn hlm fun a hc => ⟨_, hc, ?_⟩
      have hg2 := (List.getElem?_eq_getElem hlm).symm.trans hget
      have hg2 := Option.some.inj hg2
      refine cond_b (fun hy => sto true ?_) (fun hn => sto _ ?_)
      · rw [hg2] at hy; rw [hy]; rfl
      · rw [hg2] at hn; rw [hn]; rfl
    · have : m = p.arrays.length := by simp only at hge; omega
      subst this
      rw [List.take_of_length_le (by rw [outOf_len]; exact Nat.le_refl _), List.drop_of_length_le (by rw [outOf_len]; exact Nat.le_refl _), List.append_nil] at o22
      refine Wk_self (hR s15 h22 (l1.trans l22) (o22.base l1) fun b hb => ?_)
      cases e : h b with
      | none => exact absurd e hb
      | some ob => exact (l1.trans l22) b ob e
end Go.Proofs.Ytaefmhephoilmaa
