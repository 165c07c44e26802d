/- Contracts of package taint: Writes. -/
import Derived.Test.YtaefmhephoilmaaZTaintLeast3
import Derived.Test.YtaefmhephoilmaaProg
import Derived.KernelRfl
import Derived.WideKeyElems2
namespace Go.Proofs.Ytaefmhephoilmaa
open Go Go.VL

def outOf (n : Nat) (l : List InsD) : List Bool := (List.range n).map fun (k : Nat) => l.any fun i => decide (i.op = 4 ∧ i.arr = (k : Int))
def anyS (l : List InsD) : Bool := l.any fun i => decide (i.op = 6)
def insOfF (f : FuncD) : List InsD := f.blocks.flatMap BlockD.ins
def insOfP (p : ProgD) : List InsD := p.funcs.flatMap insOfF
def writesD (p : ProgD) : List Bool := (outOf p.arrays.length (insOfP p)).map (· || anyS (insOfP p))
theorem outOf_len (n : Nat) (l : List InsD) : (outOf n l).length = n := by simp [outOf]
theorem outOf_one {n : Nat} {l : List InsD} {i : InsD} : outOf n (l ++ [i]) = if i.op = 4 ∧ 0 ≤ i.arr ∧ i.arr.toNat < n then (outOf n l).set i.arr.toNat true else outOf n l := by
  apply List.ext_getElem?
  intro k
  have e1 : ∀ l, (outOf n l)[k]? = if k < n then some (l.any fun i => decide (i.op = 4 ∧ i.arr = (k : Int))) else none := by
    intro l
    unfold outOf
    rw [List.getElem?_map]
    by_cases h : k < n
    · rw [if_pos h, List.getElem?_range h]; rfl
    · rw [if_neg h, List.getElem?_eq_none (by simpa using h)]; rfl
  split
  · rename_i h
    rw [List.getElem?_set, e1, e1]
    by_cases e : i.arr.toNat = k
    · rw [if_pos e]
      have hk : k < n := by omega
      have : i.arr = (k : Int) := by omega
      simp [outOf_len, hk, h.1, this]
    · rw [if_neg e]
      have : ¬ i.arr = (k : Int) := by omega
      simp [this]
  · rename_i h
    rw [e1, e1]
    split
    · rename_i hk
      have : ¬ (i.op = 4 ∧ i.arr = (k : Int)) := fun x => h ⟨x.1, by omega, by omega⟩
      simp [this]
    · rfl
theorem anyS_one {l : List InsD} {i : InsD} : anyS (l ++ [i]) = (anyS l || decide (i.op = 6)) := by simp [anyS]

theorem c_Writes {h : V} {p : ProgD} {sa sf : Sl} {R : Value → V → Prop} (ha : isArrs h sa p.arrays) (hf : isFuncs h sf p.funcs) (hfew : p.arrays.length ≤ 1048576)
    (hR : ∀ s' h', Le h h' → OwnS h h' s' 4 1 ((writesD p).map Value.bool) → (∀ b, h b ≠ none → h' b = h b) → R (sV s') h') : ACalls Try.prog 18 [.agg ⟨[sV sa, sV sf, iV p.main]⟩] h R := by
  refine S18_ok _ _ _ _ _ (New_box fun r1 h1 hr1 l1 b1 => ⟨sa, b1.cell rfl, ?_⟩)
  refine MkSl_own (by rw [ha.len]; omega) (by omega) fun s15 h2 l2 o2 n2 f2 a2 => ⟨sf, (b1.le l2).cell rfl, ?_⟩
  rw [ha.len] at o2 n2
  have hrep : List.replicate p.arrays.length (Value.bool false) = (outOf p.arrays.length []).map Value.bool := by
    apply List.ext_getElem?
    intro k
    simp only [outOf, List.getElem?_map, List.getElem?_replicate]
    by_cases hk : k < p.arrays.length
    · rw [if_pos hk, List.getElem?_range hk]; rfl
    · rw [if_neg hk, List.getElem?_eq_none (by simpa using hk)]; rfl
  rw [hrep] at o2
  have l12 : Le h h1 := l1
  -- one instruction more
  refine Lp_count p.funcs.length (fun k st hh => Le h1 hh ∧ st = (anyS ((p.funcs.take k).flatMap insOfF), (k : Int), ()) ∧ OwnS h1 hh s15 4 1 ((outOf p.arrays.length ((p.funcs.take k).flatMap insOfF)).map Value.bool))
    ⟨l2, rfl, o2⟩ ?_
  rintro k _ h3 K hk ⟨l3, rfl, o3⟩ hK
  refine cond_dec (fun hlt => ?_) (fun hge => ?_)
  · have hk' : k < p.funcs.length := by have := hf.len; simp only at hlt; omega
    rw [flatMap_take_succ hk'] at hK
    generalize (p.funcs.take k).flatMap insOfF = c0 at *
    refine elem_func (hf.le mono_func l1) l3 hk' rfl rfl fun sb hsb r6 h5 l5 l5' hr6 b6 => ⟨sb, b6.cell rfl, ?_⟩
    have hr6' : h1 r6 = none := l3.nil hr6
    refine Lp_count p.funcs[k].blocks.length (fun j st hh => Le h1 hh ∧ st = (anyS (c0 ++ (p.funcs[k].blocks.take j).flatMap BlockD.ins), (j : Int), ()) ∧ OwnS h1 hh s15 4 1 ((outOf p.arrays.length (c0 ++ (p.funcs[k].blocks.take j).flatMap BlockD.ins)).map Value.bool))
      ⟨l5, by simp, by simpa using o3.le l5'⟩ ?_
    rintro j _ h6 K1 hj ⟨l6, rfl, o6⟩ hK1
    refine cond_dec (fun hlt => ?_) (fun hge => ?_)
    · have hj' : j < p.funcs[k].blocks.length := by have := hsb.len; simp only at hlt; omega
      rw [flatMap_take_succ hj', ← List.append_assoc] at hK1
      generalize c0 ++ (p.funcs[k].blocks.take j).flatMap BlockD.ins = c1 at *
      refine elem_block hsb l6 hj' rfl rfl fun q i w hq hi hw r8 h8 l8 l8' hr8 b8 => ⟨i, b8.cell rfl, ?_⟩
      refine Lp_count p.funcs[k].blocks[j].ins.length (fun m st hh => Le h1 hh ∧ st = (anyS (c1 ++ p.funcs[k].blocks[j].ins.take m), (m : Int), ()) ∧ OwnS h1 hh s15 4 1 ((outOf p.arrays.length (c1 ++ p.funcs[k].blocks[j].ins.take m)).map Value.bool))
        ⟨l8, by simp, by simpa using o6.le l8'⟩ ?_
      rintro m _ h9 K2 hm ⟨l9, rfl, o9⟩ hK2
      refine cond_dec (fun hlt => ?_) (fun hge => ?_)
      · have hm' : m < p.funcs[k].blocks[j].ins.length := by have := hi.len; simp only at hlt; omega
        rw [List.take_succ_eq_append_getElem hm', ← List.append_assoc] at hK2
        generalize c1 ++ p.funcs[k].blocks[j].ins.take m = c2 at *
        rw [outOf_one, anyS_one] at hK2
        refine elem_ins hi l9 hm' rfl rfl fun z hz r10 h11 l11 l11' hr10 b10 => ?_
        generalize p.funcs[k].blocks[j].ins[m] = ii at *
        have o11 := o9.le l11'
        refine Cut_i (fun st hh => h11 = hh ∧ st.1 = (anyS c2 || decide (ii.op = 6))) (fun J hJ => ?_) ?_
        · refine cond_b (fun hy => Wk_self (hJ _ _ ⟨rfl, ?_⟩)) (fun hn => ⟨_, b10.cell0, Wk_self (hJ _ _ ⟨rfl, ?_⟩)⟩)
          · have hy : anyS c2 = true := hy
            rw [hy]; rfl
          · have hn : anyS c2 = false := hn
            rw [hn]; simp; rfl
        · rintro ⟨st, u⟩ _ ⟨rfl, e⟩
          have e : st = _ := e
          subst e
          have no : ¬ (ii.op = 4 ∧ 0 ≤ ii.arr ∧ ii.arr.toNat < p.arrays.length) → Wk h11 fun h' => K2 (anyS c2 || decide (ii.op = 6), IntKind.wrap .i64 ((m : Int) + 1), ()) h' := fun hn =>
            Wk_self (hK2 _ _ hm' ⟨l11, by rw [wnat hm' hi.bd], by rw [if_neg hn]; exact o11⟩)
          refine ⟨_, b10.cell0, cond_eqi (fun e4 => ⟨_, b10.cell rfl, cond_dec (fun g0 => ⟨_, b10.cell rfl, cond_dec (fun g1 => ⟨_, b10.cell rfl, ?_⟩) (fun g1 => no ?_)⟩) (fun g0 => no ?_)⟩) (fun n4 => no ?_)⟩
          · have e4 : ii.op = 4 := e4
            have g0 : ii.arr ≥ 0 := g0
            have g1 : ii.arr < (s15.n : Int) := g1
            have hlt2 : ii.arr.toNat < p.arrays.length := by omega
            refine OwnS.set o11 l11 (i := ii.arr) (by omega) (by simpa [outOf_len] using hlt2) fun h13 l13 o13 f13 => ?_
            rw [bset] at o13
            refine Wk_self (hK2 _ _ hm' ⟨l13, by rw [wnat hm' hi.bd], by rw [if_pos ⟨e4, g0, hlt2⟩]; exact o13⟩)
          · have g1 : ¬ ii.arr < (s15.n : Int) := g1
            omega
          · have g0 : ¬ ii.arr ≥ 0 := g0
            omega
          · have n4 : ii.op ≠ 4 := n4
            exact fun x => n4 x.1
      · have : m = p.funcs[k].blocks[j].ins.length := by have := hi.len; simp only at hge; omega
        subst this
        rw [List.take_of_length_le (Nat.le_refl _)] at *
        exact Wk_self (hK1 _ _ hj' ⟨l9, by rw [wnat hj' hsb.bd], o9⟩)
    · have : j = p.funcs[k].blocks.length := by have := hsb.len; simp only at hge; omega
      subst this
      rw [List.take_of_length_le (Nat.le_refl _)] at *
      exact Wk_self (hK _ _ hk' ⟨l6, by rw [wnat hk' hf.bd]; rfl, o6⟩)
  · have : k = p.funcs.length := by have := hf.len; simp only at hge; omega
    subst this
    rw [List.take_of_length_le (Nat.le_refl _)] at *
    have ei : p.funcs.flatMap insOfF = (insOfP p) := rfl
    rw [ei] at *
    -- the last loop
    refine Lp_count p.arrays.length (fun m st hh => Le h1 hh ∧ st = ((m : Int), ()) ∧ OwnS h1 hh s15 4 1 ((((outOf p.arrays.length (insOfP p)).take m).map (· || anyS (insOfP p)) ++ (outOf p.arrays.length (insOfP p)).drop m).map Value.bool))
      ⟨l3, rfl, by simpa [insOfP] using o3⟩ ?_
    rintro m _ h22 K3 hm ⟨l22, rfl, o22⟩ hK3
    refine cond_dec (fun hlt => ?_) (fun hge => ?_)
    · have hm' : m < p.arrays.length := by simp only at hlt; omega
      have hmo : m < (outOf p.arrays.length (insOfP p)).length := by rw [outOf_len]; exact hm'
      have hml : (((outOf p.arrays.length (insOfP p)).take m).map (· || anyS (insOfP p))).length = m := by simp [outOf_len]; omega
      have hget : (((outOf p.arrays.length (insOfP p)).take m).map (· || anyS (insOfP p)) ++ (outOf p.arrays.length (insOfP p)).drop m)[m]? = some ((outOf p.arrays.length (insOfP p))[m]'hmo) := by
        rw [List.getElem?_append_right (by omega), hml, Nat.sub_self, List.getElem?_drop, Nat.add_zero, List.getElem?_eq_getElem hmo]
      have hset : ∀ b, (((outOf p.arrays.length (insOfP p)).take m).map (· || anyS (insOfP p)) ++ (outOf p.arrays.length (insOfP p)).drop m).set m b = ((outOf p.arrays.length (insOfP p)).take m).map (· || anyS (insOfP p)) ++ b :: (outOf p.arrays.length (insOfP p)).drop (m + 1) := by
        intro b
        rw [List.set_append_right _ _ (by omega), hml, Nat.sub_self, List.drop_eq_getElem_cons hmo, List.set_cons_zero]
      have hnext : ∀ b, b = ((outOf p.arrays.length (insOfP p))[m]'hmo || anyS (insOfP p)) → (((outOf p.arrays.length (insOfP p)).take m).map (· || anyS (insOfP p)) ++ (outOf p.arrays.length (insOfP p)).drop m).set m b = ((outOf p.arrays.length (insOfP p)).take (m + 1)).map (· || anyS (insOfP p)) ++ (outOf p.arrays.length (insOfP p)).drop (m + 1) := by
        intro b hb
        rw [hset, hb, List.take_succ_eq_append_getElem hmo, List.map_append, List.append_assoc]
        rfl
      have hlm : m < (((outOf p.arrays.length (insOfP p)).take m).map (· || anyS (insOfP p)) ++ (outOf p.arrays.length (insOfP p)).drop m).length := (List.getElem?_eq_some_iff.1 hget).1
      have bd : p.arrays.length ≤ 9223372036854775807 := by omega
      have sto : ∀ b, b = ((outOf p.arrays.length (insOfP p))[m]'hmo || anyS (insOfP p)) → Ix s15 (m : Int) 1 fun a => StL h22 a 0 [.bool b] fun h23 => Wk h23 fun h24 => K3 (IntKind.wrap .i64 ((m : Int) + 1), ()) h24 := by
        intro b hb
        refine OwnS.set o22 l22 (i := (m : Int)) (by omega) (by simpa using hlm) fun h23 l23 o23 f23 => ?_
        rw [bset, Int.toNat_natCast, hnext b hb] at o23
        exact Wk_self (hK3 _ _ hm' ⟨l23, by rw [wnat hm' bd], o23⟩)
      refine o22.bools.ixn hlm fun a hc => ⟨_, hc, ?_⟩
      have hg2 := (List.getElem?_eq_getElem hlm).symm.trans hget
      have hg2 := Option.some.inj hg2
      refine cond_b (fun hy => sto true ?_) (fun hn => sto _ ?_)
      · rw [hg2] at hy; rw [hy]; rfl
      · rw [hg2] at hn; rw [hn]; rfl
    · have : m = p.arrays.length := by simp only at hge; omega
      subst this
      rw [List.take_of_length_le (by rw [outOf_len]; exact Nat.le_refl _), List.drop_of_length_le (by rw [outOf_len]; exact Nat.le_refl _), List.append_nil] at o22
      refine Wk_self (hR s15 h22 (l1.trans l22) (o22.base l1) fun b hb => ?_)
      cases e : h b with
      | none => exact absurd e hb
      | some ob => exact (l1.trans l22) b ob e
end Go.Proofs.Ytaefmhephoilmaa

/- Contracts of package taint: what Of begins with. -/
namespace Go.Proofs.Ytaefmhephoilmaa
open Go Go.VL

theorem IterAt.mem {kd : Kd} {h : V} {it r : Nat} {m left : List (Int × kd.T)} (i : IterAt kd h it r m left) : ∀ p ∈ left, p ∈ m := by
  obtain ⟨es, clk, seen, _, _, _, hl⟩ := i
  intro p hp
  rw [hl] at hp
  obtain ⟨⟨p1, e1⟩, hp1, rfl⟩ := List.mem_map.1 hp
  exact (List.of_mem_zip (List.mem_filter.1 hp1).1).1
theorem unK_b {b : Bool} {f : Bool → Prop} (h : f b) : unK .bool (.bool b) f := h
/- what a map to truths says, also if there is none -/
def cutQ (h : V) (q : Option Nat) (f : Int → Bool) : Prop := match q with
  | none => ∀ v, f v = false
  | some r => ∃ o m, h r = some o ∧ MapRep .bool o m ∧ ∀ v, (mget m v).getD false = f v
def repCut (h : V) (a : Addr) (f : Int → Bool) : Prop := ∃ q, cellq h a = some (Value.map q) ∧ cutQ h q f
theorem cutQ_le {h h' : V} {q : Option Nat} {f : Int → Bool} (l : Le h h') (c : cutQ h q f) : cutQ h' q f := by
  cases q with
  | none => exact c
  | some r => obtain ⟨o, m, h1, h2⟩ := c; exact ⟨o, m, l _ _ h1, h2⟩
theorem mono_cut : Mono repCut := fun _ _ _ _ l ⟨q, h1, h2⟩ => ⟨q, cellq_le l h1, cutQ_le l h2⟩

theorem copy_map {h : V} {q : Option Nat} {f : Int → Bool} {r45 : Nat} {J : Unit → V → Prop} (hq : cutQ h q f) (h45 : h r45 = some (.map #[] 0)) (hne : ∀ r, q = some r → r ≠ r45)
    (hJ : ∀ h', (∀ b, b ≠ r45 → h b ≠ none → h' b = h b) → (∃ o m, h' r45 = some o ∧ MapRep .bool o m ∧ ∀ v, (mget m v).getD false = f v) → J () h') :
    Rng h q fun r54 h19 => Lp (σ := Unit) (fun K_1 _ h20 => Nxt h20 r54 (fun _ _ h21 => Ent h21 r54 fun k57 v57 => unK (.int .i64) k57 fun (x58 : Int) => unK .bool v57 fun (x59 : Bool) =>
      MUpd h21 (some r45) (.int .i64) (.int .i64 x58) (.bool x59) fun h22 => Wk h22 fun h23 => K_1 () h23) (Wk h20 fun h24 => J () h24)) () h19 := by
  cases q with
  | none =>
    refine Rng_nil fun it h3 hit l3 hi => Lp_inv (fun _ _ hh => h3 = hh) (n := 0) rfl ?_
    rintro _ _ _ K rfl hK
    refine Nxt_nil hi (Wk_self (hJ h3 (fun b _ hb => ?_) ⟨_, [], l3 _ _ h45, MapRep.empty _, fun v => by rw [mget_nil]; exact (hq v).symm⟩))
    cases e : h b with
    | none => exact absurd e hb
    | some o => exact l3 _ _ e
  | some r =>
    obtain ⟨o, m, hr, hm, hg⟩ := hq
    have hrr := hne r rfl
    refine Rng_map (kd := .bool) hr hm fun it h3 hit l3 f3 hI => ?_
    have hit45 : it ≠ r45 := fun e => by subst e; rw [hit] at h45; cases h45
    refine Lp_iter (kd := .bool) (m0 := m) (B := fun K s k v h5 => unK (.int .i64) k fun (x58 : Int) => unK .bool v fun (x59 : Bool) => MUpd h5 (some r45) (.int .i64) (.int .i64 x58) (.bool x59) fun h22 => Wk h22 fun h23 => K () h23)
      (fun m' left _ hh => m' = m ∧ (∀ b, b ≠ r45 → h b ≠ none → hh b = h b) ∧ ∃ o2 m2, hh r45 = some o2 ∧ MapRep .bool o2 m2 ∧ ∀ v, mget m2 v = if v ∈ mkeys left then none else mget m v)
      hI ⟨rfl, fun b _ hb => f3 b (fun e => by subst e; exact hb hit), _, [], l3 _ _ h45, MapRep.empty _, fun v => ?_⟩ ?_ ?_
    · rw [mget_nil]
      split
      · rfl
      · rename_i hv; exact (mget_none.2 hv).symm
    · rintro m' left _ hh h' p K hI1 ⟨rfl, fr, o2, m2, g1, g2, g3⟩ hp hf hI2 hK
      have hpm : (p.1, p.2) ∈ m' := IterAt.mem hI1 p hp
      refine unK_i (unK_b (b := p.2) ?_)
      refine MUpd_map (kd := .bool) (v := p.2) ((hf _ (fun e => hit45 e.symm)).trans g1) g2 fun o' ho' => ?_
      refine Wk_self (hK _ _ _ (hI2.frame (upd_ne hit45 _) (upd_ne hrr _)) ⟨rfl, fun b hb hbn => ?_, o', _, upd_self _ _ _, ho', fun v => ?_⟩)
      · rw [upd_ne hb, hf b (fun e => by subst e; exact hbn hit)]; exact fr b hb hbn
      · rw [mget_mset]
        by_cases e : p.1 = v
        · subst e
          have : ¬ (p.1 ∈ mkeys (left.filter fun q => decide (q.1 ≠ p.1))) := by rw [keys_filter]; exact fun h => h.2 rfl
          rw [if_pos rfl, if_neg this]
          exact ((mget_mem hm.nodup).2 hpm).symm
        · rw [if_neg e, g3 v]
          have : (v ∈ mkeys (left.filter fun q => decide (q.1 ≠ p.1))) ↔ v ∈ mkeys left := by rw [keys_filter]; exact ⟨fun h => h.1, fun h => ⟨h, fun x => e x.symm⟩⟩
          simp only [this]
    · rintro m' _ hh K hI1 ⟨rfl, fr, o2, m2, g1, g2, g3⟩
      exact Wk_self (hJ hh fr ⟨o2, m2, g1, g2, fun v => by rw [g3 v]; simp [mkeys, hg v]⟩)
end Go.Proofs.Ytaefmhephoilmaa

/- What a row reads of a program, as views have it. -/
namespace Go.Proofs.Ytaefmhephoilmaa
open Go Go.VL

noncomputable def fieldsT (t : TypeId) : Array Field := match Try.prog.underlying t with
  | some (.struct fs) => fs
  | _ => #[]
noncomputable def fieldK (t : TypeId) (j : Nat) : Option (TypeId × Nat) := ((fieldsT t)[j]?).map fun f => (f.type, f.offset)
section
variable {H : Type} {enc : TypeId × Value → H} {w : World} {base : Nat} {spare : Nat → Bool} {held : Bool}
abbrev RdT (enc : TypeId × Value → H) (w : World) (base : Nat) (spare : Nat → Bool) (held : Bool) (t : TypeId) (cs : List Value) : Prop := Rd enc Try.prog w base spare held t cs
theorem rd_fieldT {t u : TypeId} {j o c : Nat} {cs : List Value} (ht : Try.prog.underlying t = some (.struct (fieldsT t))) (hj : fieldK t j = some (u, o)) (hc : Try.prog.cellsOf u = c) (h : RdT enc w base spare held t cs) : RdT enc w base spare held u ((cs.drop o).take c) := by
  obtain ⟨_, h2⟩ := rd_field ht h
  obtain ⟨f, hf, e⟩ := Option.map_eq_some_iff.1 hj
  have := h2 j f hf
  cases e
  rw [hc] at this
  exact this
theorem len_T {t : TypeId} {n : Nat} {cs : List Value} (ht : Try.prog.underlying t = some (.struct (fieldsT t))) (hn : Try.prog.cellsOf t = n) (h : RdT enc w base spare held t cs) : cs.length = n := hn ▸ (rd_field ht h).1
theorem u3 : Try.prog.underlying 3 = some (.int .i64) := by kernel_rfl
theorem u2 : Try.prog.underlying 2 = some (.int .i64) := by kernel_rfl
theorem u49 : Try.prog.underlying 49 = some (.int .i64) := by kernel_rfl
theorem u51 : Try.prog.underlying 51 = some (.int .i64) := by kernel_rfl
theorem u57 : Try.prog.underlying 57 = some (.int .i64) := by kernel_rfl
theorem u58 : Try.prog.underlying 58 = some (.int .i64) := by kernel_rfl
theorem u64 : Try.prog.underlying 64 = some (.int .i64) := by kernel_rfl
theorem u9 : Try.prog.underlying 9 = some .string := by kernel_rfl
theorem u47 : Try.prog.underlying 47 = some (.slice 3) := by kernel_rfl
theorem u48 : Try.prog.underlying 48 = some (.slice 60) := by kernel_rfl
theorem u50 : Try.prog.underlying 50 = some (.slice 74) := by kernel_rfl
theorem u44 : Try.prog.underlying 44 = some (.slice 55) := by kernel_rfl
theorem u22 : Try.prog.underlying 22 = some (.slice 66) := by kernel_rfl
theorem u23 : Try.prog.underlying 23 = some (.slice 46) := by kernel_rfl
theorem u26 : Try.prog.underlying 26 = some (.slice 29) := by kernel_rfl
theorem u29 : Try.prog.underlying 29 = some (.map 3 4) := by kernel_rfl
theorem u74 : Try.prog.underlying 74 = some (.struct (fieldsT 74)) := by kernel_rfl
theorem u60 : Try.prog.underlying 60 = some (.struct (fieldsT 60)) := by kernel_rfl
theorem u55 : Try.prog.underlying 55 = some (.struct (fieldsT 55)) := by kernel_rfl
theorem u53 : Try.prog.underlying 53 = some (.struct (fieldsT 53)) := by kernel_rfl
theorem u46 : Try.prog.underlying 46 = some (.struct (fieldsT 46)) := by kernel_rfl
theorem u66 : Try.prog.underlying 66 = some (.struct (fieldsT 66)) := by kernel_rfl
theorem u25 : Try.prog.underlying 25 = some (.struct (fieldsT 25)) := by kernel_rfl

theorem rd_one {k : IntKind} {t : TypeId} {v : Value} (ht : Try.prog.underlying t = some (.int k)) (h : RdT enc w base spare held t [v]) : ∃ n, v = .int k n := by
  obtain ⟨n, e, _⟩ := rd_int ht h
  exact ⟨n, by cases e; rfl⟩
theorem rd_ints {cs : List Value} (h : RdT enc w base spare held 47 cs) : ∃ (s : Sl) (xs : List Int), cs = [sV s] ∧ isInts (V.of w) s xs :=
  rd_slice u47 (by kernel_rfl) (fun a cs' hat hl hr => by
    obtain ⟨n, rfl, _⟩ := rd_int u3 hr
    exact ⟨n, by have := (rd_at hat hl).1; rwa [Addr.add_z] at this⟩) h
theorem rd_edges {cs : List Value} (h : RdT enc w base spare held 50 cs) : ∃ (s : Sl) (xs : List EdgeD), cs = [sV s] ∧ isEdges (V.of w) s xs :=
  rd_slice u50 (by kernel_rfl) (fun a cs' hat hl hr => by
    have f0 := rd_fieldT (j := 0) (o := 0) u74 (by kernel_rfl) (by kernel_rfl : Try.prog.cellsOf 3 = 1) hr
    have f1 := rd_fieldT (j := 1) (o := 1) u74 (by kernel_rfl) (by kernel_rfl : Try.prog.cellsOf 47 = 1) hr
    have hc := rd_at hat hl
    match cs', hl with
    | [x, y], _ =>
      obtain ⟨n, rfl⟩ := rd_one u3 f0
      obtain ⟨s, xs, e, hs⟩ := rd_ints f1
      cases e
      exact ⟨⟨n, xs⟩, s, hs, hc⟩) h
theorem rd_inss {cs : List Value} (h : RdT enc w base spare held 48 cs) : ∃ (s : Sl) (xs : List InsD), cs = [sV s] ∧ isInss (V.of w) s xs :=
  rd_slice u48 (by kernel_rfl) (fun a cs' hat hl hr => by
    have f0 := rd_fieldT (j := 0) (o := 0) u60 (by kernel_rfl) (by kernel_rfl : Try.prog.cellsOf 57 = 1) hr
    have f1 := rd_fieldT (j := 1) (o := 1) u60 (by kernel_rfl) (by kernel_rfl : Try.prog.cellsOf 3 = 1) hr
    have f2 := rd_fieldT (j := 2) (o := 2) u60 (by kernel_rfl) (by kernel_rfl : Try.prog.cellsOf 47 = 1) hr
    have f3 := rd_fieldT (j := 3) (o := 3) u60 (by kernel_rfl) (by kernel_rfl : Try.prog.cellsOf 2 = 1) hr
    have f4 := rd_fieldT (j := 4) (o := 4) u60 (by kernel_rfl) (by kernel_rfl : Try.prog.cellsOf 58 = 1) hr
    have f5 := rd_fieldT (j := 5) (o := 5) u60 (by kernel_rfl) (by kernel_rfl : Try.prog.cellsOf 3 = 1) hr
    have f6 := rd_fieldT (j := 6) (o := 6) u60 (by kernel_rfl) (by kernel_rfl : Try.prog.cellsOf 3 = 1) hr
    have hc := rd_at hat hl
    match cs', hl with
    | [x0, x1, x2, x3, x4, x5, x6], _ =>
      obtain ⟨n0, rfl⟩ := rd_one u57 f0
      obtain ⟨n1, rfl⟩ := rd_one u3 f1
      obtain ⟨s, xs, e, hs⟩ := rd_ints f2
      obtain ⟨n3, rfl⟩ := rd_one u2 f3
      obtain ⟨n4, rfl⟩ := rd_one u58 f4
      obtain ⟨n5, rfl⟩ := rd_one u3 f5
      obtain ⟨n6, rfl⟩ := rd_one u3 f6
      cases e
      exact ⟨⟨n0, n1, xs, n3, n4, n5, n6⟩, s, hs, hc⟩) h
theorem rd_blocks {cs : List Value} (h : RdT enc w base spare held 44 cs) : ∃ (s : Sl) (xs : List BlockD), cs = [sV s] ∧ isBlocks (V.of w) s xs :=
  rd_slice u44 (by kernel_rfl) (fun a cs' hat hl hr => by
    have f0 := rd_fieldT (j := 0) (o := 0) u55 (by kernel_rfl) (by kernel_rfl : Try.prog.cellsOf 47 = 1) hr
    have f1 := rd_fieldT (j := 1) (o := 1) u55 (by kernel_rfl) (by kernel_rfl : Try.prog.cellsOf 48 = 1) hr
    have f2 := rd_fieldT (j := 2) (o := 2) u55 (by kernel_rfl) (by kernel_rfl : Try.prog.cellsOf 53 = 4) hr
    have hc := rd_at hat hl
    match cs', hl with
    | [x0, x1, x2, x3, x4, x5], _ =>
      obtain ⟨s0, ps, e0, hs0⟩ := rd_ints f0
      obtain ⟨s1, is, e1, hs1⟩ := rd_inss f1
      have g0 := rd_fieldT (j := 0) (o := 0) u53 (by kernel_rfl) (by kernel_rfl : Try.prog.cellsOf 49 = 1) f2
      have g1 := rd_fieldT (j := 1) (o := 1) u53 (by kernel_rfl) (by kernel_rfl : Try.prog.cellsOf 3 = 1) f2
      have g2 := rd_fieldT (j := 2) (o := 2) u53 (by kernel_rfl) (by kernel_rfl : Try.prog.cellsOf 50 = 1) f2
      have g3 := rd_fieldT (j := 3) (o := 3) u53 (by kernel_rfl) (by kernel_rfl : Try.prog.cellsOf 51 = 1) f2
      obtain ⟨n0, rfl⟩ := rd_one u49 g0
      obtain ⟨n1, rfl⟩ := rd_one u3 g1
      obtain ⟨s2, ws, e2, hs2⟩ := rd_edges g2
      obtain ⟨n3, rfl⟩ := rd_one u51 g3
      cases e0
      cases e1
      cases e2
      exact ⟨⟨ps, is, ⟨n0, n1, ws, n3⟩⟩, s0, s1, s2, hs0, hs1, hs2, hc⟩) h
theorem rd_funcs {cs : List Value} (h : RdT enc w base spare held 23 cs) : ∃ (s : Sl) (xs : List FuncD), cs = [sV s] ∧ isFuncs (V.of w) s xs :=
  rd_slice u23 (by kernel_rfl) (fun a cs' hat hl hr => by
    have f0 := rd_fieldT (j := 0) (o := 0) u46 (by kernel_rfl) (by kernel_rfl : Try.prog.cellsOf 9 = 1) hr
    have f1 := rd_fieldT (j := 1) (o := 1) u46 (by kernel_rfl) (by kernel_rfl : Try.prog.cellsOf 44 = 1) hr
    have hc := rd_at hat hl
    match cs', hl with
    | [x, y], _ =>
      obtain ⟨n, e0⟩ := rd_string u9 f0
      obtain ⟨s, xs, e, hs⟩ := rd_blocks f1
      cases e0
      cases e
      exact ⟨⟨n, xs⟩, s, hs, hc⟩) h
theorem rd_arrs {cs : List Value} (h : RdT enc w base spare held 22 cs) : ∃ (s : Sl) (xs : List ArrD), cs = [sV s] ∧ isArrs (V.of w) s xs :=
  rd_slice u22 (by kernel_rfl) (fun a cs' hat hl hr => by
    have f0 := rd_fieldT (j := 0) (o := 0) u66 (by kernel_rfl) (by kernel_rfl : Try.prog.cellsOf 9 = 1) hr
    have f1 := rd_fieldT (j := 1) (o := 1) u66 (by kernel_rfl) (by kernel_rfl : Try.prog.cellsOf 64 = 1) hr
    have f2 := rd_fieldT (j := 2) (o := 2) u66 (by kernel_rfl) (by kernel_rfl : Try.prog.cellsOf 3 = 1) hr
    have hc := rd_at hat hl
    match cs', hl with
    | [x, y, z], _ =>
      obtain ⟨n, e0⟩ := rd_string u9 f0
      obtain ⟨n1, rfl⟩ := rd_one u64 f1
      obtain ⟨n2, rfl⟩ := rd_one u3 f2
      cases e0
      exact ⟨⟨n, n1, n2⟩, hc⟩) h
theorem rd_prog {cs : List Value} (h : RdT enc w base spare held 25 cs) : ∃ (sa sf : Sl) (p : ProgD), cs = [sV sa, sV sf, iV p.main] ∧ isArrs (V.of w) sa p.arrays ∧ isFuncs (V.of w) sf p.funcs := by
  have f0 := rd_fieldT (j := 0) (o := 0) u25 (by kernel_rfl) (by kernel_rfl : Try.prog.cellsOf 22 = 1) h
  have f1 := rd_fieldT (j := 1) (o := 1) u25 (by kernel_rfl) (by kernel_rfl : Try.prog.cellsOf 23 = 1) h
  have f2 := rd_fieldT (j := 2) (o := 2) u25 (by kernel_rfl) (by kernel_rfl : Try.prog.cellsOf 3 = 1) h
  have hl := len_T u25 (by kernel_rfl : Try.prog.cellsOf 25 = 3) h
  match cs, hl with
  | [x, y, z], _ =>
    obtain ⟨sa, as_, e0, ha⟩ := rd_arrs f0
    obtain ⟨sf, fs, e1, hf⟩ := rd_funcs f1
    obtain ⟨n, rfl⟩ := rd_one u3 f2
    cases e0
    cases e1
    exact ⟨sa, sf, ⟨as_, fs, n⟩, rfl, ha, hf⟩
end
end Go.Proofs.Ytaefmhephoilmaa

/- What a row reads of a slice of maps to truths. -/
namespace Go.Proofs.Ytaefmhephoilmaa
open Go Go.VL

theorem u4 : Try.prog.underlying 4 = some .bool := by kernel_rfl
section
variable {H : Type} {enc : TypeId × Value → H} {w : World} {base : Nat} {spare : Nat → Bool} {held : Bool}
def keyN : Value → Int
  | .int _ n => n
  | _ => 0
def valB : Value → Bool
  | .bool b => b
  | _ => false
theorem key_int {v : Value} {l : Lit} (h : keyOf Try.prog 3 v = some l) : v = .int .i64 (keyN v) := by
  unfold keyOf at h
  rw [u3] at h
  simp only at h
  unfold mapKey at h
  rw [u3] at h
  split at h <;> simp_all
  rfl
theorem val_bool {v : Value} {n : Nat} {x : DataW H × List MemPlace} (h : DataW.trod enc Try.prog w base spare held n 4 v.cells.toList = some x) (hv : v.formed Try.prog 4 = true) : v = .bool (valB v) := by
  cases n with
  | zero => simp [DataW.trod] at h
  | succ n =>
    unfold DataW.trod at h
    rw [u4] at h
    split at h <;> simp_all
    rename_i b _ hb
    cases v <;> simp [Value.cells] at hb
    · subst hb; rfl
    · simp [Value.formed, u4] at hv
theorem rd_cut {cs : List Value} (h : RdT enc w base spare held 29 cs) : ∃ (q : Option Nat) (f : Int → Bool), cs = [.map q] ∧ cutQ (V.of w) q f := by
  obtain ⟨fuel, x, h⟩ := h
  rcases WideElems.open_map u29 h with ⟨rfl, _⟩ | ⟨b, es, clk, n, _, rfl, hb, _, hfit, _⟩
  · exact ⟨none, fun _ => false, rfl, fun _ => rfl⟩
  · obtain ⟨s1, s2, s3⟩ := (MapKept.stamped_iff es clk).1 hfit.stamped
    have hent : ∀ x ∈ es.toList, x.key = .int .i64 (keyN x.key) ∧ x.val = .bool (valB x.val) := fun x hx => by
      obtain ⟨y, hy⟩ := hfit.reads x hx
      obtain ⟨z, hz, _⟩ := WideElems.rd_val hy
      unfold WideElems.elemAt at hz
      split at hz
      · rename_i hf
        exact ⟨key_int (WideElems.rd_key hy), val_bool hz hf⟩
      · cases hz
    have hm : MapRep .bool (.map es clk) (es.toList.map fun x => (keyN x.key, valB x.val)) := by
      refine ⟨?_, es, clk, rfl, ?_, s2, s1⟩
      · unfold mkeys
        rw [List.map_map]
        unfold List.Nodup
        rw [List.pairwise_map]
        refine s3.imp_of_mem fun {a b} ha hb hne e => hne ?_
        rw [(hent a ha).1, (hent b hb).1]
        exact congrArg (Value.int .i64) e
      · rw [List.map_map]
        refine List.map_congr_left fun x hx => ?_
        obtain ⟨e1, e2⟩ := hent x hx
        show (x.key, x.val) = (Value.int .i64 (keyN x.key), Kd.bool.mk (valB x.val))
        exact Prod.ext e1 e2
    exact ⟨some b, fun v => (mget (es.toList.map fun x => (keyN x.key, valB x.val)) v).getD false, rfl, _, _, hb, hm, fun _ => rfl⟩
theorem rd_cuts {cs : List Value} (h : RdT enc w base spare held 26 cs) : ∃ (s : Sl) (xs : List (Int → Bool)), cs = [sV s] ∧ isSl repCut 1 (V.of w) s xs :=
  rd_slice u26 (by kernel_rfl) (fun a cs' hat hl hr => by
    obtain ⟨q, f, rfl, hq⟩ := rd_cut hr
    exact ⟨f, q, by have := (rd_at hat hl).1; rwa [Addr.add_z] at this, hq⟩) h
end
end Go.Proofs.Ytaefmhephoilmaa

/- Contracts of package taint: the parts of Of. -/
namespace Go.Proofs.Ytaefmhephoilmaa
open Go Go.VL

theorem own_ne {hA hB hh : V} {s s' : Sl} {T T' : TypeId} {xs xs' : List Value} (o : OwnS hA hh s T 1 xs) (o' : OwnS hB hh s' T' 1 xs') (hT : T ≠ T') {a a' : Addr} (ha : s.a = some a) (ha' : s'.a = some a') : a.block ≠ a'.block := by
  obtain ⟨_, arr, h1⟩ := o.blk ha
  obtain ⟨_, arr', h2⟩ := o'.blk ha'
  intro e
  rw [e, h2] at h1
  cases h1; exact hT rfl
theorem own_box {hA hh : V} {s : Sl} {T T' : TypeId} {xs vs : List Value} {r : Nat} (o : OwnS hA hh s T 1 xs) (b : Box hh r vs T') (hT : T ≠ T') {a : Addr} (ha : s.a = some a) : a.block ≠ r := by
  obtain ⟨_, arr, h1⟩ := o.blk ha
  intro e
  unfold Box at b
  rw [e, b] at h1
  cases h1; exact hT rfl
theorem Box_st {hh : V} {r i : Nat} {vs : List Value} {T : TypeId} {v : Value} {K : V → Prop} (b : Box hh r vs T) (hi : i < vs.length) (hK : ∀ h', Box h' r (vs.set i v) T → (∀ q, q ≠ r → h' q = hh q) → K h') : StL hh (Addr.add ⟨r, 0, none⟩ i) 0 [v] K := by
  rw [add_at, Nat.zero_add]
  refine StL_at [v] _ 0 hh (by simp; omega) b (fun _ _ => rfl) fun h' ⟨arr', h1, h2, h3⟩ hf => hK h' ?_ hf
  unfold Box
  rw [h1]
  congr 1
  congr 1
  apply Array.ext'
  rw [h3]
  simp only [Nat.add_zero, List.length_cons, List.length_nil, Nat.zero_add]
  rw [List.set_eq_take_append_cons_drop, if_pos hi]
  simp
def L0 (p : ProgD) : LabF := fun t => match t with
  | .arr i => match p.arrays[i]? with
    | some a => if a.hold = 2 then 2 else 0
    | none => 0
  | _ => 0
structure LeastL (p : ProgD) (cut : CutF) (wr : List Bool) (L : LabF) : Prop where
  ge : LeL (L0 p) L
  le2 : ∀ t, L t ≤ 2
  closed : Closed (progCons p cut wr) L
  least : ∀ M, LeL (L0 p) M → Closed (progCons p cut wr) M → LeL L M

theorem imax_mono {a b c d : Int} (h : a ≤ c) (h' : b ≤ d) : imax a b ≤ imax c d := by unfold imax; split <;> split <;> omega
theorem imax_bd {a b c : Int} (h : a ≤ c) (h' : b ≤ c) : imax a b ≤ c := by unfold imax; split <;> omega
theorem valsOf_mono {f : Nat} {args : List Int} {L M : LabF} (h : LeL L M) : valsOf f args L ≤ valsOf f args M := by
  unfold valsOf
  suffices ∀ (a b : Int), a ≤ b → args.foldl (fun a v => imax a (L (.val f v))) a ≤ args.foldl (fun a v => imax a (M (.val f v))) b from this 0 0 (Int.le_refl _)
  induction args with
  | nil => exact fun a b h => h
  | cons v args ih =>
    intro a b hab
    exact ih _ _ (imax_mono hab (h _))
theorem valsOf_bd {f : Nat} {args : List Int} {L : LabF} (h : ∀ t, L t ≤ 2) : valsOf f args L ≤ 2 := by
  unfold valsOf
  suffices ∀ a : Int, a ≤ 2 → args.foldl (fun a v => imax a (L (.val f v))) a ≤ 2 from this 0 (by omega)
  induction args with
  | nil => exact fun a h => h
  | cons v args ih =>
    intro a ha
    exact ih _ (imax_bd ha (h _))
theorem staysD_bd {a : Int} (h : a ≤ 2) : staysD a ≤ 2 := by unfold staysD; split <;> omega
theorem cutS_mono {cut : CutF} {f : Nat} {v a b : Int} (h : a ≤ b) : cutS cut f v a ≤ cutS cut f v b := by unfold cutS; split; exact staysD_mono h; exact h
theorem cutS_bd {cut : CutF} {f : Nat} {v a : Int} (h : a ≤ 2) : cutS cut f v a ≤ 2 := by unfold cutS; split; exact staysD_bd h; exact h
theorem mayD_bd {wr : List Bool} {i : InsD} : mayD wr i ≤ 2 := by unfold mayD; repeat (split; · omega); omega

def Con.ok (c : Con) : Prop := c.mono ∧ c.bd
theorem parCons_ok {cut : CutF} {g : Nat} {ps : List Int} {src : Nat → LabF → Int} (hm : ∀ j L M, LeL L M → src j L ≤ src j M) (hb : ∀ j L, (∀ t, L t ≤ 2) → src j L ≤ 2) (k : Nat) : ∀ c ∈ parCons cut g ps src k, c.ok := by
  intro c hc
  obtain ⟨j, _, rfl⟩ := List.mem_map.1 hc
  exact ⟨fun L M h => cutS_mono (hm j L M h), fun L h => cutS_bd (hb j L h)⟩
theorem insCons_ok {p : ProgD} {cut : CutF} {wr : List Bool} {f : Nat} {i : InsD} : ∀ c ∈ insCons p cut wr f i, c.ok := by
  intro c hc
  unfold insCons at hc
  split at hc
  · rw [List.mem_singleton.1 hc]
    exact ⟨fun L M h => Int.le_refl _, fun L h => cutS_bd (by omega)⟩
  split at hc
  · rw [List.mem_singleton.1 hc]
    exact ⟨fun L M h => cutS_mono (valsOf_mono h), fun L h => cutS_bd (valsOf_bd h)⟩
  split at hc
  · rw [List.mem_singleton.1 hc]
    exact ⟨fun L M h => cutS_mono (imax_mono (imax_mono (h _) (valsOf_mono h)) (Int.le_refl _)), fun L h => cutS_bd (imax_bd (imax_bd (h _) (valsOf_bd h)) mayD_bd)⟩
  split at hc
  · rw [List.mem_singleton.1 hc]
    exact ⟨fun L M h => staysD_mono (valsOf_mono h), fun L h => staysD_bd (valsOf_bd h)⟩
  split at hc
  · rw [List.mem_singleton.1 hc]
    exact ⟨fun L M h => staysD_mono (h _), fun L h => staysD_bd (h _)⟩
  split at hc
  · rcases List.mem_append.1 hc with g | g
    · exact parCons_ok (src := fun j L => staysD (L (.val f (i.args.getD j 0)))) (fun j L M h => staysD_mono (h _)) (fun j L h => staysD_bd (h _)) _ c g
    · rw [List.mem_singleton.1 g]
      exact ⟨fun L M h => cutS_mono (h _), fun L h => cutS_bd (h _)⟩
  · cases hc
theorem blockCons_ok {p : ProgD} {cut : CutF} {wr : List Bool} {f : Nat} {b : BlockD} : ∀ c ∈ blockCons p cut wr f b, c.ok := by
  intro c hc
  unfold blockCons at hc
  rcases List.mem_append.1 hc with g | g
  · rcases List.mem_append.1 g with g | g
    · obtain ⟨i, _, g⟩ := List.mem_flatMap.1 g
      exact insCons_ok c g
    · obtain ⟨w, _, g⟩ := List.mem_flatMap.1 g
      unfold wayCons at g
      split at g
      · exact parCons_ok (src := fun j L => L (.val f (w.args.getD j 0))) (fun j L M h => h _) (fun j L h => h _) _ c g
      · cases g
  · unfold endCons at g
    split at g
    · rw [List.mem_singleton.1 g]
      exact ⟨fun L M h => staysD_mono (h _), fun L h => staysD_bd (h _)⟩
    · cases g
theorem progCons_ok {p : ProgD} {cut : CutF} {wr : List Bool} : ∀ c ∈ progCons p cut wr, c.ok := by
  intro c hc
  obtain ⟨f, _, g⟩ := List.mem_flatMap.1 hc
  obtain ⟨n, _, g⟩ := List.mem_flatMap.1 g
  split at g
  · split at g
    · exact blockCons_ok c g
    · cases g
  · cases g
end Go.Proofs.Ytaefmhephoilmaa

/- Plain: constraints without their cut; what more cut does. -/
namespace Go.Proofs.Ytaefmhephoilmaa
open Go Go.VL

def mkC (cut : CutF) (r : Con) : Con := ⟨r.tgt, fun L => match r.tgt with
  | .val g v => cutS cut g v (r.src L)
  | _ => staysD (r.src L)⟩
def parRaw (g : Nat) (ps : List Int) (src : Nat → LabF → Int) (k : Nat) : List Con := (List.range k).map fun j => ⟨.val g (ps.getD j 0), src j⟩
def insRaw (p : ProgD) (wr : List Bool) (f : Nat) (i : InsD) : List Con :=
  if i.op = 1 then [⟨.val f i.dst, fun _ => 0⟩]
  else if i.op = 2 then [⟨.val f i.dst, fun L => valsOf f i.args L⟩]
  else if i.op = 3 ∨ i.op = 5 then [⟨.val f i.dst, fun L => imax (imax (L (.arr i.arr.toNat)) (valsOf f i.args L)) (mayD wr i)⟩]
  else if i.op = 4 then [⟨.arr i.arr.toNat, fun L => valsOf f i.args L⟩]
  else if i.op = 6 then [⟨.arr i.arr.toNat, fun L => L (.val f (i.args.getD 1 0))⟩]
  else if i.op = 7 then parRaw i.fn.toNat (FuncD.at p i.fn.toNat).params (fun j L => staysD (L (.val f (i.args.getD j 0)))) (FuncD.at p i.fn.toNat).params.length ++ [⟨.val f i.dst, fun L => L (.ret i.fn.toNat)⟩]
  else []
def wayRaw (p : ProgD) (f : Nat) (w : EdgeD) : List Con := match (FuncD.at p f).blocks[w.to.toNat]? with
  | some b => parRaw f b.params (fun j L => L (.val f (w.args.getD j 0))) b.params.length
  | none => []
def endRaw (f : Nat) (e : EndD) : List Con := if e.kind = 3 then [⟨.ret f, fun L => L (.val f e.val)⟩] else []
def blockRaw (p : ProgD) (wr : List Bool) (f : Nat) (b : BlockD) : List Con := b.ins.flatMap (insRaw p wr f) ++ b.e.ways.flatMap (wayRaw p f) ++ endRaw f b.e
noncomputable def funcRaw (p : ProgD) (wr : List Bool) (f : Nat) : List Con :=
  (List.range (FuncD.at p f).blocks.length).flatMap fun n => if rchB (FuncD.at p f).blocks n = true then (match (FuncD.at p f).blocks[n]? with | some b => blockRaw p wr f b | none => []) else []
noncomputable def progRaw (p : ProgD) (wr : List Bool) : List Con := (List.range p.funcs.length).flatMap (funcRaw p wr)
theorem parCons_raw {cut : CutF} {g : Nat} {ps : List Int} {src : Nat → LabF → Int} {k : Nat} : parCons cut g ps src k = (parRaw g ps src k).map (mkC cut) := by
  unfold parCons parRaw
  rw [List.map_map]
  rfl
theorem insCons_raw {p : ProgD} {cut : CutF} {wr : List Bool} {f : Nat} {i : InsD} : insCons p cut wr f i = (insRaw p wr f i).map (mkC cut) := by
  unfold insCons insRaw
  split
  · rfl
  split
  · rfl
  split
  · rfl
  split
  · rfl
  split
  · rfl
  split
  · rw [List.map_append, parCons_raw]; rfl
  · rfl
theorem wayCons_raw {p : ProgD} {cut : CutF} {f : Nat} {w : EdgeD} : wayCons p cut f w = (wayRaw p f w).map (mkC cut) := by
  unfold wayCons wayRaw
  cases (FuncD.at p f).blocks[w.to.toNat]? with
  | some b => exact parCons_raw
  | none => rfl
theorem endCons_raw {cut : CutF} {f : Nat} {e : EndD} : endCons f e = (endRaw f e).map (mkC cut) := by
  unfold endCons endRaw
  split <;> rfl
theorem blockCons_raw {p : ProgD} {cut : CutF} {wr : List Bool} {f : Nat} {b : BlockD} : blockCons p cut wr f b = (blockRaw p wr f b).map (mkC cut) := by
  unfold blockCons blockRaw
  rw [List.map_append, List.map_append, List.map_flatMap, List.map_flatMap, ← endCons_raw]
  congr 2
  · congr 1; funext i; exact insCons_raw
  · congr 1; funext w; exact wayCons_raw
theorem progCons_raw {p : ProgD} {cut : CutF} {wr : List Bool} : progCons p cut wr = (progRaw p wr).map (mkC cut) := by
  unfold progCons progRaw
  rw [List.map_flatMap]
  congr 1
  funext f
  unfold funcCons funcRaw
  rw [List.map_flatMap]
  congr 1
  funext n
  split
  · cases (FuncD.at p f).blocks[n]? with
    | some b => exact blockCons_raw
    | none => rfl
  · rfl
theorem staysD_le (x : Int) : staysD x ≤ x := by unfold staysD; split <;> omega
theorem cutS_le {a b : CutF} (h : ∀ f v, a f v = true → b f v = true) (f : Nat) (v x : Int) : cutS b f v x ≤ cutS a f v x := by
  unfold cutS
  by_cases ha : a f v = true
  · rw [if_pos ha, if_pos (h f v ha)]; exact Int.le_refl _
  · rw [if_neg ha]
    split
    · exact staysD_le x
    · exact Int.le_refl _
theorem mkC_le {a b : CutF} (h : ∀ f v, a f v = true → b f v = true) (r : Con) (L : LabF) : (mkC b r).src L ≤ (mkC a r).src L := by
  obtain ⟨t, s⟩ := r
  cases t with
  | val g v => exact cutS_le h g v _
  | arr i => exact Int.le_refl _
  | ret f => exact Int.le_refl _
/- more cut, less labels -/
theorem more_cut {p : ProgD} {wr : List Bool} {a b : CutF} {A B : LabF} (hA : LeastL p a wr A) (hB : LeastL p b wr B) (h : ∀ f v, a f v = true → b f v = true) : LeL B A := by
  refine hB.least A hA.ge fun c hc => ?_
  rw [progCons_raw] at hc
  obtain ⟨r, hr, rfl⟩ := List.mem_map.1 hc
  have := hA.closed (mkC a r) (by rw [progCons_raw]; exact List.mem_map.2 ⟨r, hr, rfl⟩)
  exact Int.le_trans (mkC_le h r A) this
/- what raw constraints are like -/
structure RawOk (r : Con) : Prop where
  mono : r.mono
  bd : r.bd
  two : ∀ L N : LabF, (∀ t, N t < 2 → L t ≤ 1) → r.src N < 2 → r.src L ≤ 1
theorem valsOf_two {f : Nat} {args : List Int} {L N : LabF} (h : ∀ t, N t < 2 → L t ≤ 1) (hv : valsOf f args N < 2) : valsOf f args L ≤ 1 := by
  unfold valsOf at *
  suffices ∀ (a b : Int), a ≤ 1 → args.foldl (fun a v => imax a (N (.val f v))) b < 2 → args.foldl (fun a v => imax a (L (.val f v))) a ≤ 1 from this 0 0 (by omega) hv
  have grow : ∀ (l : List Int) (b : Int), b ≤ l.foldl (fun a v => imax a (N (.val f v))) b := by
    intro l
    induction l with
    | nil => exact fun b => Int.le_refl _
    | cons v l ih =>
      intro b
      refine Int.le_trans ?_ (ih (imax b (N (.val f v))))
      unfold imax; split <;> omega
  clear hv
  induction args with
  | nil => exact fun a b h _ => h
  | cons v args ih =>
    intro a b ha hb
    have h1 := grow args (imax b (N (.val f v)))
    have h2 : imax b (N (.val f v)) < 2 := Int.lt_of_le_of_lt h1 hb
    have h3 : N (.val f v) < 2 := by unfold imax at h2; split at h2 <;> omega
    exact ih _ _ (imax_bd ha (h _ h3)) hb
theorem staysD_two {a b : Int} (h : b < 2 → a ≤ 1) (hb : staysD b < 2) : staysD a ≤ 1 := by
  have : b < 2 := by unfold staysD at hb; split at hb <;> omega
  exact Int.le_trans (staysD_le a) (h this)
theorem parRaw_ok {g : Nat} {ps : List Int} {src : Nat → LabF → Int} (h : ∀ j, RawOk ⟨.val g 0, src j⟩) (k : Nat) : ∀ c ∈ parRaw g ps src k, RawOk c := by
  intro c hc
  obtain ⟨j, _, rfl⟩ := List.mem_map.1 hc
  exact ⟨(h j).mono, (h j).bd, (h j).two⟩
theorem mayD_one {wr : List Bool} {i : InsD} : mayD wr i ≤ 1 := by unfold mayD; repeat (split; · omega); omega
theorem insRaw_ok {p : ProgD} {wr : List Bool} {f : Nat} {i : InsD} : ∀ c ∈ insRaw p wr f i, RawOk c := by
  intro c hc
  unfold insRaw at hc
  split at hc
  · rw [List.mem_singleton.1 hc]
    exact ⟨fun L M h => Int.le_refl _, fun L h => by show (0 : Int) ≤ 2; omega, fun L N _ _ => by show (0 : Int) ≤ 1; omega⟩
  split at hc
  · rw [List.mem_singleton.1 hc]
    exact ⟨fun L M h => valsOf_mono h, fun L h => valsOf_bd h, fun L N h hv => valsOf_two h hv⟩
  split at hc
  · rw [List.mem_singleton.1 hc]
    refine ⟨fun L M h => imax_mono (imax_mono (h _) (valsOf_mono h)) (Int.le_refl _), fun L h => imax_bd (imax_bd (h _) (valsOf_bd h)) mayD_bd, fun L N h hv => ?_⟩
    have hv : imax (imax (N (.arr i.arr.toNat)) (valsOf f i.args N)) (mayD wr i) < 2 := hv
    have h1 : N (.arr i.arr.toNat) < 2 ∧ valsOf f i.args N < 2 := by
      unfold imax at hv
      split at hv <;> split at hv <;> omega
    exact imax_bd (imax_bd (h _ h1.1) (valsOf_two h h1.2)) mayD_one
  split at hc
  · rw [List.mem_singleton.1 hc]
    exact ⟨fun L M h => valsOf_mono h, fun L h => valsOf_bd h, fun L N h hv => valsOf_two h hv⟩
  split at hc
  · rw [List.mem_singleton.1 hc]
    exact ⟨fun L M h => h _, fun L h => h _, fun L N h hv => h _ hv⟩
  split at hc
  · rcases List.mem_append.1 hc with g | g
    · exact parRaw_ok (src := fun j L => staysD (L (.val f (i.args.getD j 0)))) (fun j => ⟨fun L M h => staysD_mono (h _), fun L h => staysD_bd (h _), fun L N h hv => staysD_two (h _) hv⟩) _ c g
    · rw [List.mem_singleton.1 g]
      exact ⟨fun L M h => h _, fun L h => h _, fun L N h hv => h _ hv⟩
  · cases hc
theorem progRaw_ok {p : ProgD} {wr : List Bool} : ∀ c ∈ progRaw p wr, RawOk c := by
  intro c hc
  obtain ⟨f, _, g⟩ := List.mem_flatMap.1 hc
  obtain ⟨n, _, g⟩ := List.mem_flatMap.1 g
  split at g
  · split at g
    · rename_i b _
      unfold blockRaw at g
      rcases List.mem_append.1 g with g | g
      · rcases List.mem_append.1 g with g | g
        · obtain ⟨i, _, g⟩ := List.mem_flatMap.1 g
          exact insRaw_ok c g
        · obtain ⟨w, _, g⟩ := List.mem_flatMap.1 g
          unfold wayRaw at g
          split at g
          · exact parRaw_ok (src := fun j L => L (.val f (w.args.getD j 0))) (fun j => ⟨fun L M h => h _, fun L h => h _, fun L N h hv => h _ hv⟩) _ c g
          · cases g
      · unfold endRaw at g
        split at g
        · rw [List.mem_singleton.1 g]
          exact ⟨fun L M h => h _, fun L h => h _, fun L N h hv => h _ hv⟩
        · cases g
    · cases g
  · cases g
end Go.Proofs.Ytaefmhephoilmaa

/- Plain: what is secret is so whatever is cut; with all cut nothing is transient. -/
namespace Go.Proofs.Ytaefmhephoilmaa
open Go Go.VL

theorem staysD_idem (x : Int) : staysD (staysD x) = staysD x := by unfold staysD; split <;> simp_all
theorem staysD_one {x : Int} (h : x ≤ 1) : staysD x ≤ 0 := by unfold staysD; split <;> omega
theorem L0_cases (p : ProgD) (t : Tgt) : L0 p t = 0 ∨ (L0 p t = 2 ∧ ∃ i, t = .arr i) := by
  cases t with
  | val f v => exact .inl rfl
  | ret f => exact .inl rfl
  | arr i =>
    unfold L0
    simp only
    split
    · split
      · exact .inr ⟨rfl, i, rfl⟩
      · exact .inl rfl
    · exact .inl rfl
def secM (D : LabF) : LabF := fun t => match t with
  | .val f v => if D (.val f v) = 2 then 2 else 1
  | .arr i => if D (.arr i) = 2 then 2 else 0
  | .ret f => if D (.ret f) = 2 then 2 else 0
theorem same_two {p : ProgD} {wr : List Bool} {a d : CutF} {A D : LabF} (hA : LeastL p a wr A) (hD : LeastL p d wr D) : ∀ t, A t = 2 → D t = 2 := by
  have hM2 : ∀ t, secM D t ≤ 2 := by intro t; cases t <;> (unfold secM; simp only; split <;> omega)
  have hM1 : ∀ t, D t < 2 → secM D t ≤ 1 := by
    intro t ht
    cases t <;> (unfold secM; simp only; rw [if_neg (by omega)]; omega)
  have hup : LeL (L0 p) (secM D) := by
    intro t
    rcases L0_cases p t with e | ⟨e, i, rfl⟩
    · rw [e]; cases t <;> (unfold secM; simp only; split <;> omega)
    · have := hD.ge (.arr i)
      have h2 := hD.le2 (.arr i)
      unfold secM; simp only
      rw [if_pos (by omega), e]
      exact Int.le_refl _
  have hcl : Closed (progCons p a wr) (secM D) := by
    intro c hc
    rw [progCons_raw] at hc
    obtain ⟨r, hr, rfl⟩ := List.mem_map.1 hc
    have ok := progRaw_ok r hr
    have hd := hD.closed (mkC d r) (by rw [progCons_raw]; exact List.mem_map.2 ⟨r, hr, rfl⟩)
    have b1 := ok.bd _ hM2
    have t2 := ok.two (secM D) D hM1
    obtain ⟨t, s⟩ := r
    simp only at b1 t2
    have hs : s D ≤ 2 := ok.bd D hD.le2
    cases t with
    | val g v =>
      have hd : cutS d g v (s D) ≤ D (.val g v) := hd
      show cutS a g v (s (secM D)) ≤ if D (.val g v) = 2 then 2 else 1
      have hle : cutS a g v (s (secM D)) ≤ s (secM D) := by unfold cutS; split; exact staysD_le _; exact Int.le_refl _
      by_cases h : s D < 2
      · have := t2 h
        split <;> omega
      · have e : s D = 2 := by omega
        rw [e] at hd
        have : cutS d g v 2 = 2 := by unfold cutS; split <;> rfl
        have h2 := hD.le2 (.val g v)
        rw [if_pos (by omega)]
        omega
    | arr i =>
      have hd : staysD (s D) ≤ D (.arr i) := hd
      show staysD (s (secM D)) ≤ if D (.arr i) = 2 then 2 else 0
      by_cases h : s D < 2
      · have := staysD_one (t2 h)
        split <;> omega
      · have e : s D = 2 := by omega
        rw [e] at hd
        have : staysD 2 = 2 := rfl
        have h2 := hD.le2 (.arr i)
        rw [if_pos (by omega)]
        exact staysD_bd b1
    | ret i =>
      have hd : staysD (s D) ≤ D (.ret i) := hd
      show staysD (s (secM D)) ≤ if D (.ret i) = 2 then 2 else 0
      by_cases h : s D < 2
      · have := staysD_one (t2 h)
        split <;> omega
      · have e : s D = 2 := by omega
        rw [e] at hd
        have : staysD 2 = 2 := rfl
        have h2 := hD.le2 (.ret i)
        rw [if_pos (by omega)]
        exact staysD_bd b1
  intro t ht
  have h1 := hA.least _ hup hcl t
  have h2 := hD.le2 t
  apply Classical.byContradiction
  intro hn
  have := hM1 t (by omega)
  omega
theorem no_one {p : ProgD} {wr : List Bool} {d : CutF} {D : LabF} (hD : LeastL p d wr D) (hall : ∀ r ∈ progRaw p wr, ∀ g v, r.tgt = .val g v → d g v = true) : ∀ t, D t ≠ 1 := by
  have hle : LeL (fun t => staysD (D t)) D := fun t => staysD_le _
  have hup : LeL (L0 p) (fun t => staysD (D t)) := by
    intro t
    rcases L0_cases p t with e | ⟨e, i, rfl⟩
    · have := hD.ge t
      rw [e] at this ⊢
      exact staysD_mono (a := 0) this
    · have := hD.ge (.arr i)
      rw [e] at this ⊢
      exact staysD_mono (a := 2) this
  have hcl : Closed (progCons p d wr) (fun t => staysD (D t)) := by
    intro c hc
    rw [progCons_raw] at hc
    obtain ⟨r, hr, rfl⟩ := List.mem_map.1 hc
    have ok := progRaw_ok r hr
    have ha := hall r hr
    have hd := hD.closed (mkC d r) (by rw [progCons_raw]; exact List.mem_map.2 ⟨r, hr, rfl⟩)
    have hm := ok.mono _ _ hle
    obtain ⟨t, s⟩ := r
    simp only at hm ha
    have key : staysD (s D) ≤ D t → staysD (s fun t => staysD (D t)) ≤ staysD (D t) := fun h => by
      have h1 := staysD_mono h
      rw [staysD_idem] at h1
      exact Int.le_trans (staysD_mono hm) h1
    cases t with
    | val g v =>
      have hc := ha g v rfl
      have hd : cutS d g v (s D) ≤ D (.val g v) := hd
      show cutS d g v (s fun t => staysD (D t)) ≤ staysD (D (.val g v))
      unfold cutS at hd ⊢
      rw [if_pos hc] at hd ⊢
      exact key hd
    | arr i => exact key hd
    | ret i => exact key hd
  intro t ht
  have h1 : D t ≤ staysD (D t) := hD.least _ hup hcl t
  rw [ht] at h1
  have : staysD 1 = 0 := rfl
  omega
end Go.Proofs.Ytaefmhephoilmaa

/- Plain: which values constraints speak of: those that are made. -/
namespace Go.Proofs.Ytaefmhephoilmaa
open Go Go.VL

def madeIn (f : FuncD) (v : Int) : Prop := ∃ b ∈ f.blocks, v ∈ b.params ∨ ∃ i ∈ b.ins, i.dst = v ∧ v > 0
theorem foldl_imax_ge : ∀ (l : List Int) (b : Int), b ≤ l.foldl imax b
  | [], b => Int.le_refl _
  | v :: l, b => Int.le_trans (by unfold imax; split <;> omega) (foldl_imax_ge l (imax b v))
theorem foldl_imax_mem : ∀ (l : List Int) (b v : Int), v ∈ l → v ≤ l.foldl imax b
  | [], _, _, h => by simp at h
  | x :: l, b, v, h => by
    rcases List.mem_cons.1 h with e | e
    · subst e; exact Int.le_trans (by unfold imax; split <;> omega) (foldl_imax_ge l (imax b v))
    · exact foldl_imax_mem l _ v e
theorem mostB_ge (n : Int) (b : BlockD) : n ≤ mostB n b := Int.le_trans (foldl_imax_ge b.params n) (foldl_imax_ge _ _)
theorem mostB_mem {n : Int} {b : BlockD} {v : Int} (h : v ∈ b.params ∨ ∃ i ∈ b.ins, i.dst = v) : v ≤ mostB n b := by
  rcases h with h | ⟨i, hi, rfl⟩
  · exact Int.le_trans (foldl_imax_mem b.params n v h) (foldl_imax_ge _ _)
  · exact foldl_imax_mem _ _ _ (List.mem_map.2 ⟨i, hi, rfl⟩)
theorem foldl_most_ge : ∀ (l : List BlockD) (n : Int), n ≤ l.foldl mostB n
  | [], n => Int.le_refl _
  | b :: l, n => Int.le_trans (mostB_ge n b) (foldl_most_ge l _)
theorem made_most {f : FuncD} {v : Int} (h : madeIn f v) : v ≤ FuncD.most f := by
  obtain ⟨b, hb, hv⟩ := h
  have hv : v ∈ b.params ∨ ∃ i ∈ b.ins, i.dst = v := by
    rcases hv with h | ⟨i, hi, e, _⟩
    · exact .inl h
    · exact .inr ⟨i, hi, e⟩
  unfold FuncD.most
  suffices ∀ (l : List BlockD) (n : Int), b ∈ l → v ≤ l.foldl mostB n from this _ _ hb
  intro l
  induction l with
  | nil => intro n h; simp at h
  | cons c l ih =>
    intro n h
    rcases List.mem_cons.1 h with e | e
    · subst e; exact Int.le_trans (mostB_mem hv) (foldl_most_ge l _)
    · exact ih _ e
theorem onceL_pos : ∀ {l : List Int} {s : Int → Bool}, (onceL s l).isSome = true → ∀ v ∈ l, v > 0
  | [], _, _, v, h => by simp at h
  | x :: l, s, ho, v, h => by
    unfold onceL at ho
    split at ho
    · cases ho
    · rename_i hn
      rcases List.mem_cons.1 h with e | e
      · subst e; omega
      · exact onceL_pos ho v e
theorem made_pos {p : ProgD} {f : FuncD} (ok : funcOk p f) {v : Int} (h : madeIn f v) : v > 0 := by
  obtain ⟨b, hb, hv⟩ := h
  rcases hv with h | ⟨i, _, _, h⟩
  · have h3 : onceD f.blocks = true := ok.2.2.1
    unfold onceD at h3
    exact onceL_pos h3 v (List.mem_flatMap.2 ⟨b, hb, List.mem_append_left _ h⟩)
  · exact h
theorem right_dst {p : ProgD} {i : InsD} (h : rightD p i = true) (ho : i.op = 1 ∨ i.op = 2 ∨ i.op = 3 ∨ i.op = 5 ∨ i.op = 7) : i.dst > 0 := by
  unfold rightD at h
  split at h
  · cases h
  split at h
  · cases h
  split at h
  · cases h
  rename_i hn
  have e : (shapeD i.op).2 = true := by
    rcases ho with e | e | e | e | e <;> (rw [e]; rfl)
  rw [e] at hn
  apply Classical.byContradiction
  intro x
  exact hn (by simp [x])
theorem parRaw_tgt {g : Nat} {ps : List Int} {src : Nat → LabF → Int} {g' : Nat} {v : Int} : ∀ c ∈ parRaw g ps src ps.length, c.tgt = .val g' v → g' = g ∧ v ∈ ps := by
  intro c hc e
  obtain ⟨j, hj, rfl⟩ := List.mem_map.1 hc
  have hj : j < ps.length := by simpa using hj
  cases e
  exact ⟨rfl, by rw [getD_lt hj]; exact List.getElem_mem hj⟩
theorem raw_made {p : ProgD} {wr : List Bool} (ok : CheckOk p) : ∀ r ∈ progRaw p wr, ∀ g v, r.tgt = .val g v → ∃ hg : g < p.funcs.length, madeIn p.funcs[g] v := by
  intro c hc g v e
  obtain ⟨f, hf, hc⟩ := List.mem_flatMap.1 hc
  have hf : f < p.funcs.length := by simpa using hf
  obtain ⟨n, _, hc⟩ := List.mem_flatMap.1 hc
  rw [FuncD.at_eq hf] at hc
  have hfo := ok.funcs _ (List.getElem_mem hf)
  split at hc
  case isFalse => cases hc
  split at hc
  case h_2 => cases hc
  rename_i b hb
  have hbm : b ∈ p.funcs[f].blocks := List.mem_of_getElem? hb
  have hbo := hfo.2.2.2.1 b hbm
  unfold blockRaw at hc
  rcases List.mem_append.1 hc with hc | hc
  · rcases List.mem_append.1 hc with hc | hc
    · obtain ⟨i, hi, hc⟩ := List.mem_flatMap.1 hc
      have hr := hbo.2 i hi
      have dst : (i.op = 1 ∨ i.op = 2 ∨ i.op = 3 ∨ i.op = 5 ∨ i.op = 7) → madeIn p.funcs[f] i.dst := fun ho => ⟨b, hbm, .inr ⟨i, hi, rfl, right_dst hr ho⟩⟩
      unfold insRaw at hc
      split at hc
      · rw [List.mem_singleton.1 hc] at e; cases e; exact ⟨hf, dst (by omega)⟩
      split at hc
      · rw [List.mem_singleton.1 hc] at e; cases e; exact ⟨hf, dst (by omega)⟩
      split at hc
      · rw [List.mem_singleton.1 hc] at e; cases e; exact ⟨hf, dst (by omega)⟩
      split at hc
      · rw [List.mem_singleton.1 hc] at e; cases e
      split at hc
      · rw [List.mem_singleton.1 hc] at e; cases e
      split at hc
      · rename_i h7
        rcases List.mem_append.1 hc with hc | hc
        · obtain ⟨rfl, hv⟩ := parRaw_tgt c hc e
          obtain ⟨_, hlt, _⟩ := right_call hr h7
          rw [FuncD.at_eq hlt] at hv
          refine ⟨hlt, ?_⟩
          unfold FuncD.params at hv
          split at hv
          · simp at hv
          · rename_i b0 bs hb0
            exact ⟨b0, by rw [hb0]; simp, .inl hv⟩
        · rw [List.mem_singleton.1 hc] at e; cases e; exact ⟨hf, dst (by omega)⟩
      · cases hc
    · obtain ⟨w, hw, hc⟩ := List.mem_flatMap.1 hc
      unfold wayRaw at hc
      rw [FuncD.at_eq hf] at hc
      split at hc
      · rename_i b2 hb2
        obtain ⟨rfl, hv⟩ := parRaw_tgt c hc e
        exact ⟨hf, b2, List.mem_of_getElem? hb2, .inl hv⟩
      · cases hc
  · unfold endRaw at hc
    split at hc
    · rw [List.mem_singleton.1 hc] at e; cases e
    · cases hc
end Go.Proofs.Ytaefmhephoilmaa

/- Plain: facts that are found by going on, round by round, and the least labels. -/
namespace Go.Proofs.Ytaefmhephoilmaa
open Go Go.VL

abbrev BF := Tgt → Bool
def putB (B : BF) (t : Tgt) (x : Bool) : BF := fun u => if u = t then x else B u
theorem putB_self (B : BF) (t : Tgt) (x : Bool) : putB B t x t = x := by simp [putB]
theorem putB_ne {B : BF} {t u : Tgt} {x : Bool} (h : u ≠ t) : putB B t x u = B u := by simp [putB, h]
theorem putB_same {B : BF} {t : Tgt} {x : Bool} (h : B t = x) : putB B t x = B := funext fun u => by
  by_cases e : u = t
  · subst e; rw [putB_self, h]
  · exact putB_ne e
structure BCon where
  tgt : Tgt
  src : BF → Bool
def stepB (B : BF) (c : BCon) : BF := putB B c.tgt (B c.tgt || c.src B)
def runB (cs : List BCon) (B : BF) : BF := cs.foldl stepB B
theorem runB_append (cs bs : List BCon) (B : BF) : runB (cs ++ bs) B = runB bs (runB cs B) := List.foldl_append
theorem runB_one (c : BCon) (B : BF) : runB [c] B = stepB B c := rfl
theorem runB_nil (B : BF) : runB [] B = B := rfl
def roundB (cs : List BCon) : Nat → BF → BF
  | 0, B => B
  | n + 1, B => runB cs (roundB cs n B)
def LeB (A B : BF) : Prop := ∀ t, A t = true → B t = true
theorem LeB.refl (B : BF) : LeB B B := fun _ h => h
theorem stepB_ge (B : BF) (c : BCon) : LeB B (stepB B c) := fun t h => by
  unfold stepB
  by_cases e : t = c.tgt
  · subst e; rw [putB_self, h]; rfl
  · rw [putB_ne e]; exact h
theorem runB_ge : ∀ (cs : List BCon) (B : BF), LeB B (runB cs B)
  | [], B => LeB.refl B
  | c :: cs, B => fun t h => runB_ge cs (stepB B c) t (stepB_ge B c t h)
theorem roundB_ge (cs : List BCon) (B : BF) : ∀ n, LeB B (roundB cs n B)
  | 0 => LeB.refl B
  | n + 1 => fun t h => runB_ge cs _ t (roundB_ge cs B n t h)
def cntB (T : List Tgt) (B : BF) : Nat := (T.filter B).length
theorem cntB_le {T : List Tgt} {A B : BF} (h : LeB A B) : cntB T A ≤ cntB T B := by
  unfold cntB
  induction T with
  | nil => exact Nat.le_refl _
  | cons t T ih =>
    rw [List.filter_cons, List.filter_cons]
    by_cases ha : A t = true
    · rw [if_pos ha, if_pos (h t ha)]
      simp only [List.length_cons]; omega
    · rw [if_neg ha]
      split
      · simp only [List.length_cons]; omega
      · exact ih
theorem cntB_lt {T : List Tgt} {A B : BF} (h : LeB A B) {t : Tgt} (ht : t ∈ T) (ha : A t = false) (hb : B t = true) : cntB T A < cntB T B := by
  induction T with
  | nil => simp at ht
  | cons u T ih =>
    have hle := cntB_le (T := T) h
    unfold cntB at *
    rw [List.filter_cons, List.filter_cons]
    by_cases e : u = t
    · subst e
      rw [if_neg (by rw [ha]; simp), if_pos hb]
      simp only [List.length_cons]; omega
    · have ht' : t ∈ T := by
        rcases List.mem_cons.1 ht with g | g
        · exact absurd g.symm e
        · exact g
      have := ih ht'
      by_cases hu : A u = true
      · rw [if_pos hu, if_pos (h u hu)]
        simp only [List.length_cons]; omega
      · rw [if_neg hu]
        split
        · simp only [List.length_cons]; omega
        · exact this
theorem runB_cnt {T : List Tgt} : ∀ (cs : List BCon) (B : BF), (∀ c ∈ cs, c.tgt ∈ T) → (runB cs B = B ∧ ∀ c ∈ cs, c.src B = true → B c.tgt = true) ∨ cntB T B < cntB T (runB cs B)
  | [], B, _ => .inl ⟨rfl, fun c hc => by simp at hc⟩
  | c :: cs, B, hT => by
    have hcT := hT c List.mem_cons_self
    by_cases g : c.src B = true → B c.tgt = true
    · have e : stepB B c = B := putB_same (by
        cases hs : c.src B with
        | false => rw [Bool.or_false]
        | true => rw [g hs]; rfl)
      have e2 : runB (c :: cs) B = runB cs B := by show runB cs (stepB B c) = _; rw [e]
      rw [e2]
      rcases runB_cnt cs B (fun c' h' => hT c' (List.mem_cons_of_mem _ h')) with ⟨h1, h2⟩ | h
      · refine .inl ⟨h1, fun c' hc' => ?_⟩
        rcases List.mem_cons.1 hc' with e' | e'
        · subst e'; exact g
        · exact h2 c' e'
      · exact .inr h
    · have hs : c.src B = true := by
        cases hs : c.src B with
        | false => exact absurd (fun h => by rw [hs] at h; cases h) g
        | true => rfl
      have hb : B c.tgt = false := by
        cases hb : B c.tgt with
        | false => rfl
        | true => exact absurd (fun _ => hb) g
      refine .inr ?_
      have h1 : (stepB B c) c.tgt = true := by unfold stepB; rw [putB_self, hs, Bool.or_true]
      exact Nat.lt_of_lt_of_le (cntB_lt (stepB_ge B c) hcT hb h1) (cntB_le (runB_ge cs (stepB B c)))
theorem roundB_grow {T : List Tgt} {cs : List BCon} (hT : ∀ c ∈ cs, c.tgt ∈ T) (B : BF) : ∀ n, (runB cs (roundB cs n B) = roundB cs n B) ∨ n < cntB T (roundB cs n B) + 1
  | 0 => .inr (Nat.succ_pos _)
  | n + 1 => by
    rcases roundB_grow hT B n with h | h
    · left
      show runB cs (runB cs (roundB cs n B)) = runB cs (roundB cs n B)
      rw [h, h]
    · rcases runB_cnt cs (roundB cs n B) hT with ⟨h1, _⟩ | h1
      · left
        show runB cs (runB cs (roundB cs n B)) = runB cs (roundB cs n B)
        rw [h1, h1]
      · right
        show n + 1 < cntB T (runB cs (roundB cs n B)) + 1
        omega
/- so many rounds are enough -/
theorem roundB_fix {T : List Tgt} {cs : List BCon} (hT : ∀ c ∈ cs, c.tgt ∈ T) (B : BF) {n : Nat} (hn : T.length < n) : ∀ c ∈ cs, c.src (roundB cs n B) = true → roundB cs n B c.tgt = true := by
  have hle : cntB T (roundB cs n B) ≤ T.length := List.length_filter_le _ _
  rcases roundB_grow hT B n with h | h
  · rcases runB_cnt cs (roundB cs n B) hT with ⟨_, h2⟩ | h1
    · exact h2
    · rw [h] at h1; omega
  · omega
/- what stays below labels -/
def inB (B : BF) (P : Tgt → Prop) : Prop := ∀ t, B t = true → P t
theorem roundB_in {cs : List BCon} {P : Tgt → Prop} (hc : ∀ c ∈ cs, ∀ B, inB B P → c.src B = true → P c.tgt) {B : BF} (h : inB B P) : ∀ n, inB (roundB cs n B) P
  | 0 => h
  | n + 1 => by
    have step : ∀ (l : List BCon) (A : BF), (∀ c ∈ l, c ∈ cs) → inB A P → inB (runB l A) P := by
      intro l
      induction l with
      | nil => exact fun A _ h => h
      | cons c l ih =>
        intro A hl hA
        refine ih (stepB A c) (fun c' h' => hl c' (List.mem_cons_of_mem _ h')) fun t ht => ?_
        unfold stepB at ht
        by_cases e : t = c.tgt
        · subst e
          rw [putB_self, Bool.or_eq_true] at ht
          rcases ht with g | g
          · exact hA _ g
          · exact hc c (hl c List.mem_cons_self) A hA g
        · rw [putB_ne e] at ht; exact hA t ht
    exact step cs _ (fun _ h => h) (roundB_in hc h n)
def markM (D B : BF) : LabF := fun t => if D t = true then 2 else if B t = true then 1 else 0
theorem markM_bd (D B : BF) (t : Tgt) : markM D B t ≤ 2 := by unfold markM; split; omega; split <;> omega
def conB (lv : Int) (D : BF → BF) (c : Con) : BCon := ⟨c.tgt, fun B => decide (lv ≤ c.src (markM (D B) B))⟩
def startB (p : ProgD) : BF := fun t => decide (L0 p t = 2)
noncomputable def highB (p : ProgD) (cut : CutF) (n : Nat) : BF := roundB ((progCons p cut (writesD p)).map (conB 2 fun B => B)) n (startB p)
noncomputable def lowB (p : ProgD) (cut : CutF) (n : Nat) : BF := roundB ((progCons p cut (writesD p)).map (conB 1 fun _ => highB p cut n)) n (startB p)

theorem markM_le {D B : BF} {L : LabF} (h0 : ∀ t, 0 ≤ L t) (hD : ∀ t, D t = true → L t = 2) (hB : ∀ t, B t = true → 1 ≤ L t) : LeL (markM D B) L := fun t => by
  have := h0 t
  unfold markM
  split
  · rw [hD t (by assumption)]; omega
  · split
    · exact hB t (by assumption)
    · exact this
section
variable {p : ProgD} {cut : CutF} {L : LabF} {T : List Tgt} {n : Nat}
theorem LeastL.nn {wr : List Bool} (hL : LeastL p cut wr L) (t : Tgt) : 0 ≤ L t := by
  have := hL.ge t
  rcases L0_cases p t with e | ⟨e, _⟩ <;> omega
theorem high_in (hL : LeastL p cut (writesD p) L) : ∀ t, highB p cut n t = true → L t = 2 := by
  refine roundB_in (P := fun t => L t = 2) (fun c hc B hB hs => ?_) (fun t ht => ?_) n
  · obtain ⟨d, hd, rfl⟩ := List.mem_map.1 hc
    have hs : 2 ≤ d.src (markM B B) := of_decide_eq_true hs
    have h1 := (progCons_ok d hd).1 _ _ (markM_le hL.nn hB fun t h => by rw [hB t h]; omega)
    have h2 := hL.closed d hd
    have h3 := hL.le2 d.tgt
    show L d.tgt = 2
    omega
  · have e : L0 p t = 2 := of_decide_eq_true ht
    have h1 := hL.ge t
    have h2 := hL.le2 t
    show L t = 2
    omega
theorem high_all (hL : LeastL p cut (writesD p) L) (hT : ∀ c ∈ progCons p cut (writesD p), c.tgt ∈ T) (hn : T.length < n) : ∀ t, L t = 2 → highB p cut n t = true := by
  have hfix := roundB_fix (T := T) (cs := (progCons p cut (writesD p)).map (conB 2 fun B => B)) (fun c hc => by obtain ⟨d, hd, rfl⟩ := List.mem_map.1 hc; exact hT d hd) (startB p) hn
  have hin := high_in (n := n) hL
  have hge := roundB_ge ((progCons p cut (writesD p)).map (conB 2 fun B => B)) (startB p) n
  unfold highB at *
  generalize roundB ((progCons p cut (writesD p)).map (conB 2 fun B => B)) n (startB p) = B at *
  let N : LabF := fun t => if B t = true then 2 else if L t = 0 then 0 else 1
  have hNL : LeL N L := fun t => by
    have := hL.nn t
    show (if B t = true then 2 else if L t = 0 then 0 else 1) ≤ L t
    split
    · rw [hin t (by assumption)]; omega
    · split <;> omega
  have hup : LeL (L0 p) N := fun t => by
    rcases L0_cases p t with e | ⟨e, _⟩
    · rw [e]
      show (0 : Int) ≤ if B t = true then 2 else if L t = 0 then 0 else 1
      split
      · omega
      · split <;> omega
    · have : B t = true := hge t (decide_eq_true e)
      show L0 p t ≤ if B t = true then 2 else if L t = 0 then 0 else 1
      rw [if_pos this, e]; omega
  have hcl : Closed (progCons p cut (writesD p)) N := fun c hc => by
    have h2 := hL.closed c hc
    have h1 := (progCons_ok c hc).1 _ _ hNL
    have h3 := hL.le2 c.tgt
    have hbd := (progCons_ok c hc).2 N fun t => Int.le_trans (hNL t) (hL.le2 t)
    show c.src N ≤ if B c.tgt = true then 2 else if L c.tgt = 0 then 0 else 1
    split
    · exact hbd
    rename_i hb
    have hsrc : c.src (markM B B) < 2 := by
      apply Classical.byContradiction
      intro hx
      exact hb (hfix _ (List.mem_map.2 ⟨c, hc, rfl⟩) (decide_eq_true (show (2 : Int) ≤ c.src (markM B B) by omega)))
    have hle1 : c.src N ≤ 1 := by
      rw [progCons_raw] at hc
      obtain ⟨r, hr, rfl⟩ := List.mem_map.1 hc
      have ok := progRaw_ok r hr
      have two := ok.two N (markM B B) fun t ht => by
        show (if B t = true then 2 else if L t = 0 then 0 else 1) ≤ (1 : Int)
        have hbt : ¬ B t = true := fun e => by unfold markM at ht; rw [if_pos e] at ht; omega
        rw [if_neg hbt]
        split <;> omega
      have hbd2 := ok.bd (markM B B) (markM_bd B B)
      obtain ⟨t, s⟩ := r
      have st : ∀ x y : Int, (x < 2 → y ≤ 1) → x ≤ 2 → staysD x < 2 → staysD y ≤ 1 := fun x y h hx hs => by
        have : x < 2 := by
          unfold staysD at hs
          split at hs <;> omega
        exact Int.le_trans (staysD_le y) (h this)
      cases t with
      | val g v =>
        have hsrc : cutS cut g v (s (markM B B)) < 2 := hsrc
        show cutS cut g v (s N) ≤ 1
        unfold cutS at *
        split at hsrc
        · rename_i hcut
          rw [if_pos hcut]; exact st _ _ two hbd2 hsrc
        · rename_i hcut
          rw [if_neg hcut]; exact two hsrc
      | arr i => exact st _ _ two hbd2 hsrc
      | ret i => exact st _ _ two hbd2 hsrc
    split <;> omega
  intro t ht
  have h1 := hL.least N hup hcl t
  apply Classical.byContradiction
  intro hb
  have : N t ≤ 1 := by
    show (if B t = true then 2 else if L t = 0 then 0 else 1) ≤ (1 : Int)
    rw [if_neg hb]
    split <;> omega
  omega
theorem high_is (hL : LeastL p cut (writesD p) L) (hT : ∀ c ∈ progCons p cut (writesD p), c.tgt ∈ T) (hn : T.length < n) (t : Tgt) : highB p cut n t = true ↔ L t = 2 := ⟨high_in hL t, high_all hL hT hn t⟩
theorem low_in (hL : LeastL p cut (writesD p) L) : ∀ t, lowB p cut n t = true → 1 ≤ L t := by
  refine roundB_in (P := fun t => 1 ≤ L t) (fun c hc B hB hs => ?_) (fun t ht => ?_) n
  · obtain ⟨d, hd, rfl⟩ := List.mem_map.1 hc
    have hs : 1 ≤ d.src (markM (highB p cut n) B) := of_decide_eq_true hs
    have h1 := (progCons_ok d hd).1 _ _ (markM_le hL.nn (high_in (n := n) hL) hB)
    have h2 := hL.closed d hd
    show 1 ≤ L d.tgt
    omega
  · have e : L0 p t = 2 := of_decide_eq_true ht
    have h1 := hL.ge t
    show 1 ≤ L t
    omega
theorem low_all (hL : LeastL p cut (writesD p) L) (hT : ∀ c ∈ progCons p cut (writesD p), c.tgt ∈ T) (hn : T.length < n) : ∀ t, 1 ≤ L t → L t = 2 ∨ lowB p cut n t = true := by
  have hfix := roundB_fix (T := T) (cs := (progCons p cut (writesD p)).map (conB 1 fun _ => highB p cut n)) (fun c hc => by obtain ⟨d, hd, rfl⟩ := List.mem_map.1 hc; exact hT d hd) (startB p) hn
  have hin := low_in (n := n) hL
  have hh := high_is (n := n) hL hT hn
  unfold lowB at *
  generalize roundB ((progCons p cut (writesD p)).map (conB 1 fun _ => highB p cut n)) n (startB p) = B at *
  have hNL : LeL (markM (highB p cut n) B) L := markM_le hL.nn (fun t h => (hh t).1 h) hin
  have hup : LeL (L0 p) (markM (highB p cut n) B) := fun t => by
    unfold markM
    rcases L0_cases p t with e | ⟨e, _⟩
    · rw [e]
      split
      · omega
      · split <;> omega
    · have h1 := hL.ge t
      have h2 := hL.le2 t
      rw [if_pos ((hh t).2 (by omega)), e]; omega
  have hcl : Closed (progCons p cut (writesD p)) (markM (highB p cut n) B) := fun c hc => by
    have h1 := (progCons_ok c hc).1 _ _ hNL
    have h2 := hL.closed c hc
    have h3 := hL.le2 c.tgt
    have hf := hfix _ (List.mem_map.2 ⟨c, hc, rfl⟩)
    show c.src (markM (highB p cut n) B) ≤ if highB p cut n c.tgt = true then 2 else if B c.tgt = true then 1 else 0
    split
    · omega
    · rename_i hg
      have : L c.tgt ≠ 2 := fun e => hg ((hh _).2 e)
      split
      · omega
      · rename_i hb
        apply Classical.byContradiction
        intro hx
        exact hb (hf (decide_eq_true (show (1 : Int) ≤ c.src (markM (highB p cut n) B) by omega)))
  intro t ht
  have h1 := hL.least _ hup hcl t
  by_cases h2 : highB p cut n t = true
  · exact .inl ((hh t).1 h2)
  · by_cases h3 : B t = true
    · exact .inr h3
    · unfold markM at h1
      rw [if_neg h2, if_neg h3] at h1
      omega
def levelB (a b : Bool) : Int := if b = true then 2 else if a = true then 1 else 0
theorem level_val (hL : LeastL p cut (writesD p) L) (hT : ∀ c ∈ progCons p cut (writesD p), c.tgt ∈ T) (hn : T.length < n) (t : Tgt) : levelB (lowB p cut n t) (highB p cut n t) = L t := by
  have h0 := hL.nn t
  have h2 := hL.le2 t
  unfold levelB
  split
  · rename_i h; exact ((high_is hL hT hn t).1 h).symm
  · rename_i h
    have hne : L t ≠ 2 := fun e => h ((high_is hL hT hn t).2 e)
    split
    · rename_i hl
      have := low_in hL t hl
      omega
    · rename_i hl
      apply Classical.byContradiction
      intro hx
      rcases low_all hL hT hn t (by omega) with e | e
      · exact hne e
      · exact hl e
theorem not_one (hL : LeastL p cut (writesD p) L) (t : Tgt) (ht : ∀ f v, t ≠ .val f v) : L t ≠ 1 := by
  let N : LabF := fun t => match t with
    | .val f v => L (.val f v)
    | t => staysD (L t)
  have hNL : LeL N L := fun t => by
    cases t with
    | val f v => exact Int.le_refl _
    | arr i => exact staysD_le _
    | ret i => exact staysD_le _
  have hup : LeL (L0 p) N := fun t => by
    have h1 := hL.ge t
    have h2 := hL.le2 t
    cases t with
    | val f v => exact h1
    | arr i =>
      show L0 p (.arr i) ≤ staysD (L (.arr i))
      rcases L0_cases p (.arr i) with e | ⟨e, _⟩
      · rw [e]; rw [e] at h1; unfold staysD; split <;> omega
      · have : L (.arr i) = 2 := by omega
        rw [e, this]; decide
    | ret i =>
      show (0 : Int) ≤ staysD (L (.ret i))
      have := hL.nn (.ret i)
      unfold staysD; split <;> omega
  have hcl : Closed (progCons p cut (writesD p)) N := fun c hc => by
    have h1 := (progCons_ok c hc).1 _ _ hNL
    have h2 := hL.closed c hc
    rw [progCons_raw] at hc
    obtain ⟨r, hr, rfl⟩ := List.mem_map.1 hc
    obtain ⟨t, s⟩ := r
    cases t with
    | val f v => exact Int.le_trans h1 h2
    | arr i =>
      have h1 : staysD (s N) ≤ staysD (s L) := h1
      have h2 : staysD (s L) ≤ L (.arr i) := h2
      show staysD (s N) ≤ staysD (L (.arr i))
      have h4 : staysD (staysD (s N)) = staysD (s N) := staysD_idem _
      rw [← h4]
      exact staysD_mono (Int.le_trans h1 h2)
    | ret i =>
      have h1 : staysD (s N) ≤ staysD (s L) := h1
      have h2 : staysD (s L) ≤ L (.ret i) := h2
      show staysD (s N) ≤ staysD (L (.ret i))
      have h4 : staysD (staysD (s N)) = staysD (s N) := staysD_idem _
      rw [← h4]
      exact staysD_mono (Int.le_trans h1 h2)
  intro e
  have h := hL.least N hup hcl t
  cases t with
  | val f v => exact ht f v rfl
  | arr i =>
    have h : L (.arr i) ≤ staysD (L (.arr i)) := h
    rw [e] at h
    exact absurd h (by decide)
  | ret i =>
    have h : L (.ret i) ≤ staysD (L (.ret i)) := h
    rw [e] at h
    exact absurd h (by decide)
theorem level_other (hL : LeastL p cut (writesD p) L) (hT : ∀ c ∈ progCons p cut (writesD p), c.tgt ∈ T) (hn : T.length < n) (t : Tgt) (ht : ∀ f v, t ≠ .val f v) : levelB false (highB p cut n t) = L t := by
  have h0 := hL.nn t
  have h2 := hL.le2 t
  have h1 := not_one hL t ht
  unfold levelB
  split
  · rename_i h; exact ((high_is hL hT hn t).1 h).symm
  · rename_i h
    have hne : L t ≠ 2 := fun e => h ((high_is hL hT hn t).2 e)
    rw [if_neg (by simp)]
    omega
end
/- the facts there are -/
def insDst (b : BlockD) : List Int := b.params ++ b.ins.map InsD.dst
def factsOf (p : ProgD) : List Tgt := ((List.range p.funcs.length).flatMap fun f => .ret f :: (FuncD.at p f).blocks.flatMap fun b => (insDst b).map (Tgt.val f)) ++ (List.range p.arrays.length).map Tgt.arr
def partsF (f : FuncD) : Nat := 1 + (f.blocks.map fun b => b.params.length + b.ins.length).sum
def partsP (p : ProgD) : Nat := (p.funcs.map partsF).sum
theorem flat_sum {α β : Type} {g : α → List β} : ∀ l : List α, (l.flatMap g).length = (l.map fun x => (g x).length).sum
  | [] => rfl
  | x :: l => by rw [List.flatMap_cons, List.length_append, List.map_cons, List.sum_cons, flat_sum l]
theorem facts_len (p : ProgD) : (factsOf p).length = partsP p + p.arrays.length := by
  unfold factsOf partsP
  rw [List.length_append, List.length_map, List.length_range, flat_sum]
  congr 2
  apply List.ext_getElem?
  intro k
  rw [List.getElem?_map, List.getElem?_map]
  by_cases hk : k < p.funcs.length
  · rw [List.getElem?_range hk, List.getElem?_eq_getElem hk]
    simp only [Option.map_some]
    congr 1
    rw [List.length_cons, flat_sum, FuncD.at_eq hk]
    unfold partsF
    rw [Nat.add_comm]
    congr 2
    apply List.map_congr_left
    intro b _
    simp [insDst]
  · rw [List.getElem?_eq_none (by simpa using hk), List.getElem?_eq_none (by omega)]; rfl
theorem raw_facts {p : ProgD} {wr : List Bool} (ok : CheckOk p) : ∀ r ∈ progRaw p wr, r.tgt ∈ factsOf p := by
  intro c hc
  have hc0 := hc
  unfold factsOf
  cases ht : c.tgt with
  | val g v =>
    obtain ⟨hg, b, hb, hv⟩ := raw_made ok c hc0 g v ht
    refine List.mem_append_left _ (List.mem_flatMap.2 ⟨g, List.mem_range.2 hg, List.mem_cons_of_mem _ (List.mem_flatMap.2 ⟨b, by rw [FuncD.at_eq hg]; exact hb, List.mem_map.2 ⟨v, ?_, rfl⟩⟩)⟩)
    unfold insDst
    rcases hv with h | ⟨i, hi, e, _⟩
    · exact List.mem_append_left _ h
    · exact List.mem_append_right _ (List.mem_map.2 ⟨i, hi, e⟩)
  | arr a =>
    refine List.mem_append_right _ (List.mem_map.2 ⟨a, List.mem_range.2 ?_, rfl⟩)
    obtain ⟨f, hf, hc⟩ := List.mem_flatMap.1 hc
    have hf : f < p.funcs.length := by simpa using hf
    obtain ⟨n, _, hc⟩ := List.mem_flatMap.1 hc
    rw [FuncD.at_eq hf] at hc
    have hfo := ok.funcs _ (List.getElem_mem hf)
    split at hc
    case isFalse => cases hc
    split at hc
    case h_2 => cases hc
    rename_i b hb
    have hbo := hfo.2.2.2.1 b (List.mem_of_getElem? hb)
    unfold blockRaw at hc
    rcases List.mem_append.1 hc with hc | hc
    · rcases List.mem_append.1 hc with hc | hc
      · obtain ⟨i, hi, hc⟩ := List.mem_flatMap.1 hc
        have hr := hbo.2 i hi
        unfold insRaw at hc
        split at hc
        · rw [List.mem_singleton.1 hc] at ht; cases ht
        split at hc
        · rw [List.mem_singleton.1 hc] at ht; cases ht
        split at hc
        · rw [List.mem_singleton.1 hc] at ht; cases ht
        split at hc
        · rw [List.mem_singleton.1 hc] at ht; cases ht
          exact (right_arr hr (by omega)).2
        split at hc
        · rw [List.mem_singleton.1 hc] at ht; cases ht
          exact (right_arr hr (by omega)).2
        split at hc
        · rcases List.mem_append.1 hc with hc | hc
          · obtain ⟨j, _, rfl⟩ := List.mem_map.1 hc; cases ht
          · rw [List.mem_singleton.1 hc] at ht; cases ht
        · cases hc
      · obtain ⟨w, _, hc⟩ := List.mem_flatMap.1 hc
        unfold wayRaw at hc
        split at hc
        · obtain ⟨j, _, rfl⟩ := List.mem_map.1 hc; cases ht
        · cases hc
    · unfold endRaw at hc
      split at hc
      · rw [List.mem_singleton.1 hc] at ht; cases ht
      · cases hc
  | ret g =>
    refine List.mem_append_left _ (List.mem_flatMap.2 ⟨g, List.mem_range.2 ?_, List.mem_cons_self⟩)
    obtain ⟨f, hf, hc⟩ := List.mem_flatMap.1 hc
    have hf : f < p.funcs.length := by simpa using hf
    obtain ⟨n, _, hc⟩ := List.mem_flatMap.1 hc
    rw [FuncD.at_eq hf] at hc
    split at hc
    case isFalse => cases hc
    split at hc
    case h_2 => cases hc
    unfold blockRaw at hc
    rcases List.mem_append.1 hc with hc | hc
    · rcases List.mem_append.1 hc with hc | hc
      · obtain ⟨i, hi, hc⟩ := List.mem_flatMap.1 hc
        unfold insRaw at hc
        split at hc
        · rw [List.mem_singleton.1 hc] at ht; cases ht
        split at hc
        · rw [List.mem_singleton.1 hc] at ht; cases ht
        split at hc
        · rw [List.mem_singleton.1 hc] at ht; cases ht
        split at hc
        · rw [List.mem_singleton.1 hc] at ht; cases ht
        split at hc
        · rw [List.mem_singleton.1 hc] at ht; cases ht
        split at hc
        · rcases List.mem_append.1 hc with hc | hc
          · obtain ⟨j, _, rfl⟩ := List.mem_map.1 hc; cases ht
          · rw [List.mem_singleton.1 hc] at ht; cases ht
        · cases hc
      · obtain ⟨w, _, hc⟩ := List.mem_flatMap.1 hc
        unfold wayRaw at hc
        split at hc
        · obtain ⟨j, _, rfl⟩ := List.mem_map.1 hc; cases ht
        · cases hc
    · unfold endRaw at hc
      split at hc
      · rw [List.mem_singleton.1 hc] at ht; cases ht; exact hf
      · cases hc
theorem cons_facts {p : ProgD} {cut : CutF} {wr : List Bool} (ok : CheckOk p) : ∀ c ∈ progCons p cut wr, c.tgt ∈ factsOf p := fun c hc => by
  rw [progCons_raw] at hc
  obtain ⟨r, hr, rfl⟩ := List.mem_map.1 hc
  exact raw_facts ok r hr
end Go.Proofs.Ytaefmhephoilmaa

/- Contracts of package taint: Of, first part: what it begins with. -/
namespace Go.Proofs.Ytaefmhephoilmaa
open Go Go.VL

structure Pre (hB hh : V) (p : ProgD) (cut : CutF) (r : Nat) (sa sf vs cs ws : Sl) (ids cl : List Nat) : Prop where
  le : Le hB hh
  newr : hB r = none
  box : Box hh r [sV sa, sV sf, iV p.main, sV vs, .slice none 0 0, .slice none 0 0, sV cs, sV ws, .bool false] 78
  ov : OwnS hB hh vs 56 1 (ids.map fun q => Value.map (some q))
  oc : OwnS hB hh cs 29 1 (cl.map fun q => Value.map (some q))
  len : ids.length = cl.length
  nd : ids.Nodup
  dis : ∀ q ∈ ids, q ∉ cl
  mi : ∀ q ∈ ids, hB q = none ∧ hh q = some (.map #[] 0)
  mc : ∀ (f : Nat) q, cl[f]? = some q → hB q = none ∧ ∃ o m, hh q = some o ∧ MapRep .bool o m ∧ ∀ v, (mget m v).getD false = cut f v
theorem isMap_of {kd : Kd} {o : Obj} {m : List (Int × kd.T)} (h : MapRep kd o m) : ∃ es clk, o = .map es clk := by obtain ⟨es, clk, e, _⟩ := h.ex; exact ⟨es, clk, e⟩

/- one function more: its map of labels, its map of what is cut -/
theorem of_more {hB h8 : V} {p : ProgD} {cut : CutF} {r : Nat} {sa sf vs cs ws : Sl} {ids cl : List Nat} {A : Nat → (Unit → V → Prop) → V → Prop} {K : V → Prop} (k : Pre hB h8 p cut r sa sf vs cs ws ids cl) (hfew : ids.length < 1024)
    (hA : ∀ (r45 : Nat) h13 J, h13 r45 = some (.map #[] 0) → hB r45 = none → Le hB h13 → (∀ h', (∀ b, b ≠ r45 → h13 b ≠ none → h' b = h13 b) → (∃ o m, h' r45 = some o ∧ MapRep .bool o m ∧ ∀ v, (mget m v).getD false = cut ids.length v) → J () h') → A r45 J h13)
    (hK : ∀ h' vs' cs' ids' cl', Pre hB h' p cut r sa sf vs' cs' ws ids' cl' → ids'.length = ids.length + 1 → K h') :
    Ld h8 (Addr.add (Addr.add ⟨r, 0, none⟩ 3) 0) .sl fun (x38 : Sl) =>
    New h8 (.map #[] 0) fun r39 h9 =>
    New h9 (.cells #[(.map ((some r39)))] 56) fun r40 h10 =>
    App h10 x38 ⟨(some ⟨r40, 0, none⟩), 1, 1⟩ 56 1 8 [(.map none)] fun s41 h11 =>
    StL h11 (Addr.add (Addr.add ⟨r, 0, none⟩ 3) 0) 0 [sV s41] fun h12 =>
    New h12 (.map #[] 0) fun r45 h13 =>
    Cut (σ := (Unit)) (fun _ h14 =>
    Ld h14 (Addr.add (Addr.add ⟨r, 0, none⟩ 3) 3) .sl fun (x68 : Sl) =>
    New h14 (.cells #[(.map ((some r45)))] 29) fun r70 h15 =>
    App h15 x68 ⟨(some ⟨r70, 0, none⟩), 1, 1⟩ 29 1 8 [(.map none)] fun s71 h16 =>
    StL h16 (Addr.add (Addr.add ⟨r, 0, none⟩ 3) 3) 0 [sV s71] fun h17 =>
    Wk h17 fun h18 => K h18) fun J => A r45 J h13 := by
  refine ⟨vs, by rw [Addr.add_add]; exact k.box.cell rfl, fun r39 hr39 => ?_⟩
  have l9 := le_upd hr39 (.map #[] 0)
  have m39 : (h8.upd r39 (.map #[] 0)) r39 = some (.map #[] 0) := upd_self _ _ _
  generalize h8.upd r39 (.map #[] 0) = h9 at *
  refine New_box fun r40 h10 hr40 l10 b40 => ?_
  have l810 := l9.trans l10
  have nv := k.ov.1
  simp only [List.length_map, Nat.mul_one] at nv
  have nc := k.oc.1
  simp only [List.length_map, Nat.mul_one] at nc
  have hlen := k.len
  refine App_one (k.le.trans l810) (k.ov.le l810) b40 rfl (by omega) (by omega) fun s41 h11 l11 o11 n11 f11 d11 => ?_
  have box10 := k.box.le l810
  have ov10 := k.ov.le l810
  have oc10 := k.oc.le l810
  have box11 : Box h11 r [sV sa, sV sf, iV p.main, sV vs, .slice none 0 0, .slice none 0 0, sV cs, sV ws, .bool false] 78 := by
    unfold Box
    rw [f11 r (fun a ha e => own_box ov10 box10 (by decide) ha e.symm) (by unfold Box at box10; rw [box10]; simp)]
    exact box10
  have oc11 : OwnS hB h11 cs 29 1 (cl.map fun q => Value.map (some q)) := oc10.frame fun a ob ha hob => by
    rw [f11 _ (fun a' ha' e => own_ne ov10 oc10 (by decide) ha' ha e.symm) (by rw [hob]; simp)]; exact hob
  have map11 : ∀ q es clk, h10 q = some (.map es clk) → h11 q = some (.map es clk) := fun q es clk hq => by
    rw [f11 q (fun a ha e => by obtain ⟨_, arr, h⟩ := ov10.blk ha; rw [← e, hq] at h; cases h) (by rw [hq]; simp)]; exact hq
  rw [Addr.add_add]
  refine Box_st (i := 3) box11 (by simp) fun h12 box12 f12 => ?_
  have box12 : Box h12 r [sV sa, sV sf, iV p.main, sV s41, .slice none 0 0, .slice none 0 0, sV cs, sV ws, .bool false] 78 := box12
  have le12 : Le hB h12 := fun q o hq => by
    rw [f12 q (fun e => by subst e; rw [k.newr] at hq; cases hq)]; exact l11 q o hq
  have ov12 : OwnS hB h12 s41 56 1 (ids.map (fun q => Value.map (some q)) ++ [.map (some r39)]) := o11.frame fun a ob ha hob => (f12 _ (own_box o11 box11 (by decide) ha)).trans hob
  have oc12 : OwnS hB h12 cs 29 1 (cl.map fun q => Value.map (some q)) := oc11.frame fun a ob ha hob => (f12 _ (own_box oc11 box11 (by decide) ha)).trans hob
  have map12 : ∀ q es clk, h10 q = some (.map es clk) → h12 q = some (.map es clk) := fun q es clk hq => by
    rw [f12 q (fun e => by unfold Box at box10; rw [e, box10] at hq; cases hq)]; exact map11 q es clk hq
  intro r45 hr45
  have l13 := le_upd hr45 (.map #[] 0)
  have m45 : (h12.upd r45 (.map #[] 0)) r45 = some (.map #[] 0) := upd_self _ _ _
  generalize h12.upd r45 (.map #[] 0) = h13 at *
  have hB45 : hB r45 = none := le12.nil hr45
  refine Cut_i (fun _ h14 => (∀ b, b ≠ r45 → h13 b ≠ none → h14 b = h13 b) ∧ ∃ o m, h14 r45 = some o ∧ MapRep .bool o m ∧ ∀ v, (mget m v).getD false = cut ids.length v) (fun J hJ => ?_) ?_
  · exact hA r45 h13 J m45 hB45 (le12.trans l13) fun h' f' x => hJ () h' ⟨f', x⟩
  · rintro _ h14 ⟨f14, o45, mm, ho45, hm45, hg45⟩
    have map14 : ∀ q es clk, h10 q = some (.map es clk) → h14 q = some (.map es clk) := fun q es clk hq => by
      have := map12 q es clk hq
      rw [f14 q (fun e => by rw [e] at this; rw [this] at hr45; cases hr45) (by rw [l13 _ _ this]; simp)]
      exact l13 _ _ this
    have keep14 : ∀ q o, h12 q = some o → h14 q = some o := fun q o hq => by
      rw [f14 q (fun e => by rw [e, hr45] at hq; cases hq) (by rw [l13 _ _ hq]; simp)]; exact l13 _ _ hq
    have l14 : Le h12 h14 := keep14
    refine ⟨cs, by rw [Addr.add_add]; exact (box12.le l14).cell rfl, New_box fun r70 h15 hr70 l15 b70 => ?_⟩
    have l1215 := l14.trans l15
    have ov15 := ov12.le l1215
    have oc15 := oc12.le l1215
    have box15 := box12.le l1215
    refine App_one (le12.trans l1215) oc15 b70 rfl (by omega) (by omega) fun s71 h16 l16 o16 n16 f16 d16 => ?_
    have box16 : Box h16 r [sV sa, sV sf, iV p.main, sV s41, .slice none 0 0, .slice none 0 0, sV cs, sV ws, .bool false] 78 := by
      unfold Box
      rw [f16 r (fun a ha e => own_box oc15 box15 (by decide) ha e.symm) (by unfold Box at box15; rw [box15]; simp)]
      exact box15
    have ov16 : OwnS hB h16 s41 56 1 (ids.map (fun q => Value.map (some q)) ++ [.map (some r39)]) := ov15.frame fun a ob ha hob => by
      rw [f16 _ (fun a' ha' e => own_ne oc15 ov15 (by decide) ha' ha e.symm) (by rw [hob]; simp)]; exact hob
    have map16 : ∀ q es clk, h14 q = some (.map es clk) → h16 q = some (.map es clk) := fun q es clk hq => by
      have := l15 _ _ hq
      rw [f16 q (fun a ha e => by obtain ⟨_, arr, h⟩ := oc15.blk ha; rw [← e, this] at h; cases h) (by rw [this]; simp)]; exact this
    rw [Addr.add_add]
    refine Box_st (i := 6) box16 (by simp) fun h17 box17 f17 => ?_
    have map17 : ∀ q es clk, h14 q = some (.map es clk) → h17 q = some (.map es clk) := fun q es clk hq => by
      have := map16 q es clk hq
      rw [f17 q (fun e => by unfold Box at box16; rw [e, box16] at this; cases this)]; exact this
    have old : ∀ q es clk, h8 q = some (.map es clk) → h17 q = some (.map es clk) := fun q es clk hq => map17 _ _ _ (map14 _ _ _ (l810 _ _ hq))
    have h39 : h17 r39 = some (.map #[] 0) := map17 _ _ _ (map14 _ _ _ (l10 _ _ m39))
    have n39 : hB r39 = none := k.le.nil hr39
    have ids_ne : ∀ q ∈ ids, q ≠ r39 := fun q hq e => by have := (k.mi q hq).2; rw [e, hr39] at this; cases this
    have cl_ne : ∀ q ∈ cl, q ≠ r39 ∧ q ≠ r45 := fun q hq => by
      obtain ⟨f, hf, e⟩ := List.getElem_of_mem hq
      obtain ⟨_, o, m, h1, h2, _⟩ := k.mc f q (by rw [List.getElem?_eq_getElem hf, e])
      obtain ⟨es, clk, rfl⟩ := isMap_of h2
      refine ⟨fun e => (by rw [e, hr39] at h1; cases h1), fun e => ?_⟩
      have := map12 _ _ _ (l810 _ _ h1)
      rw [e, hr45] at this; cases this
    have ids45 : ∀ q ∈ ids ++ [r39], q ≠ r45 := fun q hq e => by
      have : ∃ es clk, h10 q = some (.map es clk) := by
        rcases List.mem_append.1 hq with g | g
        · exact ⟨_, _, l810 _ _ (k.mi q g).2⟩
        · rw [List.mem_singleton.1 g]; exact ⟨_, _, l10 _ _ m39⟩
      obtain ⟨es, clk, h⟩ := this
      have := map12 _ _ _ h
      rw [e, hr45] at this; cases this
    refine Wk_self (hK h17 s41 s71 (ids ++ [r39]) (cl ++ [r45]) ⟨fun q o hq => ?_, k.newr, box17, ?_, ?_, by simp [k.len], ?_, ?_, ?_, ?_⟩ (by simp))
    · rw [f17 q (fun e => by subst e; rw [k.newr] at hq; cases hq)]; exact l16 q o hq
    · have := ov16.frame (h' := h17) fun a ob ha hob => (f17 _ (own_box ov16 box16 (by decide) ha)).trans hob
      simpa using this
    · have := o16.frame (h' := h17) fun a ob ha hob => (f17 _ (own_box o16 box16 (by decide) ha)).trans hob
      simpa using this
    · rw [List.nodup_append]
      refine ⟨k.nd, by simp, fun a ha b hb => ?_⟩
      rw [List.mem_singleton.1 hb]; exact ids_ne a ha
    · intro q hq hc
      rcases List.mem_append.1 hc with g | g
      · rcases List.mem_append.1 hq with g' | g'
        · exact k.dis q g' g
        · rw [List.mem_singleton.1 g'] at g; exact (cl_ne _ g).1 rfl
      · exact ids45 q hq (List.mem_singleton.1 g)
    · intro q hq
      rcases List.mem_append.1 hq with g | g
      · exact ⟨(k.mi q g).1, old _ _ _ (k.mi q g).2⟩
      · rw [List.mem_singleton.1 g]; exact ⟨n39, h39⟩
    · intro f q hq
      rcases Nat.lt_or_ge f cl.length with g | g
      · rw [List.getElem?_append_left g] at hq
        obtain ⟨h0, o, m, h1, h2, h3⟩ := k.mc f q hq
        obtain ⟨es, clk, rfl⟩ := isMap_of h2
        exact ⟨h0, _, m, old _ _ _ h1, h2, h3⟩
      · rw [List.getElem?_append_right g] at hq
        have e : f = cl.length := by
          have := (List.getElem?_eq_some_iff.1 hq).1
          simp at this; omega
        subst e
        simp at hq
        subst hq
        obtain ⟨es, clk, rfl⟩ := isMap_of hm45
        exact ⟨hB45, _, mm, map17 _ _ _ ho45, hm45, fun v => by rw [← k.len]; exact hg45 v⟩
end Go.Proofs.Ytaefmhephoilmaa

/- Contracts of package taint: Of, last part: round after round. -/
namespace Go.Proofs.Ytaefmhephoilmaa
open Go Go.VL

section
variable {hC hh : V} {p : ProgD} {r r2 : Nat} {sa sf vs ar rs cs ws : Sl} {ids : List Nat} {L : LabF} {tu : Bool} {cut : CutF} {wr : List Bool}
/- a slice of one's own that stays -/
theorem SolW.growS {h44 : V} {x : Sl} {T : TypeId} {xs : List Value} (k : SolW hC hh p r sa sf vs ar rs cs ws ids L tu) (o : OwnS hh h44 x T 1 xs) (l : Le hh h44) : ∃ hD, Le hC hD ∧ SolW hD h44 p r sa sf vs ar rs cs ws ids L tu ∧ OwnS hC hD x T 1 xs := by
  obtain ⟨h1, h2, h3, h4⟩ := o
  rcases h4 with h4 | ⟨b, off, arr, ha, hb, hr, hz, ht⟩
  · exact ⟨hC, Le.refl _, k.view l, h1, h2, h3, .inl h4⟩
  · obtain ⟨g1, g2⟩ := k.grow hb l hr
    exact ⟨_, g2, g1, h1, h2, h3, .inr ⟨b, off, arr, ha, k.le.nil hb, upd_self _ _ _, hz, ht⟩⟩
noncomputable def blkF (p : ProgD) (cut : CutF) (wr : List Bool) (f : Nat) (n : Nat) : List Con := if rchB (FuncD.at p f).blocks n = true then (match (FuncD.at p f).blocks[n]? with | some b => blockCons p cut wr f b | none => []) else []
theorem of_main (k0 : SolW hC hh p r sa sf vs ar rs cs ws ids (L0 p) true) (c : SolC hC p cut wr sa sf vs cs ws ids) (ok : CheckOk p) (few : ∀ f ∈ p.funcs, f.blocks.length ≤ 1048576) (b2 : Box hC r2 [sV sa, sV sf, iV p.main] 25) {X : V → Prop}
    (hX : ∀ hh L, SolW hC hh p r sa sf vs ar rs cs ws ids L false → LeastL p cut wr L → X hh) :
  Lp (σ := (Unit)) (fun K_3 _ h39 =>
  Ld h39 (Addr.add (⟨r, 0, none⟩) 8) .bool fun (x113 : Bool) =>
  cond x113
  (StL h39 (Addr.add (⟨r, 0, none⟩) 8) 0 [(.bool false)] fun h40 =>
  Ld h40 (Addr.add (⟨r2, 0, none⟩) 1) .sl fun (x118 : Sl) =>
  Lp (σ := (Int × Unit)) (fun K_4 s_6 h41 =>
  cond (decide (s_6.1 < (((x118.n : Nat) : Int))))
  (Ix x118 s_6.1 2 fun a123 =>
  LdA h41 a123 [.str, .sl] fun (x124 : ((ByteArray) × (Sl) × Unit)) =>
  New h41 (.cells #[(.string (⟨#[]⟩)), (.slice none 0 0)] 46) fun r15 h42 =>
  StL h42 (⟨r15, 0, none⟩) 0 [(.string x124.1), (.slice x124.2.1.a x124.2.1.n x124.2.1.c)] fun h43 =>
  LdA h43 (⟨r15, 0, none⟩) [.str, .sl] fun (x125 : ((ByteArray) × (Sl) × Unit)) =>
  CallK Try.prog 19 [(.agg ⟨[(.string x125.1), (.slice x125.2.1.a x125.2.1.n x125.2.1.c)]⟩)] h43 (.un (.one .sl)) fun (x126 : Sl) h44 =>
  Lp (σ := (Int × Unit)) (fun K_5 s_7 h45 =>
  cond (decide (s_7.1 < (((x126.n : Nat) : Int))))
  (Ix x126 s_7.1 1 fun a131 =>
  Ld h45 a131 .bool fun (x132 : Bool) =>
  cond x132
  (Ld h45 (Addr.add (⟨r15, 0, none⟩) 1) .sl fun (x137 : Sl) =>
  Ix x137 s_7.1 6 fun a139 =>
  LdA h45 a139 [.sl, .sl, (.int .i64), (.int .i64), .sl, (.int .i64)] fun (x140 : ((Sl) × (Sl) × (Int) × (Int) × (Sl) × (Int) × Unit)) =>
  CallK Try.prog 20 [(.pointer (some (⟨r, 0, none⟩))), (.int .i64 s_6.1), (.agg ⟨[(.slice x140.1.a x140.1.n x140.1.c), (.slice x140.2.1.a x140.2.1.n x140.2.1.c), (.int .i64 x140.2.2.1), (.int .i64 x140.2.2.2.1), (.slice x140.2.2.2.2.1.a x140.2.2.2.2.1.n x140.2.2.2.2.1.c), (.int .i64 x140.2.2.2.2.2.1)]⟩)] h45 (.tup []) fun (_ : (Unit)) h46 =>
  Wk h46 fun h47 => K_5 (IntKind.wrap .i64 (s_7.1 + ((1 : Int))), ()) h47)
  (Wk h45 fun h48 => K_5 (IntKind.wrap .i64 (s_7.1 + ((1 : Int))), ()) h48))
  (Wk h45 fun h49 => K_4 (IntKind.wrap .i64 (s_6.1 + ((1 : Int))), ()) h49))
  ((0 : Int), ()) h44)
  (Wk h41 fun h50 => K_3 (()) h50))
  ((0 : Int), ()) h40)
  (X h39)) () hh := by
  have ok0 : ∀ c ∈ progCons p cut wr, c.ok := progCons_ok
  have l02 : ∀ t, L0 p t ≤ 2 := by
    intro t
    unfold L0
    repeat' split
    all_goals omega
  refine Lp_inv (fun n _ hh => ∃ L tu, SolW hC hh p r sa sf vs ar rs cs ws ids L tu ∧ LeL (L0 p) L ∧ (∀ t, L t ≤ 2) ∧ (∀ M, LeL (L0 p) M → Closed (progCons p cut wr) M → LeL L M) ∧ (tu = true → muC (progCons p cut wr) L + 1 ≤ n) ∧ (tu = false → Closed (progCons p cut wr) L))
    ⟨_, _, k0, LeL.refl _, l02, fun M h _ => h, fun _ => Nat.le_refl _, fun e => by cases e⟩ ?_
  rintro n _ h39 K ⟨L, tu, k, lge, l2, lleast, hmu, hcl⟩ hK
  refine ⟨tu, k.box.cell rfl, cond_b (fun ht => ?_) (fun ht => ?_)⟩
  · have hmu := hmu ht
    refine k.turn (b := false) fun h40 k4 _ => ⟨sf, (b2.le k4.le).cell rfl, ?_⟩
    refine Lp_count p.funcs.length (fun f st hh => st = ((f : Int), ()) ∧ SolW hC hh p r sa sf vs ar rs cs ws ids (runC ((List.range f).flatMap (funcCons p cut wr)) (L, false)).1 (runC ((List.range f).flatMap (funcCons p cut wr)) (L, false)).2) ⟨rfl, k4⟩ ?_
    rintro f _ h41 K4 hf ⟨rfl, k5⟩ hK4
    refine cond_dec (fun hl => ?_) (fun hge => ?_)
    · have hf' : f < p.funcs.length := by have := c.funcs.len; simp only at hl; omega
      have hfm : p.funcs[f] ∈ p.funcs := List.getElem_mem hf'
      rw [List.range_succ, List.flatMap_append, show [f].flatMap (funcCons p cut wr) = funcCons p cut wr f by simp] at hK4
      generalize (List.range f).flatMap (funcCons p cut wr) = cs0 at *
      refine elem_func c.funcs k5.le hf' rfl rfl fun sb hsb r15 h43 l43 l43' hr15 b15 => ⟨(p.funcs[f].name, sb, ()), b15.cells, ?_⟩
      obtain ⟨k6, lD⟩ := k5.grow hr15 l43' b15
      have bD : Box (hC.upd r15 (.cells ⟨funcV p.funcs[f] sb⟩ 46)) r15 (funcV p.funcs[f] sb) 46 := upd_self _ _ _
      have cD := c.le lD
      have hsD := hsb.le mono_block lD
      generalize hC.upd r15 (.cells ⟨funcV p.funcs[f] sb⟩ 46) = hD at *
      refine c_Reach (hsD.le mono_block k6.le) (few _ hfm) fun x126 h44 out l44 o44 outl hout => ⟨_, rfl, ?_⟩
      obtain ⟨hE, lE, k7, oE⟩ := k6.growS o44 l44
      have cE := cD.le lE
      have bE := bD.le lE
      have hsE := hsD.le mono_block lE
      have xE := oE.bools
      have lCE := lD.trans lE
      have fat := FuncD.at_eq hf'
      refine Lp_count p.funcs[f].blocks.length (fun n st hh => st = ((n : Int), ()) ∧ SolW hE hh p r sa sf vs ar rs cs ws ids (runC (cs0 ++ (List.range n).flatMap (blkF p cut wr f)) (L, false)).1 (runC (cs0 ++ (List.range n).flatMap (blkF p cut wr f)) (L, false)).2) ⟨rfl, by simpa using k7⟩ ?_
      rintro m _ h45 K5 hm ⟨rfl, k8⟩ hK5
      refine cond_dec (fun hl => ?_) (fun hge => ?_)
      · have hm' : m < p.funcs[f].blocks.length := by have := xE.len; simp only at hl; omega
        have hmo : m < out.length := by omega
        rw [List.range_succ, List.flatMap_append, show [m].flatMap (blkF p cut wr f) = blkF p cut wr f m by simp, ← List.append_assoc] at hK5
        generalize cs0 ++ (List.range m).flatMap (blkF p cut wr f) = cs1 at *
        refine (xE.le mono_bool k8.le).ixn hmo fun a ha => ⟨_, ha, cond_b (fun hy => ⟨sb, (bE.le k8.le).cell rfl, ?_⟩) (fun hn => ?_)⟩
        · have hr : Rch p.funcs[f].blocks m := (hout m).1 (by rw [List.getElem?_eq_getElem hmo]; exact congrArg some hy)
          have heq : blkF p cut wr f m = blockCons p cut wr f p.funcs[f].blocks[m] := by
            unfold blkF
            rw [fat, if_pos (rchB_iff.2 hr), List.getElem?_eq_getElem hm']
          rw [heq] at hK5
          refine hsE.ixn hm' fun a ⟨q, i, w, hq, hi, hw, hc⟩ => ⟨(q, i, _, _, w, _, ()), cellsAt_le k8.le hc, ?_⟩
          refine c_block k8 cE hf' ((ok.funcs _ hfm).2.2.2.1 _ (List.getElem_mem hm')) hi hw fun h46 k9 => ⟨(), rfl, Wk_self (hK5 _ _ hm' ⟨by rw [wnat hm' hsE.bd], ?_⟩)⟩
          rw [runC_append]
          exact k9
        · have hr : ¬ Rch p.funcs[f].blocks m := fun h => by
            have := (hout m).2 h
            rw [List.getElem?_eq_getElem hmo] at this
            have hn : out[m] = false := hn
            rw [hn] at this; cases this
          have heq : blkF p cut wr f m = [] := by
            unfold blkF
            rw [fat, if_neg (fun e => hr (rchB_iff.1 e))]
          rw [heq, List.append_nil] at hK5
          exact Wk_self (hK5 _ _ hm' ⟨by rw [wnat hm' hsE.bd], k8⟩)
      · have : m = p.funcs[f].blocks.length := by have := xE.len; simp only at hge; omega
        subst this
        refine Wk_self (hK4 _ _ hf' ⟨by rw [wnat hf' c.funcs.bd], ?_⟩)
        have heq : (List.range p.funcs[f].blocks.length).flatMap (blkF p cut wr f) = funcCons p cut wr f := by
          rw [← fat]
          rfl
        rw [heq] at k8
        exact k8.shrink lCE
    · have : f = p.funcs.length := by have := c.funcs.len; simp only at hge; omega
      subst this
      have ep : (List.range p.funcs.length).flatMap (funcCons p cut wr) = progCons p cut wr := rfl
      rw [ep] at k5
      have hge' := runC_ge (progCons p cut wr) (L, false)
      cases ht2 : (runC (progCons p cut wr) (L, false)).2 with
      | true =>
        have hlt := runC_mu (all := progCons p cut wr) (progCons p cut wr) (L, false) (fun _ h => h) (fun c h => (ok0 c h).2) l2 rfl ht2
        refine Wk_self (hK (muC (progCons p cut wr) (runC (progCons p cut wr) (L, false)).1 + 1) _ _ (by have : muC (progCons p cut wr) (runC (progCons p cut wr) (L, false)).1 < muC (progCons p cut wr) L := hlt; omega) ⟨_, _, k5, lge.trans hge', runC_bd _ _ (fun c h => (ok0 c h).2) l2, fun M h1 h2 => runC_le _ _ (fun c h => (ok0 c h).1) h2 (lleast M h1 h2), fun _ => Nat.le_refl _, fun e => by rw [ht2] at e; cases e⟩)
      | false =>
        obtain ⟨_, e2, e3⟩ := runC_false _ _ ht2
        refine Wk_self (hK 0 _ _ (by omega) ⟨_, _, k5, lge.trans hge', runC_bd _ _ (fun c h => (ok0 c h).2) l2, fun M h1 h2 => runC_le _ _ (fun c h => (ok0 c h).1) h2 (lleast M h1 h2), fun e => (by rw [ht2] at e; cases e), fun _ => by rw [e2]; exact e3⟩)
  · have ht : tu = false := ht
    subst ht
    exact hX h39 L k ⟨lge, l2, hcl rfl, lleast⟩
end
end Go.Proofs.Ytaefmhephoilmaa

/- Contracts of package taint: Of. -/
namespace Go.Proofs.Ytaefmhephoilmaa
open Go Go.VL

def repVals (h : V) (a : Addr) (g : Int → Int) : Prop := ∃ q o m, cellq h a = some (.map (some q)) ∧ h q = some o ∧ MapRep (.int .i64) o m ∧ ∀ v, (mget m v).getD (0 : Int) = g v
theorem mono_vals : Mono repVals := fun _ _ _ _ l ⟨q, o, m, h1, h2, h3⟩ => ⟨q, o, m, cellq_le l h1, l _ _ h2, h3⟩
structure LabW (h : V) (p : ProgD) (vs ar rs cs : Sl) (L : LabF) : Prop where
  vals : isSl repVals 1 h vs ((List.range p.funcs.length).map fun f v => L (.val f v))
  arrs : isInts h ar ((List.range p.arrays.length).map fun i => L (.arr i))
  rets : isInts h rs ((List.range p.funcs.length).map fun i => L (.ret i))
  cut : cs.n = p.funcs.length
def cutOf (l : List (Int → Bool)) : CutF := fun f v => (l.getD f fun _ => false) v
def V.dels (h : V) (l : List Nat) : V := fun b => if b ∈ l then none else h b
theorem dels_in {h : V} {l : List Nat} {b : Nat} (hb : b ∈ l) : V.dels h l b = none := by simp [V.dels, hb]
theorem dels_out {h : V} {l : List Nat} {b : Nat} (hb : b ∉ l) : V.dels h l b = h b := by simp [V.dels, hb]
def labA (a : ArrD) : Int := if a.hold = 2 then 2 else 0
theorem few_B {p : ProgD} (few : FewOk p) : ∀ f ∈ p.funcs, fewB f.blocks := fun f hf => ⟨by have := (few.all f hf).blocks; omega, fun b hb => by have := ((few.all f hf).all b hb).params; have := ((few.all f hf).all b hb).ins; omega⟩

theorem c_Of {h : V} {p : ProgD} {sa sf pc : Sl} {cutIn : List (Int → Bool)} {R : Value → V → Prop} (ha : isArrs h sa p.arrays) (hf : isFuncs h sf p.funcs) (hc : isSl repCut 1 h pc cutIn) (few : FewOk p)
    (hR1 : ¬ CheckOk p → R (.tuple ⟨[.agg ⟨[.slice none 0 0, .slice none 0 0, .slice none 0 0, .slice none 0 0]⟩, iV 40]⟩) h)
    (hR2 : CheckOk p → ∀ h' vs ar rs cs L, Le h h' → LabW h' p vs ar rs cs L → LeastL p (cutOf cutIn) (writesD p) L → R (.tuple ⟨[.agg ⟨[sV vs, sV ar, sV rs, sV cs]⟩, iV 0]⟩) h') :
    ACalls Try.prog 9 [.agg ⟨[sV sa, sV sf, iV p.main]⟩, sV pc] h R := by
  refine S9_ok _ _ _ _ _ _ (New_box fun r2 h1 hr2 l1 b2 => New_box fun r4 h2 hr4 l2 b4 => ⟨(sa, sf, p.main, ()), (b2.le l2).cells, ?_⟩)
  have l02 := l1.trans l2
  refine c_Check (ha.le mono_arr l02) (hf.le mono_func l02) (few_B few) fun n hn0 hn => ⟨_, rfl, cond_nei (fun hne => ?_) (fun heq => ?_)⟩
  · have hne : n ≠ 0 := hne
    refine StL_box (h := h1) b4 rfl l2 hr4 fun h4 l4 b4' f4 => ⟨(⟨none, 0, 0⟩, ⟨none, 0, 0⟩, ⟨none, 0, 0⟩, ⟨none, 0, 0⟩, ()), b4'.cells, Wk_le (l1.trans l4) (hR1 fun ok => hne (hn.2 ok))⟩
  have heq : n = 0 := heq
  have ok := hn.1 heq
  refine ⟨(sa, sf, p.main, ()), (b2.le l2).cells, (sa, sf, p.main, ()), (b2.le l2).cells, c_Writes (ha.le mono_arr l02) (hf.le mono_func l02) (by have := few.arrays; omega) fun ws h6 l6 o6 f6 => ⟨_, rfl, l6, New_box fun r h7 hr l7 b => ⟨sf, ((b2.le l2).le (l6.trans l7)).cell rfl, ?_⟩⟩⟩
  have nf := hf.len
  have na := ha.len
  have hfew5 := few.funcs
  have l06 := l02.trans l6
  have b2' := (b2.le l2).le l6
  refine Lp_count p.funcs.length (fun k st hh => st = ((k : Int), ()) ∧ ∃ vs cs ids cl, Pre h6 hh p (cutOf cutIn) r sa sf vs cs ws ids cl ∧ ids.length = k)
    ⟨rfl, ⟨none, 0, 0⟩, ⟨none, 0, 0⟩, [], [], ⟨l7, hr, b, OwnS_nil _ _ _ _, OwnS_nil _ _ _ _, rfl, List.nodup_nil, by simp, by simp, by simp⟩, rfl⟩ ?_
  rintro k _ h8 K hk ⟨rfl, vs, cs, ids, cl, k8, hlen⟩ hK
  refine cond_dec (fun hlt => ?_) (fun hge => ?_)
  · have hk' : k < p.funcs.length := by simp only at hlt; omega
    refine of_more k8 (by omega) (fun r45 h13 J m45 n45 l13 hJ => ?_) (fun h' vs' cs' ids' cl' k' hl => hK _ _ hk' ⟨by rw [wnat hk' hf.bd], vs', cs', ids', cl', k', by omega⟩)
    subst hlen
    refine cond_dec (fun hlt => ?_) (fun hge => ?_)
    · have hkc : ids.length < cutIn.length := by have := hc.len; simp only at hlt; omega
      refine hc.ixn hkc fun a ⟨q, hq, hcq⟩ => ⟨q, cellq_le (l06.trans l13) hq, copy_map (cutQ_le (l06.trans l13) hcq) m45 (fun x hx e => ?_) fun h' f' hm => hJ h' f' ?_⟩
      · subst hx e
        obtain ⟨o, m, g1, g2, g3⟩ := hcq
        have := l06 _ _ g1
        rw [n45] at this; cases this
      · obtain ⟨o, m, g1, g2, g3⟩ := hm
        refine ⟨o, m, g1, g2, fun v => ?_⟩
        rw [g3]; unfold cutOf; rw [getD_lt hkc]
    · refine Wk_self (hJ h13 (fun _ _ _ => rfl) ⟨_, [], m45, MapRep.empty _, fun v => ?_⟩)
      have : cutIn.length ≤ ids.length := by have := hc.len; simp only at hge; omega
      rw [mget_nil]
      unfold cutOf
      rw [List.getD_eq_getElem?_getD, List.getElem?_eq_none this]; rfl
  have : k = p.funcs.length := by simp only at hge; omega
  subst this
  have hlc := k8.len
  refine ⟨sf, (b2'.le k8.le).cell rfl, ?_⟩
  refine MkSl_own (by omega) (by omega) fun s80 h26 l26 o26 n26 f26 ⟨a80, ha80⟩ => ?_
  rw [nf] at o26 n26
  have box26 := k8.box.le l26
  rw [Addr.add_add]
  refine Box_st (i := 5) box26 (by simp) fun h27 box27 f27 => ?_
  have box27 : Box h27 r [sV sa, sV sf, iV p.main, sV vs, .slice none 0 0, sV s80, sV cs, sV ws, .bool false] 78 := box27
  have keep27 : ∀ q, q ≠ r → ∀ o, h8 q = some o → h27 q = some o := fun q hq o ho => by rw [f27 q hq]; exact l26 _ _ ho
  have le27 : Le h6 h27 := fun q o hq => keep27 q (fun e => by subst e; rw [k8.newr] at hq; cases hq) o (k8.le _ _ hq)
  refine ⟨sa, (b2'.le le27).cell rfl, ?_⟩
  -- what stays: all but the solver itself
  have o27 : OwnS h8 h27 s80 42 1 (List.replicate p.funcs.length (iV 0)) := o26.frame fun a ob ha' hob => (f27 _ (own_box o26 box26 (by decide) ha')).trans hob
  obtain ⟨n80, arr80, h80⟩ := o27.blk ha80
  have b80r : a80.block ≠ r := own_box o27 box27 (by decide) ha80
  have lD6 : Le h6 (V.del h27 r) := fun q o hq => by
    rw [del_ne (fun e => by subst e; rw [k8.newr] at hq; cases hq)]; exact le27 _ _ hq
  have lDh := l06.trans lD6
  refine Lp_count p.arrays.length (fun k st hh => st = ((k : Int), ()) ∧ ∃ ar, Le (V.del h27 r) hh ∧ Box hh r [sV sa, sV sf, iV p.main, sV vs, sV ar, sV s80, sV cs, sV ws, .bool false] 78 ∧ OwnS (V.del h27 r) hh ar 42 1 (((p.arrays.take k).map labA).map (Value.int .i64)))
    ⟨rfl, ⟨none, 0, 0⟩, del_le _ _, box27, OwnS_nil _ _ _ _⟩ ?_
  rintro k _ h28 K2 hk ⟨rfl, ar, l28, box28, o28⟩ hK2
  have few10 := few.arrays
  refine cond_dec (fun hlt => ?_) (fun hge => ?_)
  · have hk' : k < p.arrays.length := by have := ha.len; simp only at hlt; omega
    refine elem_arr ha (lDh.trans l28) hk' rfl rfl fun r12 h30 l30 l30' hr12 b12 => ?_
    refine Cut_i (fun st hh => h30 = hh ∧ st.1 = labA p.arrays[k]) (fun J hJ => ?_) ?_
    · refine ⟨_, b12.cell rfl, cond_eqi (fun e => Wk_self (hJ _ _ ⟨rfl, ?_⟩)) (fun e => Wk_self (hJ _ _ ⟨rfl, ?_⟩))⟩
      · have e : p.arrays[k].hold = 2 := e
        unfold labA; rw [if_pos e]
      · have e : ¬ p.arrays[k].hold = 2 := e
        unfold labA; rw [if_neg e]
    · rintro ⟨lab, u⟩ _ ⟨rfl, e⟩
      have e : lab = _ := e
      subst e
      refine ⟨ar, by rw [Addr.add_add]; exact (box28.le l30').cell rfl, New_box fun r101 h32 hr101 l32 b101 => ?_⟩
      have l2832 := l30'.trans l32
      have o32 := o28.le l2832
      have box32 := box28.le l2832
      have nar := o28.1
      simp only [List.length_map, List.length_take, Nat.mul_one] at nar
      refine App_one (l28.trans l2832) o32 b101 rfl (by omega) (by omega) fun s102 h33 l33 o33 n33 f33 d33 => ?_
      have box33 : Box h33 r [sV sa, sV sf, iV p.main, sV vs, sV ar, sV s80, sV cs, sV ws, .bool false] 78 := by
        unfold Box
        rw [f33 r (fun a ha' e => own_box o32 box32 (by decide) ha' e.symm) (by unfold Box at box32; rw [box32]; simp)]
        exact box32
      rw [Addr.add_add]
      refine Box_st (i := 4) box33 (by simp) fun h34 box34 f34 => ?_
      refine Wk_self (hK2 _ _ hk' ⟨by rw [wnat hk' ha.bd], s102, fun q o hq => ?_, box34, ?_⟩)
      · rw [f34 q (fun e => by subst e; rw [del_self] at hq; cases hq)]; exact l33 _ _ hq
      · have := o33.frame (h' := h34) fun a ob ha' hob => (f34 _ (own_box o33 box33 (by decide) ha')).trans hob
        rw [List.take_succ_eq_append_getElem hk', List.map_append, List.map_append]
        exact this
  · have : k = p.arrays.length := by have := ha.len; simp only at hge; omega
    subst this
    rw [List.take_of_length_le (Nat.le_refl _)] at o28
    -- the base of the rounds: all but what they may turn
    have idsD : ∀ q ∈ ids, V.del h27 r q = some (.map #[] 0) := fun q hq => by
      obtain ⟨_, h1⟩ := k8.mi q hq
      have ne : q ≠ r := fun e => by subst e; have := k8.box; unfold Box at this; rw [h1] at this; cases this
      rw [del_ne ne]; exact keep27 q ne _ h1
    have out : ∀ q o, h8 q = some o → q ≠ r → q ∉ ids → V.dels h27 (r :: a80.block :: ids) q = some o := fun q o ho h1 h2 => by
      rw [dels_out]
      · exact keep27 q h1 o ho
      · simp only [List.mem_cons, not_or]
        exact ⟨h1, fun e => (by rw [e, n80] at ho; cases ho), h2⟩
    have lC6 : Le h6 (V.dels h27 (r :: a80.block :: ids)) := fun q o hq => out q o (k8.le _ _ hq) (fun e => by subst e; rw [k8.newr] at hq; cases hq) fun hm => by rw [(k8.mi q hm).1] at hq; cases hq
    have lCD : Le (V.dels h27 (r :: a80.block :: ids)) (V.del h27 r) := fun q o hq => by
      by_cases hm : q ∈ r :: a80.block :: ids
      · rw [dels_in hm] at hq; cases hq
      · rw [dels_out hm] at hq
        rw [del_ne (fun e => hm (by rw [e]; simp))]; exact hq
    have r4h6 : h6 r4 = some (.cells #[.slice none 0 0, .slice none 0 0, .slice none 0 0, .slice none 0 0] 33) := l6 _ _ b4
    -- slices and maps that stay, without the place of the result
    have slC : ∀ (s : Sl) (T : TypeId) (xs : List Nat), OwnS h6 h8 s T 1 (xs.map fun q => Value.map (some q)) → T ≠ 78 → isSl repMap 1 (V.del (V.dels h27 (r :: a80.block :: ids)) r4) s xs := fun s T xs o hT => by
      refine (OwnS.frame (h' := V.del (V.dels h27 (r :: a80.block :: ids)) r4) o fun a ob ha' hob => ?_).sl fun _ _ _ h => h
      obtain ⟨g1, arr, g2⟩ := o.blk ha'
      rw [del_ne (fun e => by rw [e, r4h6] at g1; cases g1)]
      refine out _ _ hob (own_box o k8.box hT ha') fun hm => ?_
      rw [(k8.mi _ hm).2] at g2; cases g2
    have lC4 : Le h1 (V.del (V.dels h27 (r :: a80.block :: ids)) r4) := fun q o hq => by
      rw [del_ne (fun e => by rw [e, hr4] at hq; cases hq)]
      exact lC6 _ _ (l6 _ _ (l2 _ _ hq))
    have cC : SolC (V.del (V.dels h27 (r :: a80.block :: ids)) r4) p (cutOf cutIn) (writesD p) sa sf vs cs ws ids := by
      refine ⟨ha.le mono_arr (l1.trans lC4), hf.le mono_func (l1.trans lC4), slC vs 56 ids k8.ov (by decide), hlen, k8.nd, ⟨cl, slC cs 29 cl k8.oc (by decide), by omega, fun f q hq => ?_⟩, ?_⟩
      · obtain ⟨g0, o, m, g1, g2, g3⟩ := k8.mc f q hq
        refine ⟨o, m, ?_, g2, g3⟩
        rw [del_ne (fun e => by rw [e, r4h6] at g0; cases g0)]
        refine out q o g1 (fun e => ?_) fun hm => k8.dis q hm (List.mem_of_getElem? hq)
        obtain ⟨es, clk, rfl⟩ := isMap_of g2
        have := k8.box
        unfold Box at this
        rw [← e, g1] at this; cases this
      · refine (OwnS.frame (h' := V.del (V.dels h27 (r :: a80.block :: ids)) r4) o6 fun a ob ha' hob => ?_).bools
        obtain ⟨g1, arr, g2⟩ := o6.blk ha'
        rw [del_ne (fun e => by rw [e, show h2 r4 = _ from b4] at g1; cases g1)]
        exact lC6 _ _ hob
    generalize hCdef : V.dels h27 (r :: a80.block :: ids) = hC at *
    have nC : ∀ q ∈ r :: a80.block :: ids, hC q = none := fun q hq => by rw [← hCdef]; exact dels_in hq
    have ar80 : ∀ a, ar.a = some a → a.block ≠ a80.block := fun a ha' e => by
      obtain ⟨g1, arr, g2⟩ := o28.blk ha'
      rw [e, del_ne b80r, h80] at g1; cases g1
    have kS : SolW hC h28 p r sa sf vs ar s80 cs ws ids (L0 p) false := by
      refine ⟨lCD.trans l28, box28, nC r (by simp), fun f q hq => ?_, ⟨p.arrays.map labA, OwnS.rebase o28 fun a ha' => ?_, by simp, fun i x hx => ?_⟩, ⟨List.replicate p.funcs.length 0, ?_, by simp, fun i x hx => ?_⟩, fun a b ha' hb' e => ?_⟩
      · have hm : q ∈ ids := List.mem_of_getElem? hq
        exact ⟨nC q (by simp [hm]), _, [], l28 _ _ (idsD q hm), MapRep.empty _, fun v => by rw [mget_nil]; rfl⟩
      · exact lCD.nil (o28.blk ha').1
      · rw [List.getElem?_map] at hx
        cases hpa : p.arrays[i]? with
        | none => rw [hpa] at hx; cases hx
        | some y =>
          rw [hpa] at hx
          cases hx
          unfold L0
          simp only [hpa, labA]
      · have : OwnS h8 h28 s80 42 1 (List.replicate p.funcs.length (iV 0)) := o27.frame fun a ob ha' hob => l28 _ _ (by rw [ha80] at ha'; cases ha'; rw [del_ne b80r]; exact hob)
        rw [List.map_replicate]
        exact OwnS.rebase this fun a ha' => by rw [ha80] at ha'; cases ha'; exact nC _ (by simp)
      · rw [List.getElem?_replicate] at hx
        split at hx
        · cases hx; rfl
        · cases hx
      · rw [ha80] at hb'
        cases hb'
        exact ar80 a ha' e
    refine kS.turn (b := true) fun h38 k38 _ => ?_
    refine of_main k38 (cC.le (del_le _ _)) ok (fun f hf' => by have := (few.all f hf').blocks; omega) (b2'.le lC6) fun h39 L k39 hL => ?_
    have b4' : Box h39 r4 [.slice none 0 0, .slice none 0 0, .slice none 0 0, .slice none 0 0] 33 := k39.le _ _ (lC6 _ _ r4h6)
    refine ⟨(vs, ar, s80, cs, ()), ?_, ?_⟩
    · refine cellsAt_of fun n v hv => ?_
      rw [Addr.add_add]
      refine k39.box.cell ?_
      rw [Nat.zero_add]
      match n, hv with
      | 0, hv => exact hv
      | 1, hv => exact hv
      | 2, hv => exact hv
      | 3, hv => exact hv
    · refine StL_box (h := V.del h39 r4) b4' rfl (del_le _ _) (del_self _ _) fun h51 l51 b51 f51 => ⟨(vs, ar, s80, cs, ()), b51.cells, Wk_self (hR2 ok h51 vs ar s80 cs L (fun q o hq => ?_) ⟨?_, ?_, ?_, ?_⟩ hL)⟩
      · have hq1 := l1 _ _ hq
        have ne : q ≠ r4 := fun e => by rw [e, hr4] at hq1; cases hq1
        rw [f51 q ne]
        exact k39.le _ _ (lC6 _ _ (l6 _ _ (l2 _ _ hq1)))
      · have l4 : Le (V.del hC r4) h51 := fun q o hq => by
          have ne : q ≠ r4 := fun e => by rw [e, del_self] at hq; cases hq
          rw [f51 q ne]
          rw [del_ne ne] at hq
          exact k39.le _ _ hq
        obtain ⟨v1, v2, v3, v4⟩ := cC.vals.le mono_map l4
        refine ⟨by simpa [hlen] using v1, v2, v3, fun i hi => ?_⟩
        have hi' : i < ids.length := by simpa [hlen] using hi
        obtain ⟨a, g1, g2⟩ := v4 i hi'
        refine ⟨a, g1, ids[i], ?_⟩
        obtain ⟨_, o, m, m1, m2, m3⟩ := k39.maps i _ (List.getElem?_eq_getElem hi')
        obtain ⟨es, clk, rfl⟩ := isMap_of m2
        refine ⟨_, m, g2, ?_, m2, fun v => ?_⟩
        · rw [f51 _ (fun e => ?_)]
          · exact m1
          · unfold Box at b4'
            rw [← e, m1] at b4'; cases b4'
        · rw [m3]; simp
      · obtain ⟨l, g1, g2, g3⟩ := k39.arrs
        have e : l = (List.range p.arrays.length).map fun i => L (.arr i) := by
          apply List.ext_getElem?
          intro i
          rw [List.getElem?_map]
          by_cases hi : i < p.arrays.length
          · rw [List.getElem?_range hi, List.getElem?_eq_getElem (by omega)]
            exact congrArg some (g3 i _ (List.getElem?_eq_getElem (by omega)))
          · rw [List.getElem?_eq_none (by omega), List.getElem?_eq_none (by simpa using hi)]; rfl
        rw [← e]
        exact (OwnS.frame (h' := h51) g1 fun a ob ha' hob => (f51 _ (own_box g1 b4' (by decide) ha')).trans hob).ints
      · obtain ⟨l, g1, g2, g3⟩ := k39.rets
        have e : l = (List.range p.funcs.length).map fun i => L (.ret i) := by
          apply List.ext_getElem?
          intro i
          rw [List.getElem?_map]
          by_cases hi : i < p.funcs.length
          · rw [List.getElem?_range hi, List.getElem?_eq_getElem (by omega)]
            exact congrArg some (g3 i _ (List.getElem?_eq_getElem (by omega)))
          · rw [List.getElem?_eq_none (by omega), List.getElem?_eq_none (by simpa using hi)]; rfl
        rw [← e]
        exact (OwnS.frame (h' := h51) g1 fun a ob ha' hob => (f51 _ (own_box g1 b4' (by decide) ha')).trans hob).ints
      · have := k8.oc.1
        simp at this
        omega
end Go.Proofs.Ytaefmhephoilmaa

/- What functions of the program ask of a view of memory: printed by shal.py. -/
namespace Go.Proofs.Ytaefmhephoilmaa
open Go Go.VL
set_option maxRecDepth 100000
/- palings/palingslaw12.from.1 -/
def an29 : An := (.two .nil (.two .nil .nil))
def S29 (p0 : Int) (p1 : Int) (c0 : Addr) (h : V) (R : Value → V → Prop) : Prop :=
  Ld h c0 .sl fun (x7 : Sl) =>
  cond (decide (p0 < (((x7.n : Nat) : Int))))
  (Ld h c0 .sl fun (x11 : Sl) =>
  Ix x11 p0 1 fun a13 =>
  Ld h a13 .mp fun (x14 : Option Nat) =>
  Look h x14 (.int .i64) (.int .i64 p1) (.one .bool) false fun (x16 : Bool) _ =>
  Wk h fun h1 => R (.bool x16) h1)
  (Wk h fun h2 => R (.bool false) h2)
theorem S29_eq (p0 : Int) (p1 : Int) (c0 : Addr) (h : V) (R : Value → V → Prop) : ABody Try.prog an29 Try.f29 [(.int .i64 p0), (.int .i64 p1), (.pointer (some c0))] h R = S29 p0 p1 c0 h R := by kernel_rfl
theorem S29_ok (p0 : Int) (p1 : Int) (c0 : Addr) (h : V) (R : Value → V → Prop) (hk : S29 p0 p1 c0 h R) : ACalls Try.prog 29 [(.int .i64 p0), (.int .i64 p1), (.pointer (some c0))] h R :=
  ABody_sound mixed Try.func29 Try.call29 (by kernel_rfl) (by kernel_rfl) (an := an29) (by rw [S29_eq]; exact hk)

/- palings/palingslaw12.from.2 -/
def an30 : An := (.cut [(23, (.one .bool))] .nil (.two .nil .nil))
def S30 (p0 : Int) (p1 : Bool) (p2 : Bool) (c0 : Addr) (c1 : Addr) (c2 : Addr) (c3 : Addr) (h : V) (R : Value → V → Prop) : Prop :=
  Cut (σ := (Bool × Unit)) (fun s h1 =>
  cond s.1
  (Ld h1 (Addr.add c3 0) .sl fun (x25 : Sl) =>
  Ld h1 c2 (.int .i64) fun (x26 : Int) =>
  Ix x25 x26 1 fun a27 =>
  Ld h1 a27 .mp fun (x28 : Option Nat) =>
  MUpd h1 x28 (.int .i64) (.int .i64 p0) (.bool true) fun h2 =>
  Wk h2 fun h3 => R (.tuple ⟨[]⟩) h3)
  (Wk h1 fun h4 => R (.tuple ⟨[]⟩) h4)) fun J =>
  cond p1
  (Ld h c0 .bool fun (x12 : Bool) =>
  cond x12
  (Wk h fun h5 => J (true, ()) h5)
  (Ld h c1 .raw fun (x14 : Value) =>
  Ld h c2 (.int .i64) fun (x15 : Int) =>
  CallV Try.prog x14 [(.int .i64 x15), (.int .i64 p0)] h (.un (.one .bool)) fun (x17 : Bool) h6 =>
  cond (!x17)
  (Wk h6 fun h7 => J (true, ()) h7)
  (Wk h6 fun h8 => J (p2, ()) h8)))
  (Wk h fun h9 => J (p2, ()) h9)
theorem S30_eq (p0 : Int) (p1 : Bool) (p2 : Bool) (c0 : Addr) (c1 : Addr) (c2 : Addr) (c3 : Addr) (h : V) (R : Value → V → Prop) : ABody Try.prog an30 Try.f30 [(.int .i64 p0), (.bool p1), (.bool p2), (.pointer (some c0)), (.pointer (some c1)), (.pointer (some c2)), (.pointer (some c3))] h R = S30 p0 p1 p2 c0 c1 c2 c3 h R := by kernel_rfl
theorem S30_ok (p0 : Int) (p1 : Bool) (p2 : Bool) (c0 : Addr) (c1 : Addr) (c2 : Addr) (c3 : Addr) (h : V) (R : Value → V → Prop) (hk : S30 p0 p1 p2 c0 c1 c2 c3 h R) : ACalls Try.prog 30 [(.int .i64 p0), (.bool p1), (.bool p2), (.pointer (some c0)), (.pointer (some c1)), (.pointer (some c2)), (.pointer (some c3))] h R :=
  ABody_sound mixed Try.func30 Try.call30 (by kernel_rfl) (by kernel_rfl) (an := an30) (by rw [S30_eq]; exact hk)

/- palings/palingslaw12.from -/
def an11 : An := (.two .nil (.two (.perm [0, 1, 2, 4, 5, 6, 3, 7, 8, 9, 10] []) (.two .nil (.two .nil (.two (.two .nil (.one (.loop [(8, (.one .bool)), (62, (.one (.int .i64)))] (.two .nil (.two (.two .nil .nil) (.two (.one (.two .nil (.two .nil (.two .nil (.one (.loop [(8, (.one .bool)), (75, (.one (.int .i64)))] (.two .nil (.two (.two .nil .nil) (.two (.one (.two .nil (.two .nil (.one (.loop [(8, (.one .bool)), (82, (.one (.int .i64)))] (.two .nil (.two (.two .nil .nil) (.two (.one (.two .nil (.cut [(8, (.one .bool))] .nil (.two .nil (.two .nil .nil))))) .nil)))))))) .nil))))))))) .nil)))))) (.two (.two .nil (.one (.loop [(105, (.one (.int .i64)))] (.two .nil (.two (.two .nil .nil) (.two (.one (.two .nil .nil)) .nil)))))) (.two .nil (.two .nil (.cut [] (.two .nil (.two .nil .nil)) (.two .nil (.two .nil (.two (.two .nil (.one (.loop [(21, (.one (.int .i64))), (130, (.one (.int .i64)))] (.two .nil (.two (.two .nil .nil) (.two (.one (.two .nil (.two .nil (.two .nil (.one (.loop [(21, (.one (.int .i64))), (139, (.one (.int .i64)))] (.two .nil (.two (.two .nil .nil) (.two (.one (.two .nil .nil)) .nil))))))))) .nil)))))) (.two (.two .nil (.one (.loop [(26, (.one (.int .i64)))] (.two (.two .nil (.two .nil .nil)) (.two (.one (.two .nil (.one (.loop [(167, (.one (.int .i64)))] (.two .nil (.two (.two .nil .nil) (.two (.one (.two .nil (.two .nil (.two .nil (.two .nil (.one (.loop [(178, (.one (.int .i64)))] (.two .nil (.two (.two .nil .nil) (.two (.one (.two .nil (.two (.two .nil (.two .nil .nil)) (.two (.two .nil (.one (.loop [(191, (.one (.int .i64)))] (.two .nil (.two (.two .nil .nil) (.two (.one (.two .nil (.two .nil (.two .nil (.two (.two .nil (.one (.loop [(35, (.one .bool)), (36, (.one .bool)), (198, (.one (.int .i64)))] (.two .nil (.two (.two .nil .nil) (.two (.one (.two .nil (.cut [(35, (.one .bool))] .nil .nil))) .nil)))))) (.two .nil (.one (.two .nil (.two .nil (.cut [(233, (.one .bool))] (.two .nil (.two .nil .nil)) (.two (.cut [(39, (.one .bool))] .nil (.perm [0, 1, 2, 3, 4, 5, 6, 7, 8, 9, 10, 11, 12, 13, 14, 15, 16, 17, 18, 19, 20, 21, 22, 23, 24] [])) (.two .nil (.two (.perm [0, 1, 2, 3, 4, 5, 6, 7, 8, 9, 10, 11, 12, 13, 14, 15, 16, 17, 18, 19, 20, 21, 22, 23] []) (.two .nil (.two (.perm [0, 1, 2, 3, 4, 5, 6, 7, 8, 9, 10, 11, 12, 13, 14, 15, 16, 17, 18, 19, 20, 21, 22, 23] []) (.two .nil (.two (.two (.two .nil (.one (.loop [(341, (.one (.int .i64)))] (.two .nil (.two (.two .nil .nil) (.two (.one (.two .nil (.perm [0, 1, 2, 3, 4, 5, 6, 7, 8, 9, 10, 11, 12, 13, 14, 15, 16, 17, 18, 19, 20, 21, 22, 23, 24, 25, 26, 27, 28] []))) .nil)))))) (.perm [0, 1, 2, 3, 4, 5, 6, 7, 8, 9, 10, 11, 12, 13, 14, 15] [])) .nil))))))))))))))))) .nil)))))) (.two (.two .nil (.one (.loop [(396, (.one (.int .i64)))] (.two .nil (.two (.two .nil .nil) (.two (.one (.two .nil (.two .nil (.one (.loop [(408, (.one (.int .i64)))] (.two .nil (.two (.two .nil .nil) (.two (.one (.two .nil (.perm [0, 1, 2, 3, 4, 5, 6, 7, 8, 9, 10, 11, 12, 13, 14, 15, 16, 17, 18, 19, 20, 21, 22, 23, 24] []))) .nil)))))))) .nil)))))) (.two .nil (.two (.perm [0, 1, 2, 3, 4, 5, 6, 7, 8, 9, 10, 11, 12, 13, 14, 15, 16, 17, 18, 19, 20] []) .nil))))))) .nil)))))))))) .nil))))))) .nil))))) (.two .nil .nil))))))))))))))
def S11 (p0_0 : Sl) (p0_1 : Sl) (p0_2 : Int) (p1 : Sl) (p2 : Int) (h : V) (R : Value → V → Prop) : Prop :=
  New h (.cells #[(.slice p0_0.a p0_0.n p0_0.c), (.slice p0_1.a p0_1.n p0_1.c), (.int .i64 p0_2)] 25) fun r3 h1 =>
  New h1 (.cells #[(.slice p1.a p1.n p1.c)] 26) fun r4 h2 =>
  New h2 (.cells #[(.slice none 0 0), (.slice none 0 0), (.slice none 0 0)] 40) fun r6 h3 =>
  Ld h3 (Addr.add (⟨r3, 0, none⟩) 0) .sl fun (x47 : Sl) =>
  Ld h3 (Addr.add (⟨r3, 0, none⟩) 1) .sl fun (x51 : Sl) =>
  MkSl h3 (((x47.n : Nat) : Int)) (((x47.n : Nat) : Int)) [(.bool false)] 4 1 fun s49 h4 =>
  MkSl h4 (((x51.n : Nat) : Int)) (((x51.n : Nat) : Int)) [(.bool false)] 4 1 fun s53 h5 =>
  New h5 (.cells #[(.slice none 0 0), (.slice none 0 0), (.slice none 0 0)] 40) fun r7 h6 =>
  StL h6 (⟨r7, 0, none⟩) 0 [(.slice none 0 0), (.slice s49.a s49.n s49.c), (.slice s53.a s53.n s53.c)] fun h7 =>
  Ld h7 (Addr.add (⟨r3, 0, none⟩) 0) .sl fun (x56 : Sl) =>
  MkSl h7 (((x56.n : Nat) : Int)) (((x56.n : Nat) : Int)) [(.bool false)] 4 1 fun s58 h8 =>
  Ld h8 (Addr.add (⟨r3, 0, none⟩) 1) .sl fun (x60 : Sl) =>
  Lp (σ := (Bool × Int × Unit)) (fun K s h9 =>
  cond (decide (s.2.1 < (((x60.n : Nat) : Int))))
  (Ix x60 s.2.1 2 fun a64 =>
  LdA h9 a64 [.str, .sl] fun (x65 : ((ByteArray) × (Sl) × Unit)) =>
  New h9 (.cells #[(.string (⟨#[]⟩)), (.slice none 0 0)] 46) fun r11 h10 =>
  StL h10 (⟨r11, 0, none⟩) 0 [(.string x65.1), (.slice x65.2.1.a x65.2.1.n x65.2.1.c)] fun h11 =>
  Ld h11 (Addr.add (⟨r7, 0, none⟩) 0) .sl fun (x67 : Sl) =>
  New h11 (.map #[] 0) fun r68 h12 =>
  New h12 (.cells #[(.map ((some r68)))] 29) fun r69 h13 =>
  App h13 x67 ⟨(some ⟨r69, 0, none⟩), 1, 1⟩ 29 1 8 [(.map none)] fun s70 h14 =>
  StL h14 (Addr.add (⟨r7, 0, none⟩) 0) 0 [(.slice s70.a s70.n s70.c)] fun h15 =>
  Ld h15 (Addr.add (⟨r11, 0, none⟩) 1) .sl fun (x73 : Sl) =>
  Lp (σ := (Bool × Int × Unit)) (fun K_1 s_1 h16 =>
  cond (decide (s_1.2.1 < (((x73.n : Nat) : Int))))
  (Ix x73 s_1.2.1 6 fun a77 =>
  LdA h16 a77 [.sl, .sl, (.int .i64), (.int .i64), .sl, (.int .i64)] fun (x78 : ((Sl) × (Sl) × (Int) × (Int) × (Sl) × (Int) × Unit)) =>
  New h16 (.cells #[(.slice none 0 0), (.slice none 0 0), (.int .i64 ((0 : Int))), (.int .i64 ((0 : Int))), (.slice none 0 0), (.int .i64 ((0 : Int)))] 55) fun r13 h17 =>
  StL h17 (⟨r13, 0, none⟩) 0 [(.slice x78.1.a x78.1.n x78.1.c), (.slice x78.2.1.a x78.2.1.n x78.2.1.c), (.int .i64 x78.2.2.1), (.int .i64 x78.2.2.2.1), (.slice x78.2.2.2.2.1.a x78.2.2.2.2.1.n x78.2.2.2.2.1.c), (.int .i64 x78.2.2.2.2.2.1)] fun h18 =>
  Ld h18 (Addr.add (⟨r13, 0, none⟩) 1) .sl fun (x80 : Sl) =>
  Lp (σ := (Bool × Int × Unit)) (fun K_2 s_2 h19 =>
  cond (decide (s_2.2.1 < (((x80.n : Nat) : Int))))
  (Ix x80 s_2.2.1 7 fun a84 =>
  LdA h19 a84 [(.int .i64), (.int .i64), .sl, (.int .i64), (.int .i64), (.int .i64), (.int .i64)] fun (x85 : ((Int) × (Int) × (Sl) × (Int) × (Int) × (Int) × (Int) × Unit)) =>
  New h19 (.cells #[(.int .i64 ((0 : Int))), (.int .i64 ((0 : Int))), (.slice none 0 0), (.int .i64 ((0 : Int))), (.int .i64 ((0 : Int))), (.int .i64 ((0 : Int))), (.int .i64 ((0 : Int)))] 60) fun r15 h20 =>
  StL h20 (⟨r15, 0, none⟩) 0 [(.int .i64 x85.1), (.int .i64 x85.2.1), (.slice x85.2.2.1.a x85.2.2.1.n x85.2.2.1.c), (.int .i64 x85.2.2.2.1), (.int .i64 x85.2.2.2.2.1), (.int .i64 x85.2.2.2.2.2.1), (.int .i64 x85.2.2.2.2.2.2.1)] fun h21 =>
  Cut (σ := (Bool × Unit)) (fun s_3 h22 =>
  Ld h22 (Addr.add (⟨r15, 0, none⟩) 0) (.int .i64) fun (x93 : Int) =>
  cond (x93 == ((4 : Int)))
  (Ld h22 (Addr.add (⟨r15, 0, none⟩) 5) (.int .i64) fun (x97 : Int) =>
  Ix s58 x97 1 fun a98 =>
  StL h22 a98 0 [(.bool true)] fun h23 =>
  Wk h23 fun h24 => K_2 (s_3.1, IntKind.wrap .i64 (s_2.2.1 + ((1 : Int))), ()) h24)
  (Wk h22 fun h25 => K_2 (s_3.1, IntKind.wrap .i64 (s_2.2.1 + ((1 : Int))), ()) h25)) fun J =>
  cond s_2.1
  (Wk h21 fun h26 => J (true, ()) h26)
  (Ld h21 (Addr.add (⟨r15, 0, none⟩) 0) (.int .i64) fun (x89 : Int) =>
  Wk h21 fun h27 => J (x89 == ((6 : Int)), ()) h27))
  (Wk h19 fun h28 => K_1 (s_2.1, IntKind.wrap .i64 (s_1.2.1 + ((1 : Int))), ()) h28))
  (s_1.1, (0 : Int), ()) h18)
  (Wk h16 fun h29 => K (s_1.1, IntKind.wrap .i64 (s.2.1 + ((1 : Int))), ()) h29))
  (s.1, (0 : Int), ()) h15)
  (Ld h9 (Addr.add (⟨r3, 0, none⟩) 0) .sl fun (x103 : Sl) =>
  Lp (σ := (Int × Unit)) (fun K_3 s_4 h30 =>
  cond (decide (s_4.1 < (((x103.n : Nat) : Int))))
  (Ix x103 s_4.1 3 fun a108 =>
  LdA h30 a108 [.str, (.int .i64), (.int .i64)] fun (x109 : ((ByteArray) × (Int) × (Int) × Unit)) =>
  New h30 (.cells #[(.string (⟨#[]⟩)), (.int .i64 ((0 : Int))), (.int .i64 ((0 : Int)))] 66) fun r17 h31 =>
  StL h31 (⟨r17, 0, none⟩) 0 [(.string x109.1), (.int .i64 x109.2.1), (.int .i64 x109.2.2.1)] fun h32 =>
  Ld h32 (Addr.add (⟨r7, 0, none⟩) 1) .sl fun (x111 : Sl) =>
  Ld h32 (Addr.add (⟨r17, 0, none⟩) 1) (.int .i64) fun (x114 : Int) =>
  Ix x111 s_4.1 1 fun a116 =>
  StL h32 a116 0 [(.bool (x114 == ((2 : Int))))] fun h33 =>
  Wk h33 fun h34 => K_3 (IntKind.wrap .i64 (s_4.1 + ((1 : Int))), ()) h34)
  (New h30 (.cells #[(.bool false)] 4) fun r18 h35 =>
  StL h35 (⟨r18, 0, none⟩) 0 [(.bool (p2 == ((2 : Int))))] fun h36 =>
  LdA h36 (⟨r7, 0, none⟩) [.sl, .sl, .sl] fun (x120 : ((Sl) × (Sl) × (Sl) × Unit)) =>
  New h36 (.cells #[(.slice none 0 0), (.slice none 0 0), (.slice none 0 0)] 40) fun r19 h37 =>
  StL h37 (⟨r19, 0, none⟩) 0 [(.slice x120.1.a x120.1.n x120.1.c), (.slice x120.2.1.a x120.2.1.n x120.2.1.c), (.slice x120.2.2.1.a x120.2.2.1.n x120.2.2.1.c)] fun h38 =>
  Cut (σ := (Unit)) (fun _ h39 =>
  New h39 (.cells #[.nilFunc] 87) fun r20 h40 =>
  StL h40 (⟨r20, 0, none⟩) 0 [(.func (.func 29) ⟨[]⟩ ⟨[(.pointer (some (⟨r4, 0, none⟩)))]⟩)] fun h41 =>
  Ld h41 (Addr.add (⟨r3, 0, none⟩) 1) .sl fun (x128 : Sl) =>
  Lp (σ := (Int × Int × Unit)) (fun K_4 s_6 h42 =>
  cond (decide (s_6.2.1 < (((x128.n : Nat) : Int))))
  (Ix x128 s_6.2.1 2 fun a132 =>
  LdA h42 a132 [.str, .sl] fun (x133 : ((ByteArray) × (Sl) × Unit)) =>
  New h42 (.cells #[(.string (⟨#[]⟩)), (.slice none 0 0)] 46) fun r23 h43 =>
  StL h43 (⟨r23, 0, none⟩) 0 [(.string x133.1), (.slice x133.2.1.a x133.2.1.n x133.2.1.c)] fun h44 =>
  Ld h44 (Addr.add (⟨r23, 0, none⟩) 1) .sl fun (x137 : Sl) =>
  Lp (σ := (Int × Int × Unit)) (fun K_5 s_7 h45 =>
  cond (decide (s_7.2.1 < (((x137.n : Nat) : Int))))
  (Ix x137 s_7.2.1 6 fun a141 =>
  LdA h45 a141 [.sl, .sl, (.int .i64), (.int .i64), .sl, (.int .i64)] fun (x142 : ((Sl) × (Sl) × (Int) × (Int) × (Sl) × (Int) × Unit)) =>
  New h45 (.cells #[(.slice none 0 0), (.slice none 0 0), (.int .i64 ((0 : Int))), (.int .i64 ((0 : Int))), (.slice none 0 0), (.int .i64 ((0 : Int)))] 55) fun r25 h46 =>
  StL h46 (⟨r25, 0, none⟩) 0 [(.slice x142.1.a x142.1.n x142.1.c), (.slice x142.2.1.a x142.2.1.n x142.2.1.c), (.int .i64 x142.2.2.1), (.int .i64 x142.2.2.2.1), (.slice x142.2.2.2.2.1.a x142.2.2.2.2.1.n x142.2.2.2.2.1.c), (.int .i64 x142.2.2.2.2.2.1)] fun h47 =>
  Ld h47 (Addr.add (⟨r25, 0, none⟩) 0) .sl fun (x145 : Sl) =>
  Ld h47 (Addr.add (⟨r25, 0, none⟩) 1) .sl fun (x148 : Sl) =>
  Wk h47 fun h48 => K_5 (IntKind.wrap .i64 (s_7.1 + (IntKind.wrap .i64 ((((x145.n : Nat) : Int)) + (((x148.n : Nat) : Int))))), IntKind.wrap .i64 (s_7.2.1 + ((1 : Int))), ()) h48)
  (Wk h45 fun h49 => K_4 (s_7.1, IntKind.wrap .i64 (s_6.2.1 + ((1 : Int))), ()) h49))
  (IntKind.wrap .i64 (s_6.1 + ((1 : Int))), (0 : Int), ()) h44)
  (Lp (σ := (Int × Unit)) (fun K_6 s_8 h50 =>
  Ld h50 (Addr.add (⟨r3, 0, none⟩) 0) .sl fun (x157 : Sl) =>
  cond (decide (s_8.1 < (IntKind.wrap .i64 ((IntKind.wrap .i64 (s_6.1 + (((x157.n : Nat) : Int)))) + ((2 : Int))))))
  (Ld h50 (Addr.add (⟨r3, 0, none⟩) 1) .sl fun (x165 : Sl) =>
  Lp (σ := (Int × Unit)) (fun K_7 s_9 h51 =>
  cond (decide (s_9.1 < (((x165.n : Nat) : Int))))
  (Ix x165 s_9.1 2 fun a170 =>
  LdA h51 a170 [.str, .sl] fun (x171 : ((ByteArray) × (Sl) × Unit)) =>
  New h51 (.cells #[(.int .i64 ((0 : Int)))] 3) fun r27 h52 =>
  New h52 (.cells #[(.string (⟨#[]⟩)), (.slice none 0 0)] 46) fun r28 h53 =>
  StL h53 (⟨r27, 0, none⟩) 0 [(.int .i64 s_9.1)] fun h54 =>
  StL h54 (⟨r28, 0, none⟩) 0 [(.string x171.1), (.slice x171.2.1.a x171.2.1.n x171.2.1.c)] fun h55 =>
  LdA h55 (⟨r28, 0, none⟩) [.str, .sl] fun (x173 : ((ByteArray) × (Sl) × Unit)) =>
  CallK Try.prog 19 [(.agg ⟨[(.string x173.1), (.slice x173.2.1.a x173.2.1.n x173.2.1.c)]⟩)] h55 (.un (.one .sl)) fun (x174 : Sl) h56 =>
  Ld h56 (Addr.add (⟨r28, 0, none⟩) 1) .sl fun (x176 : Sl) =>
  Lp (σ := (Int × Unit)) (fun K_8 s_10 h57 =>
  cond (decide (s_10.1 < (((x176.n : Nat) : Int))))
  (Ix x176 s_10.1 6 fun a181 =>
  LdA h57 a181 [.sl, .sl, (.int .i64), (.int .i64), .sl, (.int .i64)] fun (x182 : ((Sl) × (Sl) × (Int) × (Int) × (Sl) × (Int) × Unit)) =>
  New h57 (.cells #[(.slice none 0 0), (.slice none 0 0), (.int .i64 ((0 : Int))), (.int .i64 ((0 : Int))), (.slice none 0 0), (.int .i64 ((0 : Int)))] 55) fun r32 h58 =>
  StL h58 (⟨r32, 0, none⟩) 0 [(.slice x182.1.a x182.1.n x182.1.c), (.slice x182.2.1.a x182.2.1.n x182.2.1.c), (.int .i64 x182.2.2.1), (.int .i64 x182.2.2.2.1), (.slice x182.2.2.2.2.1.a x182.2.2.2.2.1.n x182.2.2.2.2.1.c), (.int .i64 x182.2.2.2.2.2.1)] fun h59 =>
  Ix x174 s_10.1 1 fun a185 =>
  Ld h59 a185 .bool fun (x186 : Bool) =>
  cond (!x186)
  (Wk h59 fun h60 => K_8 (IntKind.wrap .i64 (s_10.1 + ((1 : Int))), ()) h60)
  (Ld h59 (Addr.add (⟨r32, 0, none⟩) 1) .sl fun (x189 : Sl) =>
  Lp (σ := (Int × Unit)) (fun K_9 s_11 h61 =>
  cond (decide (s_11.1 < (((x189.n : Nat) : Int))))
  (Ix x189 s_11.1 7 fun a193 =>
  LdA h61 a193 [(.int .i64), (.int .i64), .sl, (.int .i64), (.int .i64), (.int .i64), (.int .i64)] fun (x194 : ((Int) × (Int) × (Sl) × (Int) × (Int) × (Int) × (Int) × Unit)) =>
  New h61 (.cells #[(.int .i64 ((0 : Int))), (.int .i64 ((0 : Int))), (.slice none 0 0), (.int .i64 ((0 : Int))), (.int .i64 ((0 : Int))), (.int .i64 ((0 : Int))), (.int .i64 ((0 : Int)))] 60) fun r34 h62 =>
  StL h62 (⟨r34, 0, none⟩) 0 [(.int .i64 x194.1), (.int .i64 x194.2.1), (.slice x194.2.2.1.a x194.2.2.1.n x194.2.2.1.c), (.int .i64 x194.2.2.2.1), (.int .i64 x194.2.2.2.2.1), (.int .i64 x194.2.2.2.2.2.1), (.int .i64 x194.2.2.2.2.2.2.1)] fun h63 =>
  Ld h63 (Addr.add (⟨r34, 0, none⟩) 2) .sl fun (x196 : Sl) =>
  Lp (σ := (Bool × Bool × Int × Unit)) (fun K_10 s_12 h64 =>
  cond (decide (s_12.2.2.1 < (((x196.n : Nat) : Int))))
  (Ix x196 s_12.2.2.1 1 fun a200 =>
  Ld h64 a200 (.int .i64) fun (x201 : Int) =>
  Cut (σ := (Bool × Unit)) (fun s_13 h65 =>
  cond s_12.2.1
  (Wk h65 fun h66 => K_10 (s_13.1, true, IntKind.wrap .i64 (s_12.2.2.1 + ((1 : Int))), ()) h66)
  (Ld h65 (Addr.add (⟨r19, 0, none⟩) 0) .sl fun (x215 : Sl) =>
  Ld h65 (⟨r27, 0, none⟩) (.int .i64) fun (x216 : Int) =>
  Ix x215 x216 1 fun a217 =>
  Ld h65 a217 .mp fun (x218 : Option Nat) =>
  Look h65 x218 (.int .i64) (.int .i64 x201) (.one .bool) false fun (x220 : Bool) _ =>
  Wk h65 fun h67 => K_10 (s_13.1, x220, IntKind.wrap .i64 (s_12.2.2.1 + ((1 : Int))), ()) h67)) fun J_2 =>
  cond s_12.1
  (Wk h64 fun h68 => J_2 (true, ()) h68)
  (Ld h64 (Addr.add (⟨r7, 0, none⟩) 0) .sl fun (x205 : Sl) =>
  Ld h64 (⟨r27, 0, none⟩) (.int .i64) fun (x206 : Int) =>
  Ix x205 x206 1 fun a207 =>
  Ld h64 a207 .mp fun (x208 : Option Nat) =>
  Look h64 x208 (.int .i64) (.int .i64 x201) (.one .bool) false fun (x210 : Bool) _ =>
  Wk h64 fun h69 => J_2 (x210, ()) h69))
  (Ld h64 (Addr.add (⟨r34, 0, none⟩) 0) (.int .i64) fun (x224 : Int) =>
  cond (x224 == ((2 : Int)))
  (Ld h64 (Addr.add (⟨r34, 0, none⟩) 1) (.int .i64) fun (x229 : Int) =>
  CallV Try.prog (.func (.func 30) ⟨[]⟩ ⟨[(.pointer (some (⟨r18, 0, none⟩))), (.pointer (some (⟨r20, 0, none⟩))), (.pointer (some (⟨r27, 0, none⟩))), (.pointer (some (⟨r7, 0, none⟩)))]⟩) [(.int .i64 x229), (.bool s_12.1), (.bool s_12.2.1)] h64 (.tup []) fun (_ : (Unit)) h70 =>
  Wk h70 fun h71 => K_9 (IntKind.wrap .i64 (s_11.1 + ((1 : Int))), ()) h71)
  (Cut (σ := (Bool × Unit)) (fun s_14 h72 =>
  cond s_14.1
  (Cut (σ := (Bool × Unit)) (fun s_15 h73 =>
  Ld h73 (Addr.add (⟨r34, 0, none⟩) 1) (.int .i64) fun (x255 : Int) =>
  cond s_12.1
  (cond s_12.2.1
  (CallV Try.prog (.func (.func 30) ⟨[]⟩ ⟨[(.pointer (some (⟨r18, 0, none⟩))), (.pointer (some (⟨r20, 0, none⟩))), (.pointer (some (⟨r27, 0, none⟩))), (.pointer (some (⟨r7, 0, none⟩)))]⟩) [(.int .i64 x255), (.bool true), (.bool true)] h73 (.tup []) fun (_ : (Unit)) h74 =>
  Wk h74 fun h75 => K_9 (IntKind.wrap .i64 (s_11.1 + ((1 : Int))), ()) h75)
  (Ld h73 (Addr.add (⟨r19, 0, none⟩) 1) .sl fun (x271 : Sl) =>
  Ld h73 (Addr.add (⟨r34, 0, none⟩) 5) (.int .i64) fun (x273 : Int) =>
  Ix x271 x273 1 fun a274 =>
  Ld h73 a274 .bool fun (x275 : Bool) =>
  CallV Try.prog (.func (.func 30) ⟨[]⟩ ⟨[(.pointer (some (⟨r18, 0, none⟩))), (.pointer (some (⟨r20, 0, none⟩))), (.pointer (some (⟨r27, 0, none⟩))), (.pointer (some (⟨r7, 0, none⟩)))]⟩) [(.int .i64 x255), (.bool true), (.bool x275)] h73 (.tup []) fun (_ : (Unit)) h76 =>
  Wk h76 fun h77 => K_9 (IntKind.wrap .i64 (s_11.1 + ((1 : Int))), ()) h77))
  (cond s_15.1
  (cond s_12.2.1
  (CallV Try.prog (.func (.func 30) ⟨[]⟩ ⟨[(.pointer (some (⟨r18, 0, none⟩))), (.pointer (some (⟨r20, 0, none⟩))), (.pointer (some (⟨r27, 0, none⟩))), (.pointer (some (⟨r7, 0, none⟩)))]⟩) [(.int .i64 x255), (.bool true), (.bool true)] h73 (.tup []) fun (_ : (Unit)) h78 =>
  Wk h78 fun h79 => K_9 (IntKind.wrap .i64 (s_11.1 + ((1 : Int))), ()) h79)
  (Ld h73 (Addr.add (⟨r19, 0, none⟩) 1) .sl fun (x271_1 : Sl) =>
  Ld h73 (Addr.add (⟨r34, 0, none⟩) 5) (.int .i64) fun (x273_1 : Int) =>
  Ix x271_1 x273_1 1 fun a274_1 =>
  Ld h73 a274_1 .bool fun (x275_1 : Bool) =>
  CallV Try.prog (.func (.func 30) ⟨[]⟩ ⟨[(.pointer (some (⟨r18, 0, none⟩))), (.pointer (some (⟨r20, 0, none⟩))), (.pointer (some (⟨r27, 0, none⟩))), (.pointer (some (⟨r7, 0, none⟩)))]⟩) [(.int .i64 x255), (.bool true), (.bool x275_1)] h73 (.tup []) fun (_ : (Unit)) h80 =>
  Wk h80 fun h81 => K_9 (IntKind.wrap .i64 (s_11.1 + ((1 : Int))), ()) h81))
  (Ld h73 (Addr.add (⟨r7, 0, none⟩) 1) .sl fun (x262 : Sl) =>
  Ld h73 (Addr.add (⟨r34, 0, none⟩) 5) (.int .i64) fun (x264 : Int) =>
  Ix x262 x264 1 fun a265 =>
  Ld h73 a265 .bool fun (x266 : Bool) =>
  cond s_12.2.1
  (CallV Try.prog (.func (.func 30) ⟨[]⟩ ⟨[(.pointer (some (⟨r18, 0, none⟩))), (.pointer (some (⟨r20, 0, none⟩))), (.pointer (some (⟨r27, 0, none⟩))), (.pointer (some (⟨r7, 0, none⟩)))]⟩) [(.int .i64 x255), (.bool x266), (.bool true)] h73 (.tup []) fun (_ : (Unit)) h82 =>
  Wk h82 fun h83 => K_9 (IntKind.wrap .i64 (s_11.1 + ((1 : Int))), ()) h83)
  (Ld h73 (Addr.add (⟨r19, 0, none⟩) 1) .sl fun (x271_2 : Sl) =>
  Ld h73 (Addr.add (⟨r34, 0, none⟩) 5) (.int .i64) fun (x273_2 : Int) =>
  Ix x271_2 x273_2 1 fun a274_2 =>
  Ld h73 a274_2 .bool fun (x275_2 : Bool) =>
  CallV Try.prog (.func (.func 30) ⟨[]⟩ ⟨[(.pointer (some (⟨r18, 0, none⟩))), (.pointer (some (⟨r20, 0, none⟩))), (.pointer (some (⟨r27, 0, none⟩))), (.pointer (some (⟨r7, 0, none⟩)))]⟩) [(.int .i64 x255), (.bool x266), (.bool x275_2)] h73 (.tup []) fun (_ : (Unit)) h84 =>
  Wk h84 fun h85 => K_9 (IntKind.wrap .i64 (s_11.1 + ((1 : Int))), ()) h85)))) fun J_4 =>
  Ld h72 (⟨r18, 0, none⟩) .bool fun (x236 : Bool) =>
  cond (!x236)
  (Ld h72 (Addr.add (⟨r34, 0, none⟩) 0) (.int .i64) fun (x240 : Int) =>
  cond (x240 == ((5 : Int)))
  (Wk h72 fun h86 => J_4 (true, ()) h86)
  (cond s.1
  (Wk h72 fun h87 => J_4 (true, ()) h87)
  (Ld h72 (Addr.add (⟨r34, 0, none⟩) 5) (.int .i64) fun (x248 : Int) =>
  Ix s58 x248 1 fun a249 =>
  Ld h72 a249 .bool fun (x250 : Bool) =>
  Wk h72 fun h88 => J_4 (x250, ()) h88)))
  (Wk h72 fun h89 => J_4 (false, ()) h89))
  (cond (x224 == ((4 : Int)))
  (Ld h72 (Addr.add (⟨r7, 0, none⟩) 1) .sl fun (x281 : Sl) =>
  Ld h72 (Addr.add (⟨r34, 0, none⟩) 5) (.int .i64) fun (x283 : Int) =>
  Ld h72 (Addr.add (⟨r7, 0, none⟩) 1) .sl fun (x285 : Sl) =>
  Ld h72 (Addr.add (⟨r34, 0, none⟩) 5) (.int .i64) fun (x287 : Int) =>
  Ix x285 x287 1 fun a288 =>
  Ld h72 a288 .bool fun (x289 : Bool) =>
  cond x289
  (Ix x281 x283 1 fun a302 =>
  StL h72 a302 0 [(.bool true)] fun h90 =>
  Wk h90 fun h91 => K_9 (IntKind.wrap .i64 (s_11.1 + ((1 : Int))), ()) h91)
  (Ld h72 (Addr.add (⟨r19, 0, none⟩) 0) .sl fun (x292 : Sl) =>
  Ld h72 (⟨r27, 0, none⟩) (.int .i64) fun (x293 : Int) =>
  Ix x292 x293 1 fun a294 =>
  Ld h72 a294 .mp fun (x295 : Option Nat) =>
  Ld h72 (Addr.add (⟨r34, 0, none⟩) 2) .sl fun (x297 : Sl) =>
  Ix x297 ((0 : Int)) 1 fun a298 =>
  Ld h72 a298 (.int .i64) fun (x299 : Int) =>
  Look h72 x295 (.int .i64) (.int .i64 x299) (.one .bool) false fun (x300 : Bool) _ =>
  Ix x281 x283 1 fun a302_1 =>
  StL h72 a302_1 0 [(.bool x300)] fun h92 =>
  Wk h92 fun h93 => K_9 (IntKind.wrap .i64 (s_11.1 + ((1 : Int))), ()) h93))
  (cond (x224 == ((6 : Int)))
  (Ld h72 (Addr.add (⟨r7, 0, none⟩) 1) .sl fun (x306 : Sl) =>
  Ld h72 (Addr.add (⟨r34, 0, none⟩) 5) (.int .i64) fun (x308 : Int) =>
  Ld h72 (Addr.add (⟨r7, 0, none⟩) 1) .sl fun (x310 : Sl) =>
  Ld h72 (Addr.add (⟨r34, 0, none⟩) 5) (.int .i64) fun (x312 : Int) =>
  Ix x310 x312 1 fun a313 =>
  Ld h72 a313 .bool fun (x314 : Bool) =>
  cond x314
  (Ix x306 x308 1 fun a327 =>
  StL h72 a327 0 [(.bool true)] fun h94 =>
  Wk h94 fun h95 => K_9 (IntKind.wrap .i64 (s_11.1 + ((1 : Int))), ()) h95)
  (Ld h72 (Addr.add (⟨r19, 0, none⟩) 0) .sl fun (x317 : Sl) =>
  Ld h72 (⟨r27, 0, none⟩) (.int .i64) fun (x318 : Int) =>
  Ix x317 x318 1 fun a319 =>
  Ld h72 a319 .mp fun (x320 : Option Nat) =>
  Ld h72 (Addr.add (⟨r34, 0, none⟩) 2) .sl fun (x322 : Sl) =>
  Ix x322 ((1 : Int)) 1 fun a323 =>
  Ld h72 a323 (.int .i64) fun (x324 : Int) =>
  Look h72 x320 (.int .i64) (.int .i64 x324) (.one .bool) false fun (x325 : Bool) _ =>
  Ix x306 x308 1 fun a327_1 =>
  StL h72 a327_1 0 [(.bool x325)] fun h96 =>
  Wk h96 fun h97 => K_9 (IntKind.wrap .i64 (s_11.1 + ((1 : Int))), ()) h97))
  (cond (x224 == ((7 : Int)))
  (Ld h72 (Addr.add (⟨r3, 0, none⟩) 1) .sl fun (x331 : Sl) =>
  Ld h72 (Addr.add (⟨r34, 0, none⟩) 6) (.int .i64) fun (x333 : Int) =>
  Ix x331 x333 2 fun a334 =>
  Ld h72 (Addr.add a334 1) .sl fun (x336 : Sl) =>
  Ix x336 ((0 : Int)) 6 fun a337 =>
  Ld h72 (Addr.add a337 0) .sl fun (x339 : Sl) =>
  Lp (σ := (Int × Unit)) (fun K_11 s_16 h98 =>
  cond (decide (s_16.1 < (((x339.n : Nat) : Int))))
  (Ix x339 s_16.1 1 fun a344 =>
  Ld h98 a344 (.int .i64) fun (x345 : Int) =>
  Ld h98 (Addr.add (⟨r7, 0, none⟩) 0) .sl fun (x347 : Sl) =>
  Ld h98 (Addr.add (⟨r34, 0, none⟩) 6) (.int .i64) fun (x349 : Int) =>
  Ix x347 x349 1 fun a350 =>
  Ld h98 a350 .mp fun (x351 : Option Nat) =>
  Ld h98 (Addr.add (⟨r7, 0, none⟩) 0) .sl fun (x354 : Sl) =>
  Ld h98 (Addr.add (⟨r34, 0, none⟩) 6) (.int .i64) fun (x356 : Int) =>
  Ix x354 x356 1 fun a357 =>
  Ld h98 a357 .mp fun (x358 : Option Nat) =>
  Look h98 x358 (.int .i64) (.int .i64 x345) (.one .bool) false fun (x360 : Bool) _ =>
  cond x360
  (MUpd h98 x351 (.int .i64) (.int .i64 x345) (.bool true) fun h99 =>
  Wk h99 fun h100 => K_11 (IntKind.wrap .i64 (s_16.1 + ((1 : Int))), ()) h100)
  (Ld h98 (Addr.add (⟨r19, 0, none⟩) 0) .sl fun (x363 : Sl) =>
  Ld h98 (⟨r27, 0, none⟩) (.int .i64) fun (x364 : Int) =>
  Ix x363 x364 1 fun a365 =>
  Ld h98 a365 .mp fun (x366 : Option Nat) =>
  Ld h98 (Addr.add (⟨r34, 0, none⟩) 2) .sl fun (x368 : Sl) =>
  Ix x368 s_16.1 1 fun a370 =>
  Ld h98 a370 (.int .i64) fun (x371 : Int) =>
  Look h98 x366 (.int .i64) (.int .i64 x371) (.one .bool) false fun (x372 : Bool) _ =>
  MUpd h98 x351 (.int .i64) (.int .i64 x345) (.bool x372) fun h101 =>
  Wk h101 fun h102 => K_11 (IntKind.wrap .i64 (s_16.1 + ((1 : Int))), ()) h102))
  (Ld h98 (Addr.add (⟨r34, 0, none⟩) 1) (.int .i64) fun (x377 : Int) =>
  Ld h98 (Addr.add (⟨r7, 0, none⟩) 2) .sl fun (x379 : Sl) =>
  Ld h98 (Addr.add (⟨r34, 0, none⟩) 6) (.int .i64) fun (x381 : Int) =>
  Ix x379 x381 1 fun a382 =>
  Ld h98 a382 .bool fun (x383 : Bool) =>
  Ld h98 (Addr.add (⟨r19, 0, none⟩) 2) .sl fun (x385 : Sl) =>
  Ld h98 (Addr.add (⟨r34, 0, none⟩) 6) (.int .i64) fun (x387 : Int) =>
  Ix x385 x387 1 fun a388 =>
  Ld h98 a388 .bool fun (x389 : Bool) =>
  CallV Try.prog (.func (.func 30) ⟨[]⟩ ⟨[(.pointer (some (⟨r18, 0, none⟩))), (.pointer (some (⟨r20, 0, none⟩))), (.pointer (some (⟨r27, 0, none⟩))), (.pointer (some (⟨r7, 0, none⟩)))]⟩) [(.int .i64 x377), (.bool x383), (.bool x389)] h98 (.tup []) fun (_ : (Unit)) h103 =>
  Wk h103 fun h104 => K_9 (IntKind.wrap .i64 (s_11.1 + ((1 : Int))), ()) h104))
  ((0 : Int), ()) h72)
  (Wk h72 fun h105 => K_9 (IntKind.wrap .i64 (s_11.1 + ((1 : Int))), ()) h105))))) fun J_3 =>
  cond (x224 == ((3 : Int)))
  (Wk h64 fun h106 => J_3 (x224 == ((3 : Int)), ()) h106)
  (Wk h64 fun h107 => J_3 (x224 == ((5 : Int)), ()) h107))))
  (false, false, (0 : Int), ()) h63)
  (Ld h61 (Addr.add (Addr.add (⟨r32, 0, none⟩) 2) 2) .sl fun (x394 : Sl) =>
  Lp (σ := (Int × Unit)) (fun K_12 s_17 h108 =>
  cond (decide (s_17.1 < (((x394.n : Nat) : Int))))
  (Ix x394 s_17.1 2 fun a398 =>
  LdA h108 a398 [(.int .i64), .sl] fun (x399 : ((Int) × (Sl) × Unit)) =>
  New h108 (.cells #[(.int .i64 ((0 : Int))), (.slice none 0 0)] 74) fun r43 h109 =>
  StL h109 (⟨r43, 0, none⟩) 0 [(.int .i64 x399.1), (.slice x399.2.1.a x399.2.1.n x399.2.1.c)] fun h110 =>
  Ld h110 (Addr.add (⟨r28, 0, none⟩) 1) .sl fun (x401 : Sl) =>
  Ld h110 (Addr.add (⟨r43, 0, none⟩) 0) (.int .i64) fun (x403 : Int) =>
  Ix x401 x403 6 fun a404 =>
  Ld h110 (Addr.add a404 0) .sl fun (x406 : Sl) =>
  Lp (σ := (Int × Unit)) (fun K_13 s_18 h111 =>
  cond (decide (s_18.1 < (((x406.n : Nat) : Int))))
  (Ix x406 s_18.1 1 fun a411 =>
  Ld h111 a411 (.int .i64) fun (x412 : Int) =>
  Ld h111 (Addr.add (⟨r7, 0, none⟩) 0) .sl fun (x416 : Sl) =>
  Ld h111 (⟨r27, 0, none⟩) (.int .i64) fun (x417 : Int) =>
  Ix x416 x417 1 fun a418 =>
  Ld h111 a418 .mp fun (x419 : Option Nat) =>
  Ld h111 (Addr.add (⟨r43, 0, none⟩) 1) .sl fun (x421 : Sl) =>
  Ix x421 s_18.1 1 fun a423 =>
  Ld h111 a423 (.int .i64) fun (x424 : Int) =>
  Look h111 x419 (.int .i64) (.int .i64 x424) (.one .bool) false fun (x425 : Bool) _ =>
  Ld h111 (Addr.add (⟨r19, 0, none⟩) 0) .sl fun (x427 : Sl) =>
  Ld h111 (⟨r27, 0, none⟩) (.int .i64) fun (x428 : Int) =>
  Ix x427 x428 1 fun a429 =>
  Ld h111 a429 .mp fun (x430 : Option Nat) =>
  Ld h111 (Addr.add (⟨r43, 0, none⟩) 1) .sl fun (x432 : Sl) =>
  Ix x432 s_18.1 1 fun a434 =>
  Ld h111 a434 (.int .i64) fun (x435 : Int) =>
  Look h111 x430 (.int .i64) (.int .i64 x435) (.one .bool) false fun (x436 : Bool) _ =>
  CallV Try.prog (.func (.func 30) ⟨[]⟩ ⟨[(.pointer (some (⟨r18, 0, none⟩))), (.pointer (some (⟨r20, 0, none⟩))), (.pointer (some (⟨r27, 0, none⟩))), (.pointer (some (⟨r7, 0, none⟩)))]⟩) [(.int .i64 x412), (.bool x425), (.bool x436)] h111 (.tup []) fun (_ : (Unit)) h112 =>
  Wk h112 fun h113 => K_13 (IntKind.wrap .i64 (s_18.1 + ((1 : Int))), ()) h113)
  (Wk h111 fun h114 => K_12 (IntKind.wrap .i64 (s_17.1 + ((1 : Int))), ()) h114))
  ((0 : Int), ()) h110)
  (Ld h108 (Addr.add (Addr.add (⟨r32, 0, none⟩) 2) 0) (.int .i64) fun (x442 : Int) =>
  cond (x442 == ((3 : Int)))
  (Ld h108 (Addr.add (⟨r7, 0, none⟩) 2) .sl fun (x445 : Sl) =>
  Ld h108 (⟨r27, 0, none⟩) (.int .i64) fun (x446 : Int) =>
  Ld h108 (Addr.add (⟨r7, 0, none⟩) 2) .sl fun (x448 : Sl) =>
  Ld h108 (⟨r27, 0, none⟩) (.int .i64) fun (x449 : Int) =>
  Ix x448 x449 1 fun a450 =>
  Ld h108 a450 .bool fun (x451 : Bool) =>
  cond x451
  (Ix x445 x446 1 fun a463 =>
  StL h108 a463 0 [(.bool true)] fun h115 =>
  Wk h115 fun h116 => K_8 (IntKind.wrap .i64 (s_10.1 + ((1 : Int))), ()) h116)
  (Ld h108 (Addr.add (⟨r19, 0, none⟩) 0) .sl fun (x454 : Sl) =>
  Ld h108 (⟨r27, 0, none⟩) (.int .i64) fun (x455 : Int) =>
  Ix x454 x455 1 fun a456 =>
  Ld h108 a456 .mp fun (x457 : Option Nat) =>
  Ld h108 (Addr.add (Addr.add (⟨r32, 0, none⟩) 2) 1) (.int .i64) fun (x460 : Int) =>
  Look h108 x457 (.int .i64) (.int .i64 x460) (.one .bool) false fun (x461 : Bool) _ =>
  Ix x445 x446 1 fun a463_1 =>
  StL h108 a463_1 0 [(.bool x461)] fun h117 =>
  Wk h117 fun h118 => K_8 (IntKind.wrap .i64 (s_10.1 + ((1 : Int))), ()) h118))
  (Wk h108 fun h119 => K_8 (IntKind.wrap .i64 (s_10.1 + ((1 : Int))), ()) h119)))
  ((0 : Int), ()) h61))
  ((0 : Int), ()) h59))
  (Wk h57 fun h120 => K_7 (IntKind.wrap .i64 (s_9.1 + ((1 : Int))), ()) h120))
  ((0 : Int), ()) h56)
  (Wk h51 fun h121 => K_6 (IntKind.wrap .i64 (s_8.1 + ((1 : Int))), ()) h121))
  ((0 : Int), ()) h50)
  (LdA h50 (⟨r7, 0, none⟩) [.sl, .sl, .sl] fun (x466 : ((Sl) × (Sl) × (Sl) × Unit)) =>
  StL h50 (⟨r6, 0, none⟩) 0 [(.slice x466.1.a x466.1.n x466.1.c), (.slice x466.2.1.a x466.2.1.n x466.2.1.c), (.slice x466.2.2.1.a x466.2.2.1.n x466.2.2.1.c)] fun h122 =>
  LdA h122 (⟨r6, 0, none⟩) [.sl, .sl, .sl] fun (y : ((Sl) × (Sl) × (Sl) × Unit)) =>
  Wk h122 fun h123 => R (.agg ⟨[(.slice y.1.a y.1.n y.1.c), (.slice y.2.1.a y.2.1.n y.2.1.c), (.slice y.2.2.1.a y.2.2.1.n y.2.2.1.c)]⟩) h123))
  ((0 : Int), ()) h42))
  ((0 : Int), (0 : Int), ()) h41) fun J_1 =>
  Ld h38 (⟨r18, 0, none⟩) .bool fun (x121 : Bool) =>
  cond (!x121)
  (LdA h38 (⟨r3, 0, none⟩) [.sl, .sl, (.int .i64)] fun (x123 : ((Sl) × (Sl) × (Int) × Unit)) =>
  Ld h38 (⟨r4, 0, none⟩) .sl fun (x124 : Sl) =>
  CallK Try.prog 11 [(.agg ⟨[(.slice x123.1.a x123.1.n x123.1.c), (.slice x123.2.1.a x123.2.1.n x123.2.1.c), (.int .i64 x123.2.2.1)]⟩), (.slice x124.a x124.n x124.c), (.int .i64 ((2 : Int)))] h38 (.un (.agg [.sl, .sl, .sl])) fun (x125 : ((Sl) × (Sl) × (Sl) × Unit)) h124 =>
  StL h124 (⟨r19, 0, none⟩) 0 [(.slice x125.1.a x125.1.n x125.1.c), (.slice x125.2.1.a x125.2.1.n x125.2.1.c), (.slice x125.2.2.1.a x125.2.2.1.n x125.2.2.1.c)] fun h125 =>
  Wk h125 fun h126 => J_1 (()) h126)
  (Wk h38 fun h127 => J_1 (()) h127)))
  ((0 : Int), ()) h9))
  (false, (0 : Int), ()) h8
theorem S11_eq (p0_0 : Sl) (p0_1 : Sl) (p0_2 : Int) (p1 : Sl) (p2 : Int) (h : V) (R : Value → V → Prop) : ABody Try.prog an11 Try.f11 [(.agg ⟨[(.slice p0_0.a p0_0.n p0_0.c), (.slice p0_1.a p0_1.n p0_1.c), (.int .i64 p0_2)]⟩), (.slice p1.a p1.n p1.c), (.int .i64 p2)] h R = S11 p0_0 p0_1 p0_2 p1 p2 h R := by kernel_rfl
theorem S11_ok (p0_0 : Sl) (p0_1 : Sl) (p0_2 : Int) (p1 : Sl) (p2 : Int) (h : V) (R : Value → V → Prop) (hk : S11 p0_0 p0_1 p0_2 p1 p2 h R) : ACalls Try.prog 11 [(.agg ⟨[(.slice p0_0.a p0_0.n p0_0.c), (.slice p0_1.a p0_1.n p0_1.c), (.int .i64 p0_2)]⟩), (.slice p1.a p1.n p1.c), (.int .i64 p2)] h R :=
  ABody_sound mixed Try.func11 Try.call11 (by kernel_rfl) (by kernel_rfl) (an := an11) (by rw [S11_eq]; exact hk)

end Go.Proofs.Ytaefmhephoilmaa

/- Own slices of structs: elements, fields, stores. -/
namespace Go.VL
open Go

section
variable {α : Type} {enc : α → List Value} {sz : Nat}
theorem flat_len (he : ∀ x, (enc x).length = sz) : ∀ l : List α, (l.flatMap enc).length = l.length * sz
  | [] => by simp
  | x :: l => by rw [List.flatMap_cons, List.length_append, he, flat_len he l, List.length_cons, Nat.add_mul]; omega
theorem flat_get (he : ∀ x, (enc x).length = sz) : ∀ {l : List α} {k j : Nat} (hk : k < l.length), j < sz → (l.flatMap enc)[k * sz + j]? = (enc l[k])[j]?
  | [], k, j, hk, _ => by simp at hk
  | x :: l, 0, j, hk, hj => by
    rw [List.flatMap_cons, Nat.zero_mul, Nat.zero_add, List.getElem?_append_left (by rw [he]; exact hj)]; rfl
  | x :: l, k + 1, j, hk, hj => by
    rw [List.flatMap_cons, List.getElem?_append_right (by rw [he, Nat.add_mul]; omega), he, show (k + 1) * sz + j - sz = k * sz + j by rw [Nat.add_mul]; omega]
    exact flat_get he (by simpa using hk) hj
def repEnc (enc : α → List Value) (h : V) (a : Addr) (x : α) : Prop := cellsAt h a 0 (enc x)
theorem mono_enc : Mono (repEnc enc) := fun _ _ _ _ l h => cellsAt_le l h
theorem OwnS.slN {h0 h : V} {s : Sl} {T : TypeId} {l : List α} (he : ∀ x, (enc x).length = sz) (hz : 0 < sz) (o : OwnS h0 h s T sz (l.flatMap enc)) : isSl (repEnc enc) sz h s l := by
  have h1 : s.n = l.length := by
    have := o.1; rw [flat_len he] at this; exact (Nat.eq_of_mul_eq_mul_right hz this).symm
  refine ⟨h1, o.2.1, by have := o.2.2.1; omega, fun k hk => ?_⟩
  have h2 : ∃ v, (l.flatMap enc)[k * sz]? = some v := by
    have := flat_get he hk (j := 0) hz
    rw [Nat.add_zero] at this
    rw [this, List.getElem?_eq_getElem (by rw [he]; exact hz)]
    exact ⟨_, rfl⟩
  obtain ⟨v, hv⟩ := h2
  obtain ⟨a, ha, _⟩ := o.cell hv
  refine ⟨a, ha, cellsAt_of fun j w hw => ?_⟩
  have hj : j < sz := by have := (List.getElem?_eq_some_iff.1 hw).1; rwa [he] at this
  obtain ⟨a', ha', hc⟩ := o.cell ((flat_get he hk hj).trans hw)
  rw [ha] at ha'; cases ha'
  rw [Nat.zero_add, Addr.add_add]; exact hc
theorem flat_set (he : ∀ x, (enc x).length = sz) : ∀ {l : List α} {i : Nat} {x : α}, i < l.length → (l.set i x).flatMap enc = (l.flatMap enc).take (i * sz) ++ enc x ++ (l.flatMap enc).drop (i * sz + sz)
  | [], i, x, hi => by simp at hi
  | y :: l, 0, x, hi => by
    simp only [List.set_cons_zero, List.flatMap_cons, Nat.zero_mul, List.take_zero, List.nil_append, Nat.zero_add]
    rw [List.drop_append_of_le_length (by rw [he]; exact Nat.le_refl _), List.drop_of_length_le (by rw [he]; exact Nat.le_refl _), List.nil_append]
  | y :: l, i + 1, x, hi => by
    have ih := flat_set he (l := l) (i := i) (x := x) (by simpa using hi)
    simp only [List.set_cons_succ, List.flatMap_cons]
    rw [ih, show (i + 1) * sz = (enc y).length + i * sz by rw [he, Nat.add_mul]; omega, List.take_append, show (enc y).length + i * sz + sz = (enc y).length + (i * sz + sz) by omega, List.drop_append, List.take_of_length_le (show (enc y).length ≤ (enc y).length + i * sz by omega), List.drop_of_length_le (show (enc y).length ≤ (enc y).length + (i * sz + sz) by omega)]
    simp
/- a store of some of an element's cells -/
theorem OwnS.setN {h0 h : V} {s : Sl} {T : TypeId} {l : List α} {K : V → Prop} {i : Nat} {d : Nat} {vs : List Value} (x : α) (he : ∀ x, (enc x).length = sz) (o : OwnS h0 h s T sz (l.flatMap enc)) (hle : Le h0 h) (hi : i < l.length)
    (hx : enc x = (enc l[i]).take d ++ vs ++ (enc l[i]).drop (d + vs.length)) (hd : d + vs.length ≤ sz) (hz : 0 < sz)
    (hk : ∀ h', Le h0 h' → OwnS h0 h' s T sz ((l.set i x).flatMap enc) → (∀ b, (∀ a, s.a = some a → b ≠ a.block) → h' b = h b) → K h') : Ix s (i : Int) sz fun a => StL h (a.add d) 0 vs K := by
  have hsn : s.n = l.length := by
    have := o.1; rw [flat_len he] at this; exact (Nat.eq_of_mul_eq_mul_right hz this).symm
  have hfl := flat_len he l
  obtain ⟨h1, h2, h3, h4⟩ := o
  have him : i * sz + sz ≤ s.n * sz := by
    have : (i + 1) * sz ≤ s.n * sz := Nat.mul_le_mul_right _ (by omega)
    rw [Nat.add_mul] at this; omega
  rcases h4 with ⟨ha, hc⟩ | ⟨r, off, arr, ha, hr0, hr, hsz, ht⟩
  · omega
  · refine ⟨_, ha, by omega, by omega, ?_⟩
    have hcm : s.n * sz ≤ s.c * sz := Nat.mul_le_mul_right _ h2
    show StL h (Addr.add (Addr.add ⟨r, off, none⟩ ((i : Int).toNat * sz)) d) 0 vs K
    rw [add_at, add_at, Int.toNat_natCast]
    refine StL_at (h := h) vs arr 0 h (by omega) hr (fun _ _ => rfl) ?_
    rintro h' ⟨arr', hr', hs', he'⟩ hF
    refine hk h' (fun b y hb => (hF b (fun e => by subst e; rw [hr0] at hb; cases hb)).trans (hle _ _ hb)) ⟨by rw [flat_len he, List.length_set, hsn], h2, h3, .inr ⟨r, off, arr', ha, hr0, hr', by rw [hs']; exact hsz, ?_⟩⟩ (fun b hb => hF b (hb _ ha))
    rw [flat_set he hi, hx]
    -- what the element's cells were
    have helt : enc l[i] = ((l.flatMap enc).drop (i * sz)).take sz := by
      apply List.ext_getElem?
      intro j
      by_cases hj : j < sz
      · rw [List.getElem?_take_of_lt hj, List.getElem?_drop, flat_get he hi hj]
      · rw [List.getElem?_take_eq_none (by omega), List.getElem?_eq_none (by rw [he]; omega)]
    rw [he', helt]
    simp only [Nat.add_zero]
    rw [← ht]
    apply List.ext_getElem?
    intro j
    rcases Nat.lt_or_ge j (s.n * sz) with hj | hj
    case inr =>
      rw [List.getElem?_take_eq_none (by omega), List.getElem?_eq_none]
      simp only [List.length_append, List.length_take, List.length_drop, Array.length_toList]
      omega
    rw [List.getElem?_take_of_lt hj, List.getElem?_drop]
    have hal : arr.toList.length = arr.size := Array.length_toList
    by_cases c1 : j < i * sz + d
    · rw [List.append_assoc, List.getElem?_append_left (by rw [List.length_take]; omega), List.getElem?_take_of_lt (by omega)]
      by_cases c0 : j < i * sz
      · rw [List.append_assoc, List.getElem?_append_left (by simp only [List.length_take, List.length_drop]; omega), List.getElem?_take_of_lt c0, List.getElem?_take_of_lt hj, List.getElem?_drop]
      · have e0 : (List.take (i * sz) (List.take (s.n * sz) (List.drop off arr.toList))).length = i * sz := by simp only [List.length_take, List.length_drop]; omega
        rw [List.append_assoc, List.getElem?_append_right (by rw [e0]; omega), e0, List.append_assoc, List.append_assoc, List.getElem?_append_left (by simp only [List.length_take, List.length_drop]; omega)]
        rw [List.getElem?_take_of_lt (by omega), List.getElem?_take_of_lt (by omega), List.getElem?_drop, List.getElem?_take_of_lt (by omega), List.getElem?_drop]
        congr 1; omega
    · have e1 : (List.take (off + (i * sz + d)) arr.toList).length = off + (i * sz + d) := by rw [List.length_take]; omega
      have e0 : (List.take (i * sz) (List.take (s.n * sz) (List.drop off arr.toList))).length = i * sz := by simp only [List.length_take, List.length_drop]; omega
      have e2 : (List.take d (List.take sz (List.drop (i * sz) (List.take (s.n * sz) (List.drop off arr.toList))))).length = d := by simp only [List.length_take, List.length_drop]; omega
      have eo : off + i * sz + d = off + (i * sz + d) := by omega
      rw [eo, List.append_assoc, List.getElem?_append_right (by rw [e1]; omega), e1, show off + j - (off + (i * sz + d)) = j - (i * sz + d) by omega]
      conv => rhs; rw [List.append_assoc, List.getElem?_append_right (by rw [e0]; omega), e0, List.append_assoc, List.append_assoc, List.getElem?_append_right (by rw [e2]; omega), e2, show j - i * sz - d = j - (i * sz + d) by omega]
      by_cases c2 : j - (i * sz + d) < vs.length
      · rw [List.getElem?_append_left c2, List.getElem?_append_left c2]
      · rw [List.getElem?_append_right (by omega), List.getElem?_drop]
        conv => rhs; rw [List.getElem?_append_right (by omega)]
        have e3 : (List.drop (d + vs.length) (List.take sz (List.drop (i * sz) (List.take (s.n * sz) (List.drop off arr.toList))))).length = sz - (d + vs.length) := by simp only [List.length_take, List.length_drop]; omega
        by_cases c3 : j < i * sz + sz
        · rw [List.getElem?_append_left (by rw [e3]; omega), List.getElem?_drop, List.getElem?_take_of_lt (by omega), List.getElem?_drop, List.getElem?_take_of_lt (by omega), List.getElem?_drop]
          congr 1; omega
        · rw [List.getElem?_append_right (by rw [e3]; omega), e3, List.getElem?_drop, List.getElem?_take_of_lt (by omega), List.getElem?_drop]
          congr 1; omega
theorem OwnS.rebaseN {h0 h1 h : V} {s : Sl} {T : TypeId} {sz : Nat} {cs : List Value} (o : OwnS h0 h s T sz cs) (hn : ∀ a, s.a = some a → h1 a.block = none) : OwnS h1 h s T sz cs := by
  obtain ⟨a1, a2, a3, a4⟩ := o
  refine ⟨a1, a2, a3, a4.imp id ?_⟩
  rintro ⟨r, off, arr, a, b, c, d⟩
  exact ⟨r, off, arr, a, hn _ a, c, d⟩
/- one struct more -/
theorem App_enc {h0 h : V} {s : Sl} {T : TypeId} {bytes r : Nat} {x : α} {zero : List Value} {l : List α} {K : Sl → V → Prop} {t : TypeId} (he : ∀ x, (enc x).length = sz) (hz : 0 < sz) (hle : Le h0 h) (o : OwnS h0 h s T sz (l.flatMap enc)) (b : Box h r (enc x) t) (h1 : (enc x).all oneCell = true) (hzl : zero.length = sz) (hpos : 0 < bytes) (hb : (l.length + 1) * bytes ≤ 140737488355328)
    (hk : ∀ s' h', Le h0 h' → OwnS h0 h' s' T sz ((l ++ [x]).flatMap enc) → s'.n = l.length + 1 → (∀ b, (∀ a, s.a = some a → b ≠ a.block) → h b ≠ none → h' b = h b) → (∀ a', s'.a = some a' → (∃ a, s.a = some a ∧ a'.block = a.block) ∨ h a'.block = none) → K s' h') : App h s ⟨some ⟨r, 0, none⟩, 1, 1⟩ T sz bytes zero K := by
  have hsn : s.n = l.length := by
    have := o.1; rw [flat_len he] at this; exact (Nat.eq_of_mul_eq_mul_right hz this).symm
  refine App_own hle o ⟨by rw [he]; simp, fun a ha => by cases ha; exact b.cells⟩ (fun ha => by cases ha) h1 hzl hpos (by rw [hsn]; exact hb) fun s' h' l' o' n' f' d' => hk s' h' l' (by simpa using o') (by rw [n', hsn]) f' d'
end
/- the beginning of a slice, no longer than it may be -/
theorem Slc_one {α : Type} {rep : V → Addr → α → Prop} {h : V} {s : Sl} {x : α} {l : List α} {K : Sl → Prop} (hs : isSl rep 1 h s (x :: l)) (hk : ∀ s', isSl rep 1 h s' [x] → K s') : Slc s none (some 1) (some 1) 1 K := by
  obtain ⟨h1, h2, h3, h4⟩ := hs
  simp only [List.length_cons] at h1
  refine ⟨by simp, by simp, by simp, by simp; omega, hk _ ⟨rfl, by simp, by simp, fun k hk' => ?_⟩⟩
  have e : k = 0 := by simp at hk'; omega
  subst e
  obtain ⟨a, ha, hr⟩ := h4 0 (by simp)
  refine ⟨a.add 0, ?_, ?_⟩
  · simp [ha]
  · rw [Addr.add_add]
    simpa using hr
end Go.VL

/- Own slices that lie apart; what is new in a view; views without a slice's block. -/
namespace Go.VL
open Go

def neB (s t : Sl) : Prop := ∀ a b, s.a = some a → t.a = some b → a.block ≠ b.block
theorem neB.symm {s t : Sl} (h : neB s t) : neB t s := fun a b ha hb e => h b a hb ha e.symm
def V.sub (h' h : V) : V := fun b => match h b with | none => h' b | some _ => none
def V.ex (h : V) (s : Sl) : V := fun b => match s.a with | some a => if b = a.block then none else h b | none => h b
theorem V.sub_le (h' h : V) : Le (V.sub h' h) h' := fun b o hb => by
  unfold V.sub at hb
  cases hx : h b with
  | none => rw [hx] at hb; exact hb
  | some x => rw [hx] at hb; cases hb
theorem V.sub_in {h' h : V} {b : Nat} (hb : h b = none) : V.sub h' h b = h' b := by unfold V.sub; rw [hb]
theorem V.sub_mono {h' h'' h : V} (l : Le h' h'') : Le (V.sub h' h) (V.sub h'' h) := fun b o hb => by
  unfold V.sub at hb ⊢
  cases hx : h b with
  | none => rw [hx] at hb; exact l _ _ hb
  | some x => rw [hx] at hb; cases hb
theorem V.ex_le (h : V) (s : Sl) : Le (V.ex h s) h := fun b o hb => by
  unfold V.ex at hb
  cases hx : s.a with
  | none => rw [hx] at hb; exact hb
  | some a =>
    rw [hx] at hb
    by_cases e : b = a.block
    · simp only [if_pos e] at hb; cases hb
    · simp only [if_neg e] at hb; exact hb
theorem V.ex_in {h : V} {s : Sl} {b : Nat} (hb : ∀ a, s.a = some a → b ≠ a.block) : V.ex h s b = h b := by
  unfold V.ex
  cases hx : s.a with
  | none => rfl
  | some a => exact if_neg (hb a hx)
theorem V.ex_out {h : V} {s : Sl} {b : Nat} {o : Obj} (hb : V.ex h s b = some o) : ∀ a, s.a = some a → b ≠ a.block := fun a ha e => by
  unfold V.ex at hb
  rw [ha] at hb
  simp only [if_pos e] at hb
  cases hb
theorem V.ex_mono {h h' : V} {s : Sl} (l : Le h h') : Le (V.ex h s) (V.ex h' s) := fun b o hb => by
  have hn := V.ex_out hb
  rw [V.ex_in hn] at hb ⊢
  exact l _ _ hb
theorem V.ex_set {h h' : V} {s : Sl} (f : ∀ b, (∀ a, s.a = some a → b ≠ a.block) → h' b = h b) : Le (V.ex h s) (V.ex h' s) := fun b o hb => by
  have hn := V.ex_out hb
  rw [V.ex_in hn] at hb ⊢
  rw [f b hn]; exact hb
theorem OwnS.ne {h0 h1 h2 : V} {s t : Sl} {T T' : TypeId} {sz sz' : Nat} {cs cs' : List Value} (o : OwnS h0 h1 s T sz cs) (o' : OwnS h1 h2 t T' sz' cs') : neB s t := fun a b ha hb e => by
  obtain ⟨_, arr, h⟩ := o.blk ha
  rw [e, (o'.blk hb).1] at h; cases h
theorem OwnS.exs {h0 h : V} {s x : Sl} {T : TypeId} {sz : Nat} {cs : List Value} (o : OwnS h0 h s T sz cs) (hn : neB s x) : OwnS h0 (V.ex h x) s T sz cs :=
  o.frame fun a ob ha hob => by rw [V.ex_in fun b hb => hn a b ha hb]; exact hob
theorem OwnS.subs {h0 h : V} {s : Sl} {T : TypeId} {sz : Nat} {cs : List Value} (o : OwnS h0 h s T sz cs) : OwnS h0 (V.sub h h0) s T sz cs :=
  o.frame fun a ob ha hob => by rw [V.sub_in (o.blk ha).1]; exact hob
theorem OwnS.off {h0 h h' : V} {s x : Sl} {T : TypeId} {sz : Nat} {cs : List Value} (o : OwnS h0 h s T sz cs) (hn : neB s x) (f : ∀ b, (∀ a, x.a = some a → b ≠ a.block) → h' b = h b) : OwnS h0 h' s T sz cs :=
  o.frame fun a ob ha hob => (f _ fun b hb => hn a b ha hb).trans hob
theorem cellq_ex {h : V} {s : Sl} {a : Addr} (hn : ∀ b, s.a = some b → b.block ≠ a.block) : cellq (V.ex h s) a = cellq h a := by
  unfold cellq
  rw [V.ex_in fun b hb e => hn b hb e.symm]
/- a slice that came in, as what its elements' cells are -/
theorem isSl_enc {α β : Type} {rep : V → Addr → α → Prop} {Q : α → β → Prop} {enc : β → List Value} {sz : Nat} {h : V} (he : ∀ x, (enc x).length = sz) (hr : ∀ a x, rep h a x → ∃ y, Q x y ∧ cellsAt h a 0 (enc y)) {s : Sl} : ∀ {xs : List α}, isSl rep sz h s xs →
    ∃ ys : List β, ys.length = xs.length ∧ (∀ (k : Nat) x y, xs[k]? = some x → ys[k]? = some y → Q x y) ∧ slCells h s sz (ys.flatMap enc) ∧ (s.a = none → s.n = 0) := by
  intro xs hs
  obtain ⟨h1, h2, h3, h4⟩ := hs
  have key : ∀ n, n ≤ xs.length → ∃ ys : List β, ys.length = n ∧ (∀ (k : Nat) x y, xs[k]? = some x → ys[k]? = some y → Q x y) ∧ ∀ (k : Nat) y, ys[k]? = some y → ∃ a, s.a = some a ∧ cellsAt h (a.add (k * sz)) 0 (enc y) := by
    intro n
    induction n with
    | zero => intro _; exact ⟨[], rfl, by simp, by simp⟩
    | succ n ih =>
      intro hn
      obtain ⟨ys, e1, e2, e3⟩ := ih (by omega)
      obtain ⟨a, ha, hra⟩ := h4 n (by omega)
      obtain ⟨y, hy1, hy2⟩ := hr _ _ hra
      refine ⟨ys ++ [y], by simp [e1], fun k x z hx hz => ?_, fun k z hz => ?_⟩
      · rcases Nat.lt_or_ge k ys.length with g | g
        · rw [List.getElem?_append_left g] at hz; exact e2 k x z hx hz
        · rw [List.getElem?_append_right g] at hz
          have : k = ys.length := by have := (List.getElem?_eq_some_iff.1 hz).1; simp at this; omega
          subst this
          rw [e1, List.getElem?_eq_getElem (by omega)] at hx
          simp at hz; cases hx; subst hz; exact hy1
      · rcases Nat.lt_or_ge k ys.length with g | g
        · rw [List.getElem?_append_left g] at hz; exact e3 k z hz
        · rw [List.getElem?_append_right g] at hz
          have : k = ys.length := by have := (List.getElem?_eq_some_iff.1 hz).1; simp at this; omega
          subst this
          simp at hz; subst hz
          exact ⟨a, ha, by rw [e1]; exact hy2⟩
  obtain ⟨ys, e1, e2, e3⟩ := key xs.length (Nat.le_refl _)
  refine ⟨ys, e1, e2, ⟨by rw [flat_len he, h1, e1], fun a ha => cellsAt_of fun j v hv => ?_⟩, fun ha => ?_⟩
  · have hj : j < ys.length * sz := by have := (List.getElem?_eq_some_iff.1 hv).1; rwa [flat_len he] at this
    have hz : 0 < sz := by
      rcases Nat.eq_zero_or_pos sz with e | e
      · subst e; omega
      · exact e
    have hk : j / sz < ys.length := Nat.div_lt_of_lt_mul (by rw [Nat.mul_comm]; exact hj)
    have hm : j % sz < sz := Nat.mod_lt _ hz
    have ej : j = j / sz * sz + j % sz := (Nat.div_add_mod' j sz).symm
    rw [ej, flat_get he hk hm] at hv
    obtain ⟨a', ha', hc⟩ := e3 _ _ (List.getElem?_eq_getElem hk)
    rw [ha] at ha'; cases ha'
    have := cellsAt_get hc _ _ hv
    rw [Nat.zero_add, Addr.add_add] at this
    rw [Nat.zero_add, ej]; exact this
  · rcases Nat.eq_zero_or_pos s.n with g | g
    · exact g
    · obtain ⟨a, ha', _⟩ := h4 0 (by omega)
      rw [ha] at ha'; cases ha'
/- slices.Clone -/
theorem clone_own {α : Type} {enc : α → List Value} {sz bytes : Nat} {T : TypeId} {zero : List Value} {h : V} {s : Sl} {ys : List α} {R : Value → V → Prop} (he : ∀ x, (enc x).length = sz) (hz : 0 < sz) (hc : slCells h s sz (ys.flatMap enc)) (h0 : s.a = none → s.n = 0) (h1 : ∀ x, (enc x).all oneCell = true) (hzl : zero.length = sz) (hpos : 0 < bytes) (hb : ys.length * bytes ≤ 140737488355328)
    (hR : ∀ s' h', Le h h' → OwnS h h' s' T sz (ys.flatMap enc) → R (sV s') h') :
    cond (Option.isNone s.a) (Wk h fun h1 => R (.slice none 0 0) h1) (New h (.cells #[] T) fun r5 h2 => App h2 ⟨some ⟨r5, 0, none⟩, 0, 0⟩ s T sz bytes zero fun s7 h3 => Wk h3 fun h4 => R (.slice s7.a s7.n s7.c) h4) := by
  have hn : s.n = ys.length := by have := hc.1; rw [flat_len he] at this; exact (Nat.eq_of_mul_eq_mul_right hz this).symm
  refine cond_b (fun hnn => ?_) (fun hnn => ?_)
  · have ha : s.a = none := by simpa using hnn
    have : ys = [] := List.eq_nil_of_length_eq_zero (by rw [← hn, h0 ha])
    subst this
    exact Wk_self (hR ⟨none, 0, 0⟩ _ (Le.refl _) (OwnS_nil _ _ _ _))
  · refine New_box fun r5 h2 hr l2 b5 => ?_
    have o : OwnS h h2 ⟨some ⟨r5, 0, none⟩, 0, 0⟩ T sz [] := ⟨by simp, Nat.le_refl _, Nat.zero_le _, .inr ⟨r5, 0, #[], rfl, hr, b5, by simp, by simp⟩⟩
    have hc2 : slCells h2 s sz (ys.flatMap enc) := ⟨hc.1, fun a ha => cellsAt_le l2 (hc.2 a ha)⟩
    refine App_own l2 o hc2 h0 ?_ hzl hpos (by show (0 + s.n) * bytes ≤ _; rw [hn, Nat.zero_add]; exact hb) fun s' h' l' o' _ f _ => Wk_self (hR s' h' l' (by simpa using o'))
    rw [List.all_flatMap]
    exact List.all_eq_true.2 fun x _ => h1 x
theorem ex_step {h h' : V} {x : Sl} (l : Le (V.ex h x) (V.ex h' x)) {b : Nat} {o : Obj} (hb : h b = some o) (hn : ∀ a, x.a = some a → b ≠ a.block) : h' b = some o := by
  have := l b o (by rw [V.ex_in hn]; exact hb)
  rwa [V.ex_in hn] at this
theorem Box.st {hh : V} {r i : Nat} {vs : List Value} {T : TypeId} {v : Value} {K : V → Prop} (b : Box hh r vs T) (hi : i < vs.length) (hK : ∀ h', Box h' r (vs.set i v) T → (∀ q, q ≠ r → h' q = hh q) → K h') : StL hh (Addr.add ⟨r, 0, none⟩ i) 0 [v] K := by
  have e : Addr.add (Addr.add ⟨r, 0, none⟩ i) 0 = ⟨r, i, none⟩ := by rw [Addr.add_z, add_at, Nat.zero_add]
  unfold StL
  rw [e]
  refine ⟨⟨_, _, 0, 0, b, rfl, by simpa using hi, by simp⟩, ?_⟩
  unfold StL
  refine hK _ ?_ (fun q hq => setc_ne (a := ⟨r, i, none⟩) hq v)
  unfold Box
  have := setc_self (h := hh) (a := ⟨r, i, none⟩) b v
  rw [this]
  simp
theorem OwnS.nbox {h0 h : V} {s : Sl} {T : TypeId} {sz : Nat} {cs : List Value} {r : Nat} {o' : Obj} (o : OwnS h0 h s T sz cs) (hr : h0 r = some o') {a : Addr} (ha : s.a = some a) : a.block ≠ r := fun e => by
  have := (o.blk ha).1
  rw [e, hr] at this; cases this
theorem OwnS.offb {h0 h h' : V} {s : Sl} {r : Nat} {T : TypeId} {sz : Nat} {cs : List Value} (o : OwnS h0 h s T sz cs) (hn : ∀ a, s.a = some a → a.block ≠ r) (f : ∀ b, b ≠ r → h' b = h b) : OwnS h0 h' s T sz cs :=
  o.frame fun a ob ha hob => (f _ (hn a ha)).trans hob
theorem add2 {h h4 : V} {r1 r2 : Nat} {o1 o2 : Obj} (l : Le h h4) (n1 : h r1 = none) (n2 : h r2 = none) (b1 : h4 r1 = some o1) (b2 : h4 r2 = some o2) : ∃ hB, Le h hB ∧ Le hB h4 ∧ hB r1 = some o1 ∧ hB r2 = some o2 ∧ ∀ b, hB b ≠ none → h b ≠ none ∨ b = r1 ∨ b = r2 := by
  refine ⟨fun b => if b = r1 then some o1 else if b = r2 then some o2 else h b, fun b o hb => ?_, fun b o hb => ?_, by simp, ?_, fun b hb => ?_⟩
  · have e1 : b ≠ r1 := fun e => by rw [e, n1] at hb; cases hb
    have e2 : b ≠ r2 := fun e => by rw [e, n2] at hb; cases hb
    simp only [if_neg e1, if_neg e2]; exact hb
  · by_cases e1 : b = r1
    · simp only [if_pos e1] at hb; cases hb; rw [e1]; exact b1
    · by_cases e2 : b = r2
      · simp only [if_neg e1, if_pos e2] at hb; cases hb; rw [e2]; exact b2
      · simp only [if_neg e1, if_neg e2] at hb; exact l _ _ hb
  · by_cases e : r2 = r1
    · simp only [if_pos e]; rw [← b1, ← b2, e]
    · simp only [if_neg e, if_true]
  · by_cases e1 : b = r1
    · exact .inr (.inl e1)
    · by_cases e2 : b = r2
      · exact .inr (.inr e2)
      · simp only [if_neg e1, if_neg e2] at hb; exact .inl hb
end Go.VL

/- The law's own facts in memory. -/
namespace Go.Proofs.Ytaefmhephoilmaa
open Go Go.VL

def arrL (p : ProgD) (B : BF) : List Bool := (List.range p.arrays.length).map fun i => B (.arr i)
def retL (p : ProgD) (B : BF) : List Bool := (List.range p.funcs.length).map fun i => B (.ret i)
theorem rangeL_set {n i : Nat} {g g' : Nat → Bool} {x : Bool} (hi : g' i = x) (hne : ∀ j, j ≠ i → g' j = g j) : ((List.range n).map g).set i x = (List.range n).map g' := by
  apply List.ext_getElem?
  intro j
  rw [List.getElem?_set, List.getElem?_map, List.getElem?_map]
  simp only [List.length_map, List.length_range]
  by_cases e : i = j
  · subst e
    rw [if_pos rfl]
    by_cases h : i < n
    · rw [if_pos h, List.getElem?_range h]
      simp [hi]
    · rw [if_neg h, List.getElem?_eq_none (by simpa using h)]; rfl
  · rw [if_neg e]
    by_cases h : j < n
    · rw [List.getElem?_range h]
      simp [hne j (fun x => e x.symm)]
    · rw [List.getElem?_eq_none (by simpa using h)]; rfl
theorem arrL_put {p : ProgD} {B : BF} {i : Nat} {x : Bool} : (arrL p B).set i x = arrL p (putB B (.arr i) x) := rangeL_set (putB_self _ _ _) fun j hj => putB_ne (fun e => by cases e; exact hj rfl)
theorem retL_put {p : ProgD} {B : BF} {i : Nat} {x : Bool} : (retL p B).set i x = retL p (putB B (.ret i) x) := rangeL_set (putB_self _ _ _) fun j hj => putB_ne (fun e => by cases e; exact hj rfl)
theorem arrL_same {p : ProgD} {B : BF} {t : Tgt} {x : Bool} (h : ∀ i, t ≠ .arr i) : arrL p (putB B t x) = arrL p B := List.map_congr_left fun i _ => putB_ne fun e => h i e.symm
theorem retL_same {p : ProgD} {B : BF} {t : Tgt} {x : Bool} (h : ∀ i, t ≠ .ret i) : retL p (putB B t x) = retL p B := List.map_congr_left fun i _ => putB_ne fun e => h i e.symm
theorem arrL_len (p : ProgD) (B : BF) : (arrL p B).length = p.arrays.length := by simp [arrL]
theorem retL_len (p : ProgD) (B : BF) : (retL p B).length = p.funcs.length := by simp [retL]
theorem arrL_get {p : ProgD} {B : BF} {i : Nat} (h : i < (arrL p B).length) : (arrL p B)[i] = B (.arr i) := by simp [arrL]
theorem retL_get {p : ProgD} {B : BF} {i : Nat} (h : i < (retL p B).length) : (retL p B)[i] = B (.ret i) := by simp [retL]
def mapB (h : V) (q : Nat) (g : Int → Bool) : Prop := ∃ o m, h q = some o ∧ MapRep .bool o m ∧ ∀ v, (mget m v).getD false = g v
theorem mapB.le {h h' : V} {q : Nat} {g : Int → Bool} (m : mapB h q g) (l : Le h h') : mapB h' q g := by obtain ⟨o, m, a, b⟩ := m; exact ⟨o, m, l _ _ a, b⟩
/- facts, as they may be read -/
structure FactR (h : V) (p : ProgD) (sv sa sr : Sl) (B : BF) : Prop where
  vals : ∃ ids, isSl repMap 1 h sv ids ∧ ids.length = p.funcs.length ∧ ∀ (f : Nat) q, ids[f]? = some q → mapB h q fun v => B (.val f v)
  arrs : isSl repBool 1 h sa (arrL p B)
  rets : isSl repBool 1 h sr (retL p B)
theorem FactR.le {h h' : V} {p : ProgD} {sv sa sr : Sl} {B : BF} (f : FactR h p sv sa sr B) (l : Le h h') : FactR h' p sv sa sr B :=
  ⟨by obtain ⟨ids, a, b, c⟩ := f.vals; exact ⟨ids, a.le mono_map l, b, fun f q hq => (c f q hq).le l⟩, f.arrs.le mono_bool l, f.rets.le mono_bool l⟩
/- one's own: what turns -/
structure FcW (hB hh : V) (p : ProgD) (xv xa xr : Sl) (ids : List Nat) (B : BF) : Prop where
  le : Le hB hh
  vals : isSl repMap 1 hB xv ids
  len : ids.length = p.funcs.length
  nd : ids.Nodup
  maps : ∀ (f : Nat) q, ids[f]? = some q → hB q = none ∧ mapB hh q fun v => B (.val f v)
  arrs : OwnS hB hh xa 4 1 ((arrL p B).map Value.bool)
  rets : OwnS hB hh xr 4 1 ((retL p B).map Value.bool)
  dis : neB xa xr
section
variable {hB hh h' : V} {p : ProgD} {xv xa xr : Sl} {ids : List Nat} {B : BF}
theorem FcW.read (k : FcW hB hh p xv xa xr ids B) : FactR hh p xv xa xr B := ⟨⟨ids, k.vals.le mono_map k.le, k.len, fun f q hq => (k.maps f q hq).2⟩, k.arrs.bools, k.rets.bools⟩
theorem own_nomap {s : Sl} {T : TypeId} {xs : List Value} {q : Nat} {g : Int → Bool} (o : OwnS hB hh s T 1 xs) (m : mapB hh q g) {a : Addr} (ha : s.a = some a) : a.block ≠ q := fun e => by
  obtain ⟨ob, mm, h1, h2, _⟩ := m
  obtain ⟨_, arr, h3⟩ := o.blk ha
  rw [e, h1] at h3
  cases h3
  exact MapRep.noCells h2
theorem FcW.view (k : FcW hB hh p xv xa xr ids B) (l : Le hh h') : FcW hB h' p xv xa xr ids B :=
  ⟨k.le.trans l, k.vals, k.len, k.nd, fun f q hq => ⟨(k.maps f q hq).1, (k.maps f q hq).2.le l⟩, k.arrs.le l, k.rets.le l, k.dis⟩
theorem FcW.shrink {hC : V} (k : FcW hC hh p xv xa xr ids B) (l : Le hB hC) (v : isSl repMap 1 hB xv ids) : FcW hB hh p xv xa xr ids B :=
  ⟨l.trans k.le, v, k.len, k.nd, fun f q hq => ⟨l.nil (k.maps f q hq).1, (k.maps f q hq).2⟩, k.arrs.base l, k.rets.base l, k.dis⟩
theorem FcW.grow (k : FcW hB hh p xv xa xr ids B) {q : Nat} {o : Obj} (hq : hh q = none) (l : Le hh h') (hq' : h' q = some o) : FcW (hB.upd q o) h' p xv xa xr ids B ∧ Le hB (hB.upd q o) := by
  have hBq : hB q = none := k.le.nil hq
  have lB := le_upd hBq o
  have ne : ∀ b, hh b ≠ none → hB b = none → (hB.upd q o) b = none := fun b hb hn => by
    rw [upd_ne (fun e => by subst e; exact hb hq)]; exact hn
  refine ⟨⟨fun b ob hb => ?_, k.vals.le mono_map lB, k.len, k.nd, fun f z hz => ?_, OwnS.rebase (k.arrs.le l) fun a ha => ?_, OwnS.rebase (k.rets.le l) fun a ha => ?_, k.dis⟩, lB⟩
  · by_cases e : b = q
    · subst e; rw [upd_self] at hb; cases hb; exact hq'
    · rw [upd_ne e] at hb; exact l _ _ (k.le _ _ hb)
  · obtain ⟨h1, h2⟩ := k.maps f z hz
    obtain ⟨ob, m, g1, _⟩ := h2
    exact ⟨ne z (by rw [g1]; simp) h1, (k.maps f z hz).2.le l⟩
  · obtain ⟨g1, arr, g2⟩ := k.arrs.blk ha; exact ne _ (by rw [g2]; simp) g1
  · obtain ⟨g1, arr, g2⟩ := k.rets.blk ha; exact ne _ (by rw [g2]; simp) g1
/- a map takes an entry -/
theorem FcW.putv (k : FcW hB hh p xv xa xr ids B) {f q : Nat} (hq : ids[f]? = some q) {v : Int} {x : Bool} {K : V → Prop} (hK : ∀ h', FcW hB h' p xv xa xr ids (putB B (.val f v) x) → K h') : MUpd hh (some q) (.int .i64) (.int .i64 v) (.bool x) K := by
  obtain ⟨hn, o, m, h1, h2, h3⟩ := k.maps f q hq
  refine MUpd_map (kd := .bool) (v := x) h1 h2 fun o' ho' => hK _ ?_
  have ne : ∀ b, b ≠ q → (hh.upd q o') b = hh b := fun b hb => upd_ne hb _
  have mq : mapB hh q fun v => B (.val f v) := ⟨o, m, h1, h2, h3⟩
  refine ⟨fun b ob hb => ?_, k.vals, k.len, k.nd, fun f2 q2 hq2 => ⟨(k.maps f2 q2 hq2).1, ?_⟩, ?_, ?_, k.dis⟩
  · rw [ne b (fun e => by subst e; rw [hn] at hb; cases hb)]; exact k.le b ob hb
  · by_cases e : q2 = q
    · subst e
      have ef : f2 = f := (List.getElem?_inj (List.getElem?_eq_some_iff.1 hq2).1 k.nd).1 (hq2.trans hq.symm)
      subst ef
      refine ⟨o', _, upd_self _ _ _, ho', fun u => ?_⟩
      rw [mget_mset]
      show (if v = u then some x else mget m u).getD false = putB B (.val f2 v) x (.val f2 u)
      by_cases g : v = u
      · subst g; rw [if_pos rfl, putB_self]; rfl
      · rw [if_neg g, putB_ne (fun e => by cases e; exact g rfl)]; exact h3 u
    · obtain ⟨_, o2, m2, g1, g2, g3⟩ := k.maps f2 q2 hq2
      refine ⟨o2, m2, (ne q2 e).trans g1, g2, fun u => ?_⟩
      show (mget m2 u).getD false = putB B (.val f v) x (.val f2 u)
      rw [putB_ne (fun g => ?_)]
      · exact g3 u
      · cases g
        rw [hq] at hq2; cases hq2; exact e rfl
  · rw [arrL_same (fun i e => by cases e)]
    exact k.arrs.frame fun a ob ha hob => (ne _ (own_nomap k.arrs mq ha)).trans hob
  · rw [retL_same (fun i e => by cases e)]
    exact k.rets.frame fun a ob ha hob => (ne _ (own_nomap k.rets mq ha)).trans hob
theorem FcW.puta (k : FcW hB hh p xv xa xr ids B) {i : Int} {x : Bool} {K : V → Prop} (h0 : 0 ≤ i) (hi : i.toNat < p.arrays.length) (hK : ∀ h', FcW hB h' p xv xa xr ids (putB B (.arr i.toNat) x) → K h') : Ix xa i 1 fun a => StL hh a 0 [.bool x] K := by
  refine OwnS.set k.arrs k.le h0 (by simpa [arrL_len] using hi) fun h' l' o' f' => hK h' ?_
  refine ⟨l', k.vals, k.len, k.nd, fun f q hq => ⟨(k.maps f q hq).1, ?_⟩, ?_, ?_, k.dis⟩
  · obtain ⟨ob, m, g1, g2, g3⟩ := (k.maps f q hq).2
    exact ⟨ob, m, (f' q fun a ha e => own_nomap k.arrs (k.maps f q hq).2 ha e.symm).trans g1, g2, fun v => (g3 v).trans (putB_ne (fun e => by cases e)).symm⟩
  · rw [← arrL_put, List.map_set]; exact o'
  · rw [retL_same (fun i e => by cases e)]
    exact k.rets.frame fun a ob ha hob => (f' _ fun a2 ha2 e => k.dis a2 a ha2 ha e.symm).trans hob
theorem FcW.putr (k : FcW hB hh p xv xa xr ids B) {i : Int} {x : Bool} {K : V → Prop} (h0 : 0 ≤ i) (hi : i.toNat < p.funcs.length) (hK : ∀ h', FcW hB h' p xv xa xr ids (putB B (.ret i.toNat) x) → K h') : Ix xr i 1 fun a => StL hh a 0 [.bool x] K := by
  refine OwnS.set k.rets k.le h0 (by simpa [retL_len] using hi) fun h' l' o' f' => hK h' ?_
  refine ⟨l', k.vals, k.len, k.nd, fun f q hq => ⟨(k.maps f q hq).1, ?_⟩, ?_, ?_, k.dis⟩
  · obtain ⟨ob, m, g1, g2, g3⟩ := (k.maps f q hq).2
    exact ⟨ob, m, (f' q fun a ha e => own_nomap k.rets (k.maps f q hq).2 ha e.symm).trans g1, g2, fun v => (g3 v).trans (putB_ne (fun e => by cases e)).symm⟩
  · rw [arrL_same (fun i e => by cases e)]
    exact k.arrs.frame fun a ob ha hob => (f' _ fun a2 ha2 e => k.dis a a2 ha ha2 e).trans hob
  · rw [← retL_put, List.map_set]; exact o'
end
/- reading -/
section
variable {h : V} {p : ProgD} {sv sa sr : Sl} {B : BF}
theorem FactR.val (k : FactR h p sv sa sr B) {f : Nat} (hf : f < p.funcs.length) {K : Option Nat → Prop} (hK : ∀ q, (∀ (v : Int) (KK : Bool → Bool → Prop), (∀ b, KK (B (.val f v)) b) → Look h (some q) (.int .i64) (.int .i64 v) (.one .bool) false KK) → K (some q)) :
    Ix sv (f : Int) 1 fun a => Ld h a .mp K := by
  obtain ⟨ids, h1, h2, h3⟩ := k.vals
  refine h1.ixn (by omega) fun a ha => ⟨_, ha, hK _ fun v KK hKK => ?_⟩
  obtain ⟨o, m, g1, g2, g3⟩ := h3 f _ (List.getElem?_eq_getElem (by omega))
  refine Look_map g1 g2 ?_
  rw [g3]; exact hKK _
theorem FactR.arr (k : FactR h p sv sa sr B) {i : Int} (h0 : 0 ≤ i) (hi : i.toNat < p.arrays.length) {K : Bool → Prop} (hK : K (B (.arr i.toNat))) : Ix sa i 1 fun a => Ld h a .bool K :=
  k.arrs.ix h0 (by rw [arrL_len]; exact hi) fun a ha => ⟨_, ha, by rw [arrL_get]; exact hK⟩
theorem FactR.ret (k : FactR h p sv sa sr B) {i : Int} (h0 : 0 ≤ i) (hi : i.toNat < p.funcs.length) {K : Bool → Prop} (hK : K (B (.ret i.toNat))) : Ix sr i 1 fun a => Ld h a .bool K :=
  k.rets.ix h0 (by rw [retL_len]; exact hi) fun a ha => ⟨_, ha, by rw [retL_get]; exact hK⟩
end
end Go.Proofs.Ytaefmhephoilmaa

/- Contracts of the law's own facts: is, set. -/
namespace Go.Proofs.Ytaefmhephoilmaa
open Go Go.VL

structure FcC (hB : V) (p : ProgD) (sa sf pc s58 : Sl) (cutIn : List (Int → Bool)) (r3 r4 r7 r18 r19 r20 : Nat) (xv xa xr zv za zr : Sl) (stay : Bool) (D2 : BF) : Prop where
  b3 : Box hB r3 [sV sa, sV sf, iV p.main] 25
  b4 : Box hB r4 [sV pc] 26
  b7 : Box hB r7 [sV xv, sV xa, sV xr] 40
  b18 : Box hB r18 [.bool stay] 4
  b19 : Box hB r19 [sV zv, sV za, sV zr] 40
  b20 : Box hB r20 [.func (.func 29) ⟨[]⟩ ⟨[.pointer (some ⟨r4, 0, none⟩)]⟩] 87
  arrays : isArrs hB sa p.arrays
  funcs : isFuncs hB sf p.funcs
  cuts : isSl repCut 1 hB pc cutIn
  sets : isSl repBool 1 hB s58 (outOf p.arrays.length (insOfP p))
  sec : (stay = true ∧ zv = xv ∧ za = xa ∧ zr = xr) ∨ (stay = false ∧ FactR hB p zv za zr D2)
theorem FcC.le {hB hC : V} {p : ProgD} {sa sf pc s58 : Sl} {cutIn : List (Int → Bool)} {r3 r4 r7 r18 r19 r20 : Nat} {xv xa xr zv za zr : Sl} {stay : Bool} {D2 : BF} (c : FcC hB p sa sf pc s58 cutIn r3 r4 r7 r18 r19 r20 xv xa xr zv za zr stay D2) (l : Le hB hC) : FcC hC p sa sf pc s58 cutIn r3 r4 r7 r18 r19 r20 xv xa xr zv za zr stay D2 :=
  ⟨c.b3.le l, c.b4.le l, c.b7.le l, c.b18.le l, c.b19.le l, c.b20.le l, c.arrays.le mono_arr l, c.funcs.le mono_func l, c.cuts.le mono_cut l, c.sets.le mono_bool l, c.sec.imp id fun ⟨a, b⟩ => ⟨a, b.le l⟩⟩
def secB (stay : Bool) (D2 : BF) (B : BF) : BF := if stay = true then B else D2
def lvB (stay : Bool) : Int := if stay = true then 2 else 1
def cB (stay : Bool) (D2 : BF) (c : Con) : BCon := conB (lvB stay) (secB stay D2) c
theorem Look_cut {h : V} {q : Option Nat} {g : Int → Bool} {v : Int} {K : Bool → Bool → Prop} (c : cutQ h q g) (hK : ∀ b, K (g v) b) : Look h q (.int .i64) (.int .i64 v) (.one .bool) false K := by
  cases q with
  | none =>
    have : g v = false := c v
    have := hK false
    rw [c v] at this
    exact this
  | some r =>
    obtain ⟨o, m, h1, h2, h3⟩ := c
    refine Look_map h1 h2 ?_
    rw [h3]; exact hK _
section
variable {hB hh : V} {p : ProgD} {sa sf pc s58 : Sl} {cutIn : List (Int → Bool)} {r3 r4 r7 r18 r19 r20 : Nat} {xv xa xr zv za zr : Sl} {stay : Bool} {D2 B : BF} {ids : List Nat}
theorem FcC.zread (c : FcC hB p sa sf pc s58 cutIn r3 r4 r7 r18 r19 r20 xv xa xr zv za zr stay D2) (k : FcW hB hh p xv xa xr ids B) : FactR hh p zv za zr (secB stay D2 B) := by
  rcases c.sec with ⟨rfl, rfl, rfl, rfl⟩ | ⟨rfl, h⟩
  · exact k.read
  · exact h.le k.le
theorem c_is {k v : Int} {R : Value → V → Prop} {hh : V} (c : FcC hB p sa sf pc s58 cutIn r3 r4 r7 r18 r19 r20 xv xa xr zv za zr stay D2) (l : Le hB hh) (h0 : 0 ≤ k) (hR : R (.bool (cutOf cutIn k.toNat v)) hh) : ACalls Try.prog 29 [iV k, iV v, .pointer (some ⟨r4, 0, none⟩)] hh R := by
  have b4 := c.b4.le l
  have hlen := c.cuts.len
  refine S29_ok _ _ _ _ _ ⟨pc, b4.cell0, cond_dec (fun g => ⟨pc, b4.cell0, ?_⟩) (fun g => Wk_self ?_)⟩
  · have g : k < ((pc.n : Nat) : Int) := g
    have hk : k.toNat < cutIn.length := by omega
    refine c.cuts.ix h0 hk fun a ⟨q, hq, hcq⟩ => ⟨q, cellq_le l hq, Look_cut (cutQ_le l hcq) fun _ => Wk_self ?_⟩
    unfold cutOf at hR
    rw [getD_lt hk] at hR
    exact hR
  · have g : ¬ k < ((pc.n : Nat) : Int) := g
    have : cutOf cutIn k.toNat v = false := by
      unfold cutOf
      rw [List.getD_eq_getElem?_getD, List.getElem?_eq_none (by omega)]; rfl
    rw [this] at hR
    exact hR
theorem c_set {k r27 : Nat} {v : Int} {to sure : Bool} {R : Value → V → Prop} (c : FcC hB p sa sf pc s58 cutIn r3 r4 r7 r18 r19 r20 xv xa xr zv za zr stay D2) (w : FcW hB hh p xv xa xr ids B) (b27 : Box hB r27 [iV (k : Int)] 3) (hk : k < p.funcs.length)
    (hR : ∀ h', FcW hB h' p xv xa xr ids (putB B (.val k v) (B (.val k v) || ((to && (stay || !cutOf cutIn k v)) || sure))) → R (.tuple ⟨[]⟩) h') :
    ACalls Try.prog 30 [iV v, .bool to, .bool sure, .pointer (some ⟨r18, 0, none⟩), .pointer (some ⟨r20, 0, none⟩), .pointer (some ⟨r27, 0, none⟩), .pointer (some ⟨r7, 0, none⟩)] hh R := by
  have b27h := b27.le w.le
  refine S30_ok _ _ _ _ _ _ _ _ _ (Cut_i (fun s h1 => hh = h1 ∧ s.1 = ((to && (stay || !cutOf cutIn k v)) || sure)) (fun J hJ => ?_) ?_)
  · refine cond_b (fun ht => ?_) (fun ht => Wk_self (hJ _ _ ⟨rfl, ?_⟩))
    · have ht : to = true := ht
      refine ⟨stay, (c.b18.le w.le).cell0, cond_b (fun hs => Wk_self (hJ _ _ ⟨rfl, ?_⟩)) (fun hs => ?_)⟩
      · have hs : stay = true := hs
        rw [ht, hs]; rfl
      · have hs : stay = false := hs
        refine ⟨_, (c.b20.le w.le).cell0, _, b27h.cell0, ?_⟩
        refine c_is c w.le (by omega) ⟨_, rfl, cond_not (fun g => Wk_self (hJ _ _ ⟨rfl, ?_⟩)) (fun g => Wk_self (hJ _ _ ⟨rfl, ?_⟩))⟩
        · have g : cutOf cutIn ((k : Int)).toNat v = false := g
          rw [Int.toNat_natCast] at g
          rw [ht, hs, g]; rfl
        · have g : cutOf cutIn ((k : Int)).toNat v = true := g
          rw [Int.toNat_natCast] at g
          rw [ht, hs, g]; rfl
    · have ht : to = false := ht
      rw [ht]; rfl
  · rintro ⟨s, u⟩ _ ⟨rfl, hs⟩
    have hs : s = _ := hs
    rw [← hs] at hR
    have hkl : k < ids.length := by rw [w.len]; exact hk
    refine cond_b (fun g => ?_) (fun g => Wk_self (hR hh ?_))
    · have g : s = true := g
      refine ⟨xv, (c.b7.le w.le).cell0, _, b27h.cell0, (w.vals.le mono_map w.le).ixn hkl fun a ha => ⟨_, ha, w.putv (List.getElem?_eq_getElem hkl) fun h' w' => Wk_self (hR h' ?_)⟩⟩
      rw [g, Bool.or_true]; exact w'
    · have g : s = false := g
      rw [g, Bool.or_false, putB_same rfl]; exact w
end
/- labels of facts -/
theorem imax_ge {a b c : Int} : c ≤ imax a b ↔ c ≤ a ∨ c ≤ b := by unfold imax; split <;> omega
theorem valsOf_ge {f : Nat} {args : List Int} {L : LabF} {c : Int} (hc : 0 < c) : c ≤ valsOf f args L ↔ ∃ v ∈ args, c ≤ L (.val f v) := by
  unfold valsOf
  suffices ∀ a : Int, c ≤ args.foldl (fun a v => imax a (L (.val f v))) a ↔ c ≤ a ∨ ∃ v ∈ args, c ≤ L (.val f v) by
    rw [this 0]
    exact ⟨fun h => h.resolve_left (by omega), .inr⟩
  induction args with
  | nil => intro a; simp
  | cons v args ih =>
    intro a
    rw [List.foldl_cons, ih, imax_ge]
    simp only [List.mem_cons, exists_eq_or_imp]
    exact or_assoc
theorem markM_two {D B : BF} {t : Tgt} : 2 ≤ markM D B t ↔ D t = true := by
  unfold markM
  split
  · simp_all
  · split <;> simp_all
theorem markM_one {D B : BF} {t : Tgt} : 1 ≤ markM D B t ↔ D t = true ∨ B t = true := by
  unfold markM
  split
  · simp_all
  · split <;> simp_all
theorem anyF {args : List Int} {g : Int → Bool} : args.any g = true ↔ ∃ v ∈ args, g v = true := by simp
/- what set is told, against what a constraint asks -/
theorem set_src {stay cut to sure : Bool} {x : Int} (h1 : stay = true → ((to || sure) = true ↔ 2 ≤ x)) (h2 : stay = false → (sure = true ↔ 2 ≤ x) ∧ ((to || sure) = true ↔ 1 ≤ x)) : ((to && (stay || !cut)) || sure) = decide (lvB stay ≤ if cut = true then staysD x else x) := by
  have hs2 : 2 ≤ staysD x ↔ 2 ≤ x := by unfold staysD; split <;> omega
  have hs1 : 1 ≤ staysD x ↔ 2 ≤ x := by unfold staysD; split <;> omega
  apply Bool.eq_iff_iff.2
  rw [decide_eq_true_iff]
  cases stay with
  | true =>
    have h1 := h1 rfl
    show _ ↔ (2 : Int) ≤ _
    cases cut
    · rw [if_neg (by simp), ← h1]; simp
    · rw [if_pos rfl, hs2, ← h1]; simp
  | false =>
    obtain ⟨a, b⟩ := h2 rfl
    show _ ↔ (1 : Int) ≤ _
    cases cut
    · rw [if_neg (by simp), ← b]; simp
    · rw [if_pos rfl, hs1, ← a]; simp
end Go.Proofs.Ytaefmhephoilmaa
