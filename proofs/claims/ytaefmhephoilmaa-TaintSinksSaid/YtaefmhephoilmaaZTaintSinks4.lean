/- Contracts of package taint: Writes. -/
import Derived.Test.YtaefmhephoilmaaZTaintSinks3
import Derived.Test.YtaefmhephoilmaaProg
import Derived.KernelRfl
import Derived.WideKeyElems2
namespace Go.Proofs.Ytaefmhephoilmaa
open Go Go.VL

def outOf (n : Nat) (l : List InsD) : List Bool := (List.range n).map fun (k : Nat) => l.any fun i => decide (i.op = 4 ∧ i.arr = (k : Int))
def anyS (l : List InsD) : Bool := l.any fun i => decide (i.op = 6)
def insOfF (f : FuncD) : List InsD := f.blocks.flatMap BlockD.ins
def insOfP (p : ProgD) : List InsD := p.funcs.flatMap insOfF
def writesD (p : ProgD) : List Bool := (outOf p.arrays.length (insOfP p)).map (· || anyS (insOfP p))
theorem outOf_len (n : Nat) (l : List InsD) : (outOf n l).length = n := by simp [outOf]
theorem outOf_one {n : Nat} {l : List InsD} {i : InsD} : outOf n (l ++ [i]) = if i.op = 4 ∧ 0 ≤ i.arr ∧ i.arr.toNat < n then (outOf n l).set i.arr.toNat true else outOf n l := by
  apply List.ext_getElem?
  intro k
  have e1 : ∀ l, (outOf n l)[k]? = if k < n then some (l.any fun i => decide (i.op = 4 ∧ i.arr = (k : Int))) else none := by
    intro l
    unfold outOf
    rw [List.getElem?_map]
    by_cases h : k < n
    · rw [if_pos h, List.getElem?_range h]; rfl
    · rw [if_neg h, List.getElem?_eq_none (by simpa using h)]; rfl
  split
  · rename_i h
    rw [List.getElem?_set, e1, e1]
    by_cases e : i.arr.toNat = k
    · rw [if_pos e]
      have hk : k < n := by omega
      have : i.arr = (k : Int) := by omega
      simp [outOf_len, hk, h.1, this]
    · rw [if_neg e]
      have : ¬ i.arr = (k : Int) := by omega
      simp [this]
  · rename_i h
    rw [e1, e1]
    split
    · rename_i hk
      have : ¬ (i.op = 4 ∧ i.arr = (k : Int)) := fun x => h ⟨x.1, by omega, by omega⟩
      simp [this]
    · rfl
theorem anyS_one {l : List InsD} {i : InsD} : anyS (l ++ [i]) = (anyS l || decide (i.op = 6)) := by simp [anyS]

theorem c_Writes {h : V} {p : ProgD} {sa sf : Sl} {R : Value → V → Prop} (ha : isArrs h sa p.arrays) (hf : isFuncs h sf p.funcs) (hfew : p.arrays.length ≤ 1048576)
    (hR : ∀ s' h', Le h h' → OwnS h h' s' 4 1 ((writesD p).map Value.bool) → (∀ b, h b ≠ none → h' b = h b) → R (sV s') h') : ACalls Try.prog 18 [.agg ⟨[sV sa, sV sf, iV p.main]⟩] h R := by
  refine S18_ok _ _ _ _ _ (New_box fun r1 h1 hr1 l1 b1 => ⟨sa, b1.cell rfl, ?_⟩)
  refine MkSl_own (by rw [ha.len]; omega) (by omega) fun s15 h2 l2 o2 n2 f2 a2 => ⟨sf, (b1.le l2).cell rfl, ?_⟩
  rw [ha.len] at o2 n2
  have hrep : List.replicate p.arrays.length (Value.bool false) = (outOf p.arrays.length []).map Value.bool := by
    apply List.ext_getElem?
    intro k
    simp only [outOf, List.getElem?_map, List.getElem?_replicate]
    by_cases hk : k < p.arrays.length
    · rw [if_pos hk, List.getElem?_range hk]; rfl
    · rw [if_neg hk, List.getElem?_eq_none (by simpa using hk)]; rfl
  rw [hrep] at o2
  have l12 : Le h h1 := l1
  -- one instruction more
  refine Lp_count p.funcs.length (fun k st hh => Le h1 hh ∧ st = (anyS ((p.funcs.take k).flatMap insOfF), (k : Int), ()) ∧ OwnS h1 hh s15 4 1 ((outOf p.arrays.length ((p.funcs.take k).flatMap insOfF)).map Value.bool))
    ⟨l2, rfl, o2⟩ ?_
  rintro k _ h3 K hk ⟨l3, rfl, o3⟩ hK
  refine cond_dec (fun hlt => ?_) (fun hge => ?_)
  · have hk' : k < p.funcs.length := by have := hf.len; simp only at hlt; omega
    rw [flatMap_take_succ hk'] at hK
    generalize (p.funcs.take k).flatMap insOfF = c0 at *
    refine elem_func (hf.le mono_func l1) l3 hk' rfl rfl fun sb hsb r6 h5 l5 l5' hr6 b6 => ⟨sb, b6.cell rfl, ?_⟩
    have hr6' : h1 r6 = none := l3.nil hr6
    refine Lp_count p.funcs[k].blocks.length (fun j st hh => Le h1 hh ∧ st = (anyS (c0 ++ (p.funcs[k].blocks.take j).flatMap BlockD.ins), (j : Int), ()) ∧ OwnS h1 hh s15 4 1 ((outOf p.arrays.length (c0 ++ (p.funcs[k].blocks.take j).flatMap BlockD.ins)).map Value.bool))
      ⟨l5, by simp, by simpa using o3.le l5'⟩ ?_
    rintro j _ h6 K1 hj ⟨l6, rfl, o6⟩ hK1
    refine cond_dec (fun hlt => ?_) (fun hge => ?_)
    · have hj' : j < p.funcs[k].blocks.length := by have := hsb.len; simp only at hlt; omega
      rw [flatMap_take_succ hj', ← List.append_assoc] at hK1
      generalize c0 ++ (p.funcs[k].blocks.take j).flatMap BlockD.ins = c1 at *
      refine elem_block hsb l6 hj' rfl rfl fun q i w hq hi hw r8 h8 l8 l8' hr8 b8 => ⟨i, b8.cell rfl, ?_⟩
      refine Lp_count p.funcs[k].blocks[j].ins.length (fun m st hh => Le h1 hh ∧ st = (anyS (c1 ++ p.funcs[k].blocks[j].ins.take m), (m : Int), ()) ∧ OwnS h1 hh s15 4 1 ((outOf p.arrays.length (c1 ++ p.funcs[k].blocks[j].ins.take m)).map Value.bool))
        ⟨l8, by simp, by simpa using o6.le l8'⟩ ?_
      rintro m _ h9 K2 hm ⟨l9, rfl, o9⟩ hK2
      refine cond_dec (fun hlt => ?_) (fun hge => ?_)
      · have hm' : m < p.funcs[k].blocks[j].ins.length := by have := hi.len; simp only at hlt; omega
        rw [List.take_succ_eq_append_getElem hm', ← List.append_assoc] at hK2
        generalize c1 ++ p.funcs[k].blocks[j].ins.take m = c2 at *
        rw [outOf_one, anyS_one] at hK2
        refine elem_ins hi l9 hm' rfl rfl fun z hz r10 h11 l11 l11' hr10 b10 => ?_
        generalize p.funcs[k].blocks[j].ins[m] = ii at *
        have o11 := o9.le l11'
        refine Cut_i (fun st hh => h11 = hh ∧ st.1 = (anyS c2 || decide (ii.op = 6))) (fun J hJ => ?_) ?_
        · refine cond_b (fun hy => Wk_self (hJ _ _ ⟨rfl, ?_⟩)) (fun hn => ⟨_, b10.cell0, Wk_self (hJ _ _ ⟨rfl, ?_⟩)⟩)
          · have hy : anyS c2 = true := hy
            rw [hy]; rfl
          · have hn : anyS c2 = false := hn
            rw [hn]; simp; rfl
        · rintro ⟨st, u⟩ _ ⟨rfl, e⟩
          have e : st = _ := e
          subst e
          have no : ¬ (ii.op = 4 ∧ 0 ≤ ii.arr ∧ ii.arr.toNat < p.arrays.length) → Wk h11 fun h' => K2 (anyS c2 || decide (ii.op = 6), IntKind.wrap .i64 ((m : Int) + 1), ()) h' := fun hn =>
            Wk_self (hK2 _ _ hm' ⟨l11, by rw [wnat hm' hi.bd], by rw [if_neg hn]; exact o11⟩)
          refine ⟨_, b10.cell0, cond_eqi (fun e4 => ⟨_, b10.cell rfl, cond_dec (fun g0 => ⟨_, b10.cell rfl, cond_dec (fun g1 => ⟨_, b10.cell rfl, ?_⟩) (fun g1 => no ?_)⟩) (fun g0 => no ?_)⟩) (fun n4 => no ?_)⟩
          · have e4 : ii.op = 4 := e4
            have g0 : ii.arr ≥ 0 := g0
            have g1 : ii.arr < (s15.n : Int) := g1
            have hlt2 : ii.arr.toNat < p.arrays.length := by omega
            refine OwnS.set o11 l11 (i := ii.arr) (by omega) (by simpa [outOf_len] using hlt2) fun h13 l13 o13 f13 => ?_
            rw [bset] at o13
            refine Wk_self (hK2 _ _ hm' ⟨l13, by rw [wnat hm' hi.bd], by rw [if_pos ⟨e4, g0, hlt2⟩]; exact o13⟩)
          · have g1 : ¬ ii.arr < (s15.n : Int) := g1
            omega
          · have g0 : ¬ ii.arr ≥ 0 := g0
            omega
          · have n4 : ii.op ≠ 4 := n4
            exact fun x => n4 x.1
      · have : m = p.funcs[k].blocks[j].ins.length := by have := hi.len; simp only at hge; omega
        subst this
        rw [List.take_of_length_le (Nat.le_refl _)] at *
        exact Wk_self (hK1 _ _ hj' ⟨l9, by rw [wnat hj' hsb.bd], o9⟩)
    · have : j = p.funcs[k].blocks.length := by have := hsb.len; simp only at hge; omega
      subst this
      rw [List.take_of_length_le (Nat.le_refl _)] at *
      exact Wk_self (hK _ _ hk' ⟨l6, by rw [wnat hk' hf.bd]; rfl, o6⟩)
  · have : k = p.funcs.length := by have := hf.len; simp only at hge; omega
    subst this
    rw [List.take_of_length_le (Nat.le_refl _)] at *
    have ei : p.funcs.flatMap insOfF = (insOfP p) := rfl
    rw [ei] at *
    -- the last loop
    refine Lp_count p.arrays.length (fun m st hh => Le h1 hh ∧ st = ((m : Int), ()) ∧ OwnS h1 hh s15 4 1 ((((outOf p.arrays.length (insOfP p)).take m).map (· || anyS (insOfP p)) ++ (outOf p.arrays.length (insOfP p)).drop m).map Value.bool))
      ⟨l3, rfl, by simpa [insOfP] using o3⟩ ?_
    rintro m _ h22 K3 hm ⟨l22, rfl, o22⟩ hK3
    refine cond_dec (fun hlt => ?_) (fun hge => ?_)
    · have hm' : m < p.arrays.length := by simp only at hlt; omega
      have hmo : m < (outOf p.arrays.length (insOfP p)).length := by rw [outOf_len]; exact hm'
      have hml : (((outOf p.arrays.length (insOfP p)).take m).map (· || anyS (insOfP p))).length = m := by simp [outOf_len]; omega
      have hget : (((outOf p.arrays.length (insOfP p)).take m).map (· || anyS (insOfP p)) ++ (outOf p.arrays.length (insOfP p)).drop m)[m]? = some ((outOf p.arrays.length (insOfP p))[m]'hmo) := by
        rw [List.getElem?_append_right (by omega), hml, Nat.sub_self, List.getElem?_drop, Nat.add_zero, List.getElem?_eq_getElem hmo]
      have hset : ∀ b, (((outOf p.arrays.length (insOfP p)).take m).map (· || anyS (insOfP p)) ++ (outOf p.arrays.length (insOfP p)).drop m).set m b = ((outOf p.arrays.length (insOfP p)).take m).map (· || anyS (insOfP p)) ++ b :: (outOf p.arrays.length (insOfP p)).drop (m + 1) := by
        intro b
        rw [List.set_append_right _ _ (by omega), hml, Nat.sub_self, List.drop_eq_getElem_cons hmo, List.set_cons_zero]
      have hnext : ∀ b, b = ((outOf p.arrays.length (insOfP p))[m]'hmo || anyS (insOfP p)) → (((outOf p.arrays.length (insOfP p)).take m).map (· || anyS (insOfP p)) ++ (outOf p.arrays.length (insOfP p)).drop m).set m b = ((outOf p.arrays.length (insOfP p)).take (m + 1)).map (· || anyS (insOfP p)) ++ (outOf p.arrays.length (insOfP p)).drop (m + 1) := by
        intro b hb
        rw [hset, hb, List.take_succ_eq_append_getElem hmo, List.map_append, List.append_assoc]
        rfl
      have hlm : m < (((outOf p.arrays.length (insOfP p)).take m).map (· || anyS (insOfP p)) ++ (outOf p.arrays.length (insOfP p)).drop m).length := (List.getElem?_eq_some_iff.1 hget).1
      have bd : p.arrays.length ≤ 9223372036854775807 := by omega
      have sto : ∀ b, b = ((outOf p.arrays.length (insOfP p))[m]'hmo || anyS (insOfP p)) → Ix s15 (m : Int) 1 fun a => StL h22 a 0 [.bool b] fun h23 => Wk h23 fun h24 => K3 (IntKind.wrap .i64 ((m : Int) + 1), ()) h24 := by
        intro b hb
        refine OwnS.set o22 l22 (i := (m : Int)) (by omega) (by simpa using hlm) fun h23 l23 o23 f23 => ?_
        rw [bset, Int.toNat_natCast, hnext b hb] at o23
        exact Wk_self (hK3 _ _ hm' ⟨l23, by rw [wnat hm' bd], o23⟩)
      refine o22.bools.ixn hlm fun a hc => ⟨_, hc, ?_⟩
      have hg2 := (List.getElem?_eq_getElem hlm).symm.trans hget
      have hg2 := Option.some.inj hg2
      refine cond_b (fun hy => sto true ?_) (fun hn => sto _ ?_)
      · rw [hg2] at hy; rw [hy]; rfl
      · rw [hg2] at hn; rw [hn]; rfl
    · have : m = p.arrays.length := by simp only at hge; omega
      subst this
      rw [List.take_of_length_le (by rw [outOf_len]; exact Nat.le_refl _), List.drop_of_length_le (by rw [outOf_len]; exact Nat.le_refl _), List.append_nil] at o22
      refine Wk_self (hR s15 h22 (l1.trans l22) (o22.base l1) fun b hb => ?_)
      cases e : h b with
      | none => exact absurd e hb
      | some ob => exact (l1.trans l22) b ob e
end Go.Proofs.Ytaefmhephoilmaa

/- Contracts of package taint: what Of begins with. -/
namespace Go.Proofs.Ytaefmhephoilmaa
open Go Go.VL

theorem IterAt.mem {kd : Kd} {h : V} {it r : Nat} {m left : List (Int × kd.T)} (i : IterAt kd h it r m left) : ∀ p ∈ left, p ∈ m := by
  obtain ⟨es, clk, seen, _, _, _, hl⟩ := i
  intro p hp
  rw [hl] at hp
  obtain ⟨⟨p1, e1⟩, hp1, rfl⟩ := List.mem_map.1 hp
  exact (List.of_mem_zip (List.mem_filter.1 hp1).1).1
theorem unK_b {b : Bool} {f : Bool → Prop} (h : f b) : unK .bool (.bool b) f := h
/- what a map to truths says, also if there is none -/
def cutQ (h : V) (q : Option Nat) (f : Int → Bool) : Prop := match q with
  | none => ∀ v, f v = false
  | some r => ∃ o m, h r = some o ∧ MapRep .bool o m ∧ ∀ v, (mget m v).getD false = f v
def repCut (h : V) (a : Addr) (f : Int → Bool) : Prop := ∃ q, cellq h a = some (Value.map q) ∧ cutQ h q f
theorem cutQ_le {h h' : V} {q : Option Nat} {f : Int → Bool} (l : Le h h') (c : cutQ h q f) : cutQ h' q f := by
  cases q with
  | none => exact c
  | some r => obtain ⟨o, m, h1, h2⟩ := c; exact ⟨o, m, l _ _ h1, h2⟩
theorem mono_cut : Mono repCut := fun _ _ _ _ l ⟨q, h1, h2⟩ => ⟨q, cellq_le l h1, cutQ_le l h2⟩

theorem copy_map {h : V} {q : Option Nat} {f : Int → Bool} {r45 : Nat} {J : Unit → V → Prop} (hq : cutQ h q f) (h45 : h r45 = some (.map #[] 0)) (hne : ∀ r, q = some r → r ≠ r45)
    (hJ : ∀ h', (∀ b, b ≠ r45 → h b ≠ none → h' b = h b) → (∃ o m, h' r45 = some o ∧ MapRep .bool o m ∧ ∀ v, (mget m v).getD false = f v) → J () h') :
    Rng h q fun r54 h19 => Lp (σ := Unit) (fun K_1 _ h20 => Nxt h20 r54 (fun _ _ h21 => Ent h21 r54 fun k57 v57 => unK (.int .i64) k57 fun (x58 : Int) => unK .bool v57 fun (x59 : Bool) =>
      MUpd h21 (some r45) (.int .i64) (.int .i64 x58) (.bool x59) fun h22 => Wk h22 fun h23 => K_1 () h23) (Wk h20 fun h24 => J () h24)) () h19 := by
  cases q with
  | none =>
    refine Rng_nil fun it h3 hit l3 hi => Lp_inv (fun _ _ hh => h3 = hh) (n := 0) rfl ?_
    rintro _ _ _ K rfl hK
    refine Nxt_nil hi (Wk_self (hJ h3 (fun b _ hb => ?_) ⟨_, [], l3 _ _ h45, MapRep.empty _, fun v => by rw [mget_nil]; exact (hq v).symm⟩))
    cases e : h b with
    | none => exact absurd e hb
    | some o => exact l3 _ _ e
  | some r =>
    obtain ⟨o, m, hr, hm, hg⟩ := hq
    have hrr := hne r rfl
    refine Rng_map (kd := .bool) hr hm fun it h3 hit l3 f3 hI => ?_
    have hit45 : it ≠ r45 := fun e => by subst e; rw [hit] at h45; cases h45
    refine Lp_iter (kd := .bool) (m0 := m) (B := fun K s k v h5 => unK (.int .i64) k fun (x58 : Int) => unK .bool v fun (x59 : Bool) => MUpd h5 (some r45) (.int .i64) (.int .i64 x58) (.bool x59) fun h22 => Wk h22 fun h23 => K () h23)
      (fun m' left _ hh => m' = m ∧ (∀ b, b ≠ r45 → h b ≠ none → hh b = h b) ∧ ∃ o2 m2, hh r45 = some o2 ∧ MapRep .bool o2 m2 ∧ ∀ v, mget m2 v = if v ∈ mkeys left then none else mget m v)
      hI ⟨rfl, fun b _ hb => f3 b (fun e => by subst e; exact hb hit), _, [], l3 _ _ h45, MapRep.empty _, fun v => ?_⟩ ?_ ?_
    · rw [mget_nil]
      split
      · rfl
      · rename_i hv; exact (mget_none.2 hv).symm
    · rintro m' left _ hh h' p K hI1 ⟨rfl, fr, o2, m2, g1, g2, g3⟩ hp hf hI2 hK
      have hpm : (p.1, p.2) ∈ m' := IterAt.mem hI1 p hp
      refine unK_i (unK_b (b := p.2) ?_)
      refine MUpd_map (kd := .bool) (v := p.2) ((hf _ (fun e => hit45 e.symm)).trans g1) g2 fun o' ho' => ?_
      refine Wk_self (hK _ _ _ (hI2.frame (upd_ne hit45 _) (upd_ne hrr _)) ⟨rfl, fun b hb hbn => ?_, o', _, upd_self _ _ _, ho', fun v => ?_⟩)
      · rw [upd_ne hb, hf b (fun e => by subst e; exact hbn hit)]; exact fr b hb hbn
      · rw [mget_mset]
        by_cases e : p.1 = v
        · subst e
          have : ¬ (p.1 ∈ mkeys (left.filter fun q => decide (q.1 ≠ p.1))) := by rw [keys_filter]; exact fun h => h.2 rfl
          rw [if_pos rfl, if_neg this]
          exact ((mget_mem hm.nodup).2 hpm).symm
        · rw [if_neg e, g3 v]
          have : (v ∈ mkeys (left.filter fun q => decide (q.1 ≠ p.1))) ↔ v ∈ mkeys left := by rw [keys_filter]; exact ⟨fun h => h.1, fun h => ⟨h, fun x => e x.symm⟩⟩
          simp only [this]
    · rintro m' _ hh K hI1 ⟨rfl, fr, o2, m2, g1, g2, g3⟩
      exact Wk_self (hJ hh fr ⟨o2, m2, g1, g2, fun v => by rw [g3 v]; simp [mkeys, hg v]⟩)
end Go.Proofs.Ytaefmhephoilmaa

/- What a row reads of a program, as views have it. -/
namespace Go.Proofs.Ytaefmhephoilmaa
open Go Go.VL

noncomputable def fieldsT (t : TypeId) : Array Field := match Try.prog.underlying t with
  | some (.struct fs) => fs
  | _ => #[]
noncomputable def fieldK (t : TypeId) (j : Nat) : Option (TypeId × Nat) := ((fieldsT t)[j]?).map fun f => (f.type, f.offset)
section
variable {H : Type} {enc : TypeId × Value → H} {w : World} {base : Nat} {spare : Nat → Bool} {held : Bool}
abbrev RdT (enc : TypeId × Value → H) (w : World) (base : Nat) (spare : Nat → Bool) (held : Bool) (t : TypeId) (cs : List Value) : Prop := Rd enc Try.prog w base spare held t cs
theorem rd_fieldT {t u : TypeId} {j o c : Nat} {cs : List Value} (ht : Try.prog.underlying t = some (.struct (fieldsT t))) (hj : fieldK t j = some (u, o)) (hc : Try.prog.cellsOf u = c) (h : RdT enc w base spare held t cs) : RdT enc w base spare held u ((cs.drop o).take c) := by
  obtain ⟨_, h2⟩ := rd_field ht h
  obtain ⟨f, hf, e⟩ := Option.map_eq_some_iff.1 hj
  have := h2 j f hf
  cases e
  rw [hc] at this
  exact this
theorem len_T {t : TypeId} {n : Nat} {cs : List Value} (ht : Try.prog.underlying t = some (.struct (fieldsT t))) (hn : Try.prog.cellsOf t = n) (h : RdT enc w base spare held t cs) : cs.length = n := hn ▸ (rd_field ht h).1
theorem u3 : Try.prog.underlying 3 = some (.int .i64) := by kernel_rfl
theorem u2 : Try.prog.underlying 2 = some (.int .i64) := by kernel_rfl
theorem u49 : Try.prog.underlying 49 = some (.int .i64) := by kernel_rfl
theorem u51 : Try.prog.underlying 51 = some (.int .i64) := by kernel_rfl
theorem u57 : Try.prog.underlying 57 = some (.int .i64) := by kernel_rfl
theorem u58 : Try.prog.underlying 58 = some (.int .i64) := by kernel_rfl
theorem u64 : Try.prog.underlying 64 = some (.int .i64) := by kernel_rfl
theorem u9 : Try.prog.underlying 9 = some .string := by kernel_rfl
theorem u47 : Try.prog.underlying 47 = some (.slice 3) := by kernel_rfl
theorem u48 : Try.prog.underlying 48 = some (.slice 60) := by kernel_rfl
theorem u50 : Try.prog.underlying 50 = some (.slice 74) := by kernel_rfl
theorem u44 : Try.prog.underlying 44 = some (.slice 55) := by kernel_rfl
theorem u22 : Try.prog.underlying 22 = some (.slice 66) := by kernel_rfl
theorem u23 : Try.prog.underlying 23 = some (.slice 46) := by kernel_rfl
theorem u26 : Try.prog.underlying 26 = some (.slice 29) := by kernel_rfl
theorem u29 : Try.prog.underlying 29 = some (.map 3 4) := by kernel_rfl
theorem u74 : Try.prog.underlying 74 = some (.struct (fieldsT 74)) := by kernel_rfl
theorem u60 : Try.prog.underlying 60 = some (.struct (fieldsT 60)) := by kernel_rfl
theorem u55 : Try.prog.underlying 55 = some (.struct (fieldsT 55)) := by kernel_rfl
theorem u53 : Try.prog.underlying 53 = some (.struct (fieldsT 53)) := by kernel_rfl
theorem u46 : Try.prog.underlying 46 = some (.struct (fieldsT 46)) := by kernel_rfl
theorem u66 : Try.prog.underlying 66 = some (.struct (fieldsT 66)) := by kernel_rfl
theorem u25 : Try.prog.underlying 25 = some (.struct (fieldsT 25)) := by kernel_rfl

theorem rd_one {k : IntKind} {t : TypeId} {v : Value} (ht : Try.prog.underlying t = some (.int k)) (h : RdT enc w base spare held t [v]) : ∃ n, v = .int k n := by
  obtain ⟨n, e, _⟩ := rd_int ht h
  exact ⟨n, by cases e; rfl⟩
theorem rd_ints {cs : List Value} (h : RdT enc w base spare held 47 cs) : ∃ (s : Sl) (xs : List Int), cs = [sV s] ∧ isInts (V.of w) s xs :=
  rd_slice u47 (by kernel_rfl) (fun a cs' hat hl hr => by
    obtain ⟨n, rfl, _⟩ := rd_int u3 hr
    exact ⟨n, by have := (rd_at hat hl).1; rwa [Addr.add_z] at this⟩) h
theorem rd_edges {cs : List Value} (h : RdT enc w base spare held 50 cs) : ∃ (s : Sl) (xs : List EdgeD), cs = [sV s] ∧ isEdges (V.of w) s xs :=
  rd_slice u50 (by kernel_rfl) (fun a cs' hat hl hr => by
    have f0 := rd_fieldT (j := 0) (o := 0) u74 (by kernel_rfl) (by kernel_rfl : Try.prog.cellsOf 3 = 1) hr
    have f1 := rd_fieldT (j := 1) (o := 1) u74 (by kernel_rfl) (by kernel_rfl : Try.prog.cellsOf 47 = 1) hr
    have hc := rd_at hat hl
    match cs', hl with
    | [x, y], _ =>
      obtain ⟨n, rfl⟩ := rd_one u3 f0
      obtain ⟨s, xs, e, hs⟩ := rd_ints f1
      cases e
      exact ⟨⟨n, xs⟩, s, hs, hc⟩) h
theorem rd_inss {cs : List Value} (h : RdT enc w base spare held 48 cs) : ∃ (s : Sl) (xs : List InsD), cs = [sV s] ∧ isInss (V.of w) s xs :=
  rd_slice u48 (by kernel_rfl) (fun a cs' hat hl hr => by
    have f0 := rd_fieldT (j := 0) (o := 0) u60 (by kernel_rfl) (by kernel_rfl : Try.prog.cellsOf 57 = 1) hr
    have f1 := rd_fieldT (j := 1) (o := 1) u60 (by kernel_rfl) (by kernel_rfl : Try.prog.cellsOf 3 = 1) hr
    have f2 := rd_fieldT (j := 2) (o := 2) u60 (by kernel_rfl) (by kernel_rfl : Try.prog.cellsOf 47 = 1) hr
    have f3 := rd_fieldT (j := 3) (o := 3) u60 (by kernel_rfl) (by kernel_rfl : Try.prog.cellsOf 2 = 1) hr
    have f4 := rd_fieldT (j := 4) (o := 4) u60 (by kernel_rfl) (by kernel_rfl : Try.prog.cellsOf 58 = 1) hr
    have f5 := rd_fieldT (j := 5) (o := 5) u60 (by kernel_rfl) (by kernel_rfl : Try.prog.cellsOf 3 = 1) hr
    have f6 := rd_fieldT (j := 6) (o := 6) u60 (by kernel_rfl) (by kernel_rfl : Try.prog.cellsOf 3 = 1) hr
    have hc := rd_at hat hl
    match cs', hl with
    | [x0, x1, x2, x3, x4, x5, x6], _ =>
      obtain ⟨n0, rfl⟩ := rd_one u57 f0
      obtain ⟨n1, rfl⟩ := rd_one u3 f1
      obtain ⟨s, xs, e, hs⟩ := rd_ints f2
      obtain ⟨n3, rfl⟩ := rd_one u2 f3
      obtain ⟨n4, rfl⟩ := rd_one u58 f4
      obtain ⟨n5, rfl⟩ := rd_one u3 f5
      obtain ⟨n6, rfl⟩ := rd_one u3 f6
      cases e
      exact ⟨⟨n0, n1, xs, n3, n4, n5, n6⟩, s, hs, hc⟩) h
theorem rd_blocks {cs : List Value} (h : RdT enc w base spare held 44 cs) : ∃ (s : Sl) (xs : List BlockD), cs = [sV s] ∧ isBlocks (V.of w) s xs :=
  rd_slice u44 (by kernel_rfl) (fun a cs' hat hl hr => by
    have f0 := rd_fieldT (j := 0) (o := 0) u55 (by kernel_rfl) (by kernel_rfl : Try.prog.cellsOf 47 = 1) hr
    have f1 := rd_fieldT (j := 1) (o := 1) u55 (by kernel_rfl) (by kernel_rfl : Try.prog.cellsOf 48 = 1) hr
    have f2 := rd_fieldT (j := 2) (o := 2) u55 (by kernel_rfl) (by kernel_rfl : Try.prog.cellsOf 53 = 4) hr
    have hc := rd_at hat hl
    match cs', hl with
    | [x0, x1, x2, x3, x4, x5], _ =>
      obtain ⟨s0, ps, e0, hs0⟩ := rd_ints f0
      obtain ⟨s1, is, e1, hs1⟩ := rd_inss f1
      have g0 := rd_fieldT (j := 0) (o := 0) u53 (by kernel_rfl) (by kernel_rfl : Try.prog.cellsOf 49 = 1) f2
      have g1 := rd_fieldT (j := 1) (o := 1) u53 (by kernel_rfl) (by kernel_rfl : Try.prog.cellsOf 3 = 1) f2
      have g2 := rd_fieldT (j := 2) (o := 2) u53 (by kernel_rfl) (by kernel_rfl : Try.prog.cellsOf 50 = 1) f2
      have g3 := rd_fieldT (j := 3) (o := 3) u53 (by kernel_rfl) (by kernel_rfl : Try.prog.cellsOf 51 = 1) f2
      obtain ⟨n0, rfl⟩ := rd_one u49 g0
      obtain ⟨n1, rfl⟩ := rd_one u3 g1
      obtain ⟨s2, ws, e2, hs2⟩ := rd_edges g2
      obtain ⟨n3, rfl⟩ := rd_one u51 g3
      cases e0
      cases e1
      cases e2
      exact ⟨⟨ps, is, ⟨n0, n1, ws, n3⟩⟩, s0, s1, s2, hs0, hs1, hs2, hc⟩) h
theorem rd_funcs {cs : List Value} (h : RdT enc w base spare held 23 cs) : ∃ (s : Sl) (xs : List FuncD), cs = [sV s] ∧ isFuncs (V.of w) s xs :=
  rd_slice u23 (by kernel_rfl) (fun a cs' hat hl hr => by
    have f0 := rd_fieldT (j := 0) (o := 0) u46 (by kernel_rfl) (by kernel_rfl : Try.prog.cellsOf 9 = 1) hr
    have f1 := rd_fieldT (j := 1) (o := 1) u46 (by kernel_rfl) (by kernel_rfl : Try.prog.cellsOf 44 = 1) hr
    have hc := rd_at hat hl
    match cs', hl with
    | [x, y], _ =>
      obtain ⟨n, e0⟩ := rd_string u9 f0
      obtain ⟨s, xs, e, hs⟩ := rd_blocks f1
      cases e0
      cases e
      exact ⟨⟨n, xs⟩, s, hs, hc⟩) h
theorem rd_arrs {cs : List Value} (h : RdT enc w base spare held 22 cs) : ∃ (s : Sl) (xs : List ArrD), cs = [sV s] ∧ isArrs (V.of w) s xs :=
  rd_slice u22 (by kernel_rfl) (fun a cs' hat hl hr => by
    have f0 := rd_fieldT (j := 0) (o := 0) u66 (by kernel_rfl) (by kernel_rfl : Try.prog.cellsOf 9 = 1) hr
    have f1 := rd_fieldT (j := 1) (o := 1) u66 (by kernel_rfl) (by kernel_rfl : Try.prog.cellsOf 64 = 1) hr
    have f2 := rd_fieldT (j := 2) (o := 2) u66 (by kernel_rfl) (by kernel_rfl : Try.prog.cellsOf 3 = 1) hr
    have hc := rd_at hat hl
    match cs', hl with
    | [x, y, z], _ =>
      obtain ⟨n, e0⟩ := rd_string u9 f0
      obtain ⟨n1, rfl⟩ := rd_one u64 f1
      obtain ⟨n2, rfl⟩ := rd_one u3 f2
      cases e0
      exact ⟨⟨n, n1, n2⟩, hc⟩) h
theorem rd_prog {cs : List Value} (h : RdT enc w base spare held 25 cs) : ∃ (sa sf : Sl) (p : ProgD), cs = [sV sa, sV sf, iV p.main] ∧ isArrs (V.of w) sa p.arrays ∧ isFuncs (V.of w) sf p.funcs := by
  have f0 := rd_fieldT (j := 0) (o := 0) u25 (by kernel_rfl) (by kernel_rfl : Try.prog.cellsOf 22 = 1) h
  have f1 := rd_fieldT (j := 1) (o := 1) u25 (by kernel_rfl) (by kernel_rfl : Try.prog.cellsOf 23 = 1) h
  have f2 := rd_fieldT (j := 2) (o := 2) u25 (by kernel_rfl) (by kernel_rfl : Try.prog.cellsOf 3 = 1) h
  have hl := len_T u25 (by kernel_rfl : Try.prog.cellsOf 25 = 3) h
  match cs, hl with
  | [x, y, z], _ =>
    obtain ⟨sa, as_, e0, ha⟩ := rd_arrs f0
    obtain ⟨sf, fs, e1, hf⟩ := rd_funcs f1
    obtain ⟨n, rfl⟩ := rd_one u3 f2
    cases e0
    cases e1
    exact ⟨sa, sf, ⟨as_, fs, n⟩, rfl, ha, hf⟩
end
end Go.Proofs.Ytaefmhephoilmaa

/- What a row reads of a slice of maps to truths. -/
namespace Go.Proofs.Ytaefmhephoilmaa
open Go Go.VL

theorem u4 : Try.prog.underlying 4 = some .bool := by kernel_rfl
section
variable {H : Type} {enc : TypeId × Value → H} {w : World} {base : Nat} {spare : Nat → Bool} {held : Bool}
def keyN : Value → Int
  | .int _ n => n
  | _ => 0
def valB : Value → Bool
  | .bool b => b
  | _ => false
theorem key_int {v : Value} {l : Lit} (h : keyOf Try.prog 3 v = some l) : v = .int .i64 (keyN v) := by
  unfold keyOf at h
  rw [u3] at h
  simp only at h
  unfold mapKey at h
  rw [u3] at h
  split at h <;> simp_all
  rfl
theorem val_bool {v : Value} {n : Nat} {x : DataW H × List MemPlace} (h : DataW.trod enc Try.prog w base spare held n 4 v.cells.toList = some x) (hv : v.formed Try.prog 4 = true) : v = .bool (valB v) := by
  cases n with
  | zero => simp [DataW.trod] at h
  | succ n =>
    unfold DataW.trod at h
    rw [u4] at h
    split at h <;> simp_all
    rename_i b _ hb
    cases v <;> simp [Value.cells] at hb
    · subst hb; rfl
    · simp [Value.formed, u4] at hv
theorem rd_cut {cs : List Value} (h : RdT enc w base spare held 29 cs) : ∃ (q : Option Nat) (f : Int → Bool), cs = [.map q] ∧ cutQ (V.of w) q f := by
  obtain ⟨fuel, x, h⟩ := h
  rcases WideElems.open_map u29 h with ⟨rfl, _⟩ | ⟨b, es, clk, n, _, rfl, hb, _, hfit, _⟩
  · exact ⟨none, fun _ => false, rfl, fun _ => rfl⟩
  · obtain ⟨s1, s2, s3⟩ := (MapKept.stamped_iff es clk).1 hfit.stamped
    have hent : ∀ x ∈ es.toList, x.key = .int .i64 (keyN x.key) ∧ x.val = .bool (valB x.val) := fun x hx => by
      obtain ⟨y, hy⟩ := hfit.reads x hx
      obtain ⟨z, hz, _⟩ := WideElems.rd_val hy
      unfold WideElems.elemAt at hz
      split at hz
      · rename_i hf
        exact ⟨key_int (WideElems.rd_key hy), val_bool hz hf⟩
      · cases hz
    have hm : MapRep .bool (.map es clk) (es.toList.map fun x => (keyN x.key, valB x.val)) := by
      refine ⟨?_, es, clk, rfl, ?_, s2, s1⟩
      · unfold mkeys
        rw [List.map_map]
        unfold List.Nodup
        rw [List.pairwise_map]
        refine s3.imp_of_mem fun {a b} ha hb hne e => hne ?_
        rw [(hent a ha).1, (hent b hb).1]
        exact congrArg (Value.int .i64) e
      · rw [List.map_map]
        refine List.map_congr_left fun x hx => ?_
        obtain ⟨e1, e2⟩ := hent x hx
        show (x.key, x.val) = (Value.int .i64 (keyN x.key), Kd.bool.mk (valB x.val))
        exact Prod.ext e1 e2
    exact ⟨some b, fun v => (mget (es.toList.map fun x => (keyN x.key, valB x.val)) v).getD false, rfl, _, _, hb, hm, fun _ => rfl⟩
theorem rd_cuts {cs : List Value} (h : RdT enc w base spare held 26 cs) : ∃ (s : Sl) (xs : List (Int → Bool)), cs = [sV s] ∧ isSl repCut 1 (V.of w) s xs :=
  rd_slice u26 (by kernel_rfl) (fun a cs' hat hl hr => by
    obtain ⟨q, f, rfl, hq⟩ := rd_cut hr
    exact ⟨f, q, by have := (rd_at hat hl).1; rwa [Addr.add_z] at this, hq⟩) h
end
end Go.Proofs.Ytaefmhephoilmaa

/- Contracts of package taint: the parts of Of. -/
namespace Go.Proofs.Ytaefmhephoilmaa
open Go Go.VL

theorem own_ne {hA hB hh : V} {s s' : Sl} {T T' : TypeId} {xs xs' : List Value} (o : OwnS hA hh s T 1 xs) (o' : OwnS hB hh s' T' 1 xs') (hT : T ≠ T') {a a' : Addr} (ha : s.a = some a) (ha' : s'.a = some a') : a.block ≠ a'.block := by
  obtain ⟨_, arr, h1⟩ := o.blk ha
  obtain ⟨_, arr', h2⟩ := o'.blk ha'
  intro e
  rw [e, h2] at h1
  cases h1; exact hT rfl
theorem own_box {hA hh : V} {s : Sl} {T T' : TypeId} {xs vs : List Value} {r : Nat} (o : OwnS hA hh s T 1 xs) (b : Box hh r vs T') (hT : T ≠ T') {a : Addr} (ha : s.a = some a) : a.block ≠ r := by
  obtain ⟨_, arr, h1⟩ := o.blk ha
  intro e
  unfold Box at b
  rw [e, b] at h1
  cases h1; exact hT rfl
theorem Box_st {hh : V} {r i : Nat} {vs : List Value} {T : TypeId} {v : Value} {K : V → Prop} (b : Box hh r vs T) (hi : i < vs.length) (hK : ∀ h', Box h' r (vs.set i v) T → (∀ q, q ≠ r → h' q = hh q) → K h') : StL hh (Addr.add ⟨r, 0, none⟩ i) 0 [v] K := by
  rw [add_at, Nat.zero_add]
  refine StL_at [v] _ 0 hh (by simp; omega) b (fun _ _ => rfl) fun h' ⟨arr', h1, h2, h3⟩ hf => hK h' ?_ hf
  unfold Box
  rw [h1]
  congr 1
  congr 1
  apply Array.ext'
  rw [h3]
  simp only [Nat.add_zero, List.length_cons, List.length_nil, Nat.zero_add]
  rw [List.set_eq_take_append_cons_drop, if_pos hi]
  simp
def L0 (p : ProgD) : LabF := fun t => match t with
  | .arr i => match p.arrays[i]? with
    | some a => if a.hold = 2 then 2 else 0
    | none => 0
  | _ => 0
structure LeastL (p : ProgD) (cut : CutF) (wr : List Bool) (L : LabF) : Prop where
  ge : LeL (L0 p) L
  le2 : ∀ t, L t ≤ 2
  closed : Closed (progCons p cut wr) L
  least : ∀ M, LeL (L0 p) M → Closed (progCons p cut wr) M → LeL L M

theorem imax_mono {a b c d : Int} (h : a ≤ c) (h' : b ≤ d) : imax a b ≤ imax c d := by unfold imax; split <;> split <;> omega
theorem imax_bd {a b c : Int} (h : a ≤ c) (h' : b ≤ c) : imax a b ≤ c := by unfold imax; split <;> omega
theorem valsOf_mono {f : Nat} {args : List Int} {L M : LabF} (h : LeL L M) : valsOf f args L ≤ valsOf f args M := by
  unfold valsOf
  suffices ∀ (a b : Int), a ≤ b → args.foldl (fun a v => imax a (L (.val f v))) a ≤ args.foldl (fun a v => imax a (M (.val f v))) b from this 0 0 (Int.le_refl _)
  induction args with
  | nil => exact fun a b h => h
  | cons v args ih =>
    intro a b hab
    exact ih _ _ (imax_mono hab (h _))
theorem valsOf_bd {f : Nat} {args : List Int} {L : LabF} (h : ∀ t, L t ≤ 2) : valsOf f args L ≤ 2 := by
  unfold valsOf
  suffices ∀ a : Int, a ≤ 2 → args.foldl (fun a v => imax a (L (.val f v))) a ≤ 2 from this 0 (by omega)
  induction args with
  | nil => exact fun a h => h
  | cons v args ih =>
    intro a ha
    exact ih _ (imax_bd ha (h _))
theorem staysD_bd {a : Int} (h : a ≤ 2) : staysD a ≤ 2 := by unfold staysD; split <;> omega
theorem cutS_mono {cut : CutF} {f : Nat} {v a b : Int} (h : a ≤ b) : cutS cut f v a ≤ cutS cut f v b := by unfold cutS; split; exact staysD_mono h; exact h
theorem cutS_bd {cut : CutF} {f : Nat} {v a : Int} (h : a ≤ 2) : cutS cut f v a ≤ 2 := by unfold cutS; split; exact staysD_bd h; exact h
theorem mayD_bd {wr : List Bool} {i : InsD} : mayD wr i ≤ 2 := by unfold mayD; repeat (split; · omega); omega

def Con.ok (c : Con) : Prop := c.mono ∧ c.bd
theorem parCons_ok {cut : CutF} {g : Nat} {ps : List Int} {src : Nat → LabF → Int} (hm : ∀ j L M, LeL L M → src j L ≤ src j M) (hb : ∀ j L, (∀ t, L t ≤ 2) → src j L ≤ 2) (k : Nat) : ∀ c ∈ parCons cut g ps src k, c.ok := by
  intro c hc
  obtain ⟨j, _, rfl⟩ := List.mem_map.1 hc
  exact ⟨fun L M h => cutS_mono (hm j L M h), fun L h => cutS_bd (hb j L h)⟩
theorem insCons_ok {p : ProgD} {cut : CutF} {wr : List Bool} {f : Nat} {i : InsD} : ∀ c ∈ insCons p cut wr f i, c.ok := by
  intro c hc
  unfold insCons at hc
  split at hc
  · rw [List.mem_singleton.1 hc]
    exact ⟨fun L M h => Int.le_refl _, fun L h => cutS_bd (by omega)⟩
  split at hc
  · rw [List.mem_singleton.1 hc]
    exact ⟨fun L M h => cutS_mono (valsOf_mono h), fun L h => cutS_bd (valsOf_bd h)⟩
  split at hc
  · rw [List.mem_singleton.1 hc]
    exact ⟨fun L M h => cutS_mono (imax_mono (imax_mono (h _) (valsOf_mono h)) (Int.le_refl _)), fun L h => cutS_bd (imax_bd (imax_bd (h _) (valsOf_bd h)) mayD_bd)⟩
  split at hc
  · rw [List.mem_singleton.1 hc]
    exact ⟨fun L M h => staysD_mono (valsOf_mono h), fun L h => staysD_bd (valsOf_bd h)⟩
  split at hc
  · rw [List.mem_singleton.1 hc]
    exact ⟨fun L M h => staysD_mono (h _), fun L h => staysD_bd (h _)⟩
  split at hc
  · rcases List.mem_append.1 hc with g | g
    · exact parCons_ok (src := fun j L => staysD (L (.val f (i.args.getD j 0)))) (fun j L M h => staysD_mono (h _)) (fun j L h => staysD_bd (h _)) _ c g
    · rw [List.mem_singleton.1 g]
      exact ⟨fun L M h => cutS_mono (h _), fun L h => cutS_bd (h _)⟩
  · cases hc
theorem blockCons_ok {p : ProgD} {cut : CutF} {wr : List Bool} {f : Nat} {b : BlockD} : ∀ c ∈ blockCons p cut wr f b, c.ok := by
  intro c hc
  unfold blockCons at hc
  rcases List.mem_append.1 hc with g | g
  · rcases List.mem_append.1 g with g | g
    · obtain ⟨i, _, g⟩ := List.mem_flatMap.1 g
      exact insCons_ok c g
    · obtain ⟨w, _, g⟩ := List.mem_flatMap.1 g
      unfold wayCons at g
      split at g
      · exact parCons_ok (src := fun j L => L (.val f (w.args.getD j 0))) (fun j L M h => h _) (fun j L h => h _) _ c g
      · cases g
  · unfold endCons at g
    split at g
    · rw [List.mem_singleton.1 g]
      exact ⟨fun L M h => staysD_mono (h _), fun L h => staysD_bd (h _)⟩
    · cases g
theorem progCons_ok {p : ProgD} {cut : CutF} {wr : List Bool} : ∀ c ∈ progCons p cut wr, c.ok := by
  intro c hc
  obtain ⟨f, _, g⟩ := List.mem_flatMap.1 hc
  obtain ⟨n, _, g⟩ := List.mem_flatMap.1 g
  split at g
  · split at g
    · exact blockCons_ok c g
    · cases g
  · cases g
end Go.Proofs.Ytaefmhephoilmaa

/- Contracts of package taint: Of, first part: what it begins with. -/
namespace Go.Proofs.Ytaefmhephoilmaa
open Go Go.VL

structure Pre (hB hh : V) (p : ProgD) (cut : CutF) (r : Nat) (sa sf vs cs ws : Sl) (ids cl : List Nat) : Prop where
  le : Le hB hh
  newr : hB r = none
  box : Box hh r [sV sa, sV sf, iV p.main, sV vs, .slice none 0 0, .slice none 0 0, sV cs, sV ws, .bool false] 78
  ov : OwnS hB hh vs 56 1 (ids.map fun q => Value.map (some q))
  oc : OwnS hB hh cs 29 1 (cl.map fun q => Value.map (some q))
  len : ids.length = cl.length
  nd : ids.Nodup
  dis : ∀ q ∈ ids, q ∉ cl
  mi : ∀ q ∈ ids, hB q = none ∧ hh q = some (.map #[] 0)
  mc : ∀ (f : Nat) q, cl[f]? = some q → hB q = none ∧ ∃ o m, hh q = some o ∧ MapRep .bool o m ∧ ∀ v, (mget m v).getD false = cut f v
theorem isMap_of {kd : Kd} {o : Obj} {m : List (Int × kd.T)} (h : MapRep kd o m) : ∃ es clk, o = .map es clk := by obtain ⟨es, clk, e, _⟩ := h.ex; exact ⟨es, clk, e⟩

/- one function more: its map of labels, its map of what is cut -/
theorem of_more {hB h8 : V} {p : ProgD} {cut : CutF} {r : Nat} {sa sf vs cs ws : Sl} {ids cl : List Nat} {A : Nat → (Unit → V → Prop) → V → Prop} {K : V → Prop} (k : Pre hB h8 p cut r sa sf vs cs ws ids cl) (hfew : ids.length < 1024)
    (hA : ∀ (r45 : Nat) h13 J, h13 r45 = some (.map #[] 0) → hB r45 = none → Le hB h13 → (∀ h', (∀ b, b ≠ r45 → h13 b ≠ none → h' b = h13 b) → (∃ o m, h' r45 = some o ∧ MapRep .bool o m ∧ ∀ v, (mget m v).getD false = cut ids.length v) → J () h') → A r45 J h13)
    (hK : ∀ h' vs' cs' ids' cl', Pre hB h' p cut r sa sf vs' cs' ws ids' cl' → ids'.length = ids.length + 1 → K h') :
    Ld h8 (Addr.add (Addr.add ⟨r, 0, none⟩ 3) 0) .sl fun (x38 : Sl) =>
    New h8 (.map #[] 0) fun r39 h9 =>
    New h9 (.cells #[(.map ((some r39)))] 56) fun r40 h10 =>
    App h10 x38 ⟨(some ⟨r40, 0, none⟩), 1, 1⟩ 56 1 8 [(.map none)] fun s41 h11 =>
    StL h11 (Addr.add (Addr.add ⟨r, 0, none⟩ 3) 0) 0 [sV s41] fun h12 =>
    New h12 (.map #[] 0) fun r45 h13 =>
    Cut (σ := (Unit)) (fun _ h14 =>
    Ld h14 (Addr.add (Addr.add ⟨r, 0, none⟩ 3) 3) .sl fun (x68 : Sl) =>
    New h14 (.cells #[(.map ((some r45)))] 29) fun r70 h15 =>
    App h15 x68 ⟨(some ⟨r70, 0, none⟩), 1, 1⟩ 29 1 8 [(.map none)] fun s71 h16 =>
    StL h16 (Addr.add (Addr.add ⟨r, 0, none⟩ 3) 3) 0 [sV s71] fun h17 =>
    Wk h17 fun h18 => K h18) fun J => A r45 J h13 := by
  refine ⟨vs, by rw [Addr.add_add]; exact k.box.cell rfl, fun r39 hr39 => ?_⟩
  have l9 := le_upd hr39 (.map #[] 0)
  have m39 : (h8.upd r39 (.map #[] 0)) r39 = some (.map #[] 0) := upd_self _ _ _
  generalize h8.upd r39 (.map #[] 0) = h9 at *
  refine New_box fun r40 h10 hr40 l10 b40 => ?_
  have l810 := l9.trans l10
  have nv := k.ov.1
  simp only [List.length_map, Nat.mul_one] at nv
  have nc := k.oc.1
  simp only [List.length_map, Nat.mul_one] at nc
  have hlen := k.len
  refine App_one (k.le.trans l810) (k.ov.le l810) b40 rfl (by omega) (by omega) fun s41 h11 l11 o11 n11 f11 d11 => ?_
  have box10 := k.box.le l810
  have ov10 := k.ov.le l810
  have oc10 := k.oc.le l810
  have box11 : Box h11 r [sV sa, sV sf, iV p.main, sV vs, .slice none 0 0, .slice none 0 0, sV cs, sV ws, .bool false] 78 := by
    unfold Box
    rw [f11 r (fun a ha e => own_box ov10 box10 (by decide) ha e.symm) (by unfold Box at box10; rw [box10]; simp)]
    exact box10
  have oc11 : OwnS hB h11 cs 29 1 (cl.map fun q => Value.map (some q)) := oc10.frame fun a ob ha hob => by
    rw [f11 _ (fun a' ha' e => own_ne ov10 oc10 (by decide) ha' ha e.symm) (by rw [hob]; simp)]; exact hob
  have map11 : ∀ q es clk, h10 q = some (.map es clk) → h11 q = some (.map es clk) := fun q es clk hq => by
    rw [f11 q (fun a ha e => by obtain ⟨_, arr, h⟩ := ov10.blk ha; rw [← e, hq] at h; cases h) (by rw [hq]; simp)]; exact hq
  rw [Addr.add_add]
  refine Box_st (i := 3) box11 (by simp) fun h12 box12 f12 => ?_
  have box12 : Box h12 r [sV sa, sV sf, iV p.main, sV s41, .slice none 0 0, .slice none 0 0, sV cs, sV ws, .bool false] 78 := box12
  have le12 : Le hB h12 := fun q o hq => by
    rw [f12 q (fun e => by subst e; rw [k.newr] at hq; cases hq)]; exact l11 q o hq
  have ov12 : OwnS hB h12 s41 56 1 (ids.map (fun q => Value.map (some q)) ++ [.map (some r39)]) := o11.frame fun a ob ha hob => (f12 _ (own_box o11 box11 (by decide) ha)).trans hob
  have oc12 : OwnS hB h12 cs 29 1 (cl.map fun q => Value.map (some q)) := oc11.frame fun a ob ha hob => (f12 _ (own_box oc11 box11 (by decide) ha)).trans hob
  have map12 : ∀ q es clk, h10 q = some (.map es clk) → h12 q = some (.map es clk) := fun q es clk hq => by
    rw [f12 q (fun e => by unfold Box at box10; rw [e, box10] at hq; cases hq)]; exact map11 q es clk hq
  intro r45 hr45
  have l13 := le_upd hr45 (.map #[] 0)
  have m45 : (h12.upd r45 (.map #[] 0)) r45 = some (.map #[] 0) := upd_self _ _ _
  generalize h12.upd r45 (.map #[] 0) = h13 at *
  have hB45 : hB r45 = none := le12.nil hr45
  refine Cut_i (fun _ h14 => (∀ b, b ≠ r45 → h13 b ≠ none → h14 b = h13 b) ∧ ∃ o m, h14 r45 = some o ∧ MapRep .bool o m ∧ ∀ v, (mget m v).getD false = cut ids.length v) (fun J hJ => ?_) ?_
  · exact hA r45 h13 J m45 hB45 (le12.trans l13) fun h' f' x => hJ () h' ⟨f', x⟩
  · rintro _ h14 ⟨f14, o45, mm, ho45, hm45, hg45⟩
    have map14 : ∀ q es clk, h10 q = some (.map es clk) → h14 q = some (.map es clk) := fun q es clk hq => by
      have := map12 q es clk hq
      rw [f14 q (fun e => by rw [e] at this; rw [this] at hr45; cases hr45) (by rw [l13 _ _ this]; simp)]
      exact l13 _ _ this
    have keep14 : ∀ q o, h12 q = some o → h14 q = some o := fun q o hq => by
      rw [f14 q (fun e => by rw [e, hr45] at hq; cases hq) (by rw [l13 _ _ hq]; simp)]; exact l13 _ _ hq
    have l14 : Le h12 h14 := keep14
    refine ⟨cs, by rw [Addr.add_add]; exact (box12.le l14).cell rfl, New_box fun r70 h15 hr70 l15 b70 => ?_⟩
    have l1215 := l14.trans l15
    have ov15 := ov12.le l1215
    have oc15 := oc12.le l1215
    have box15 := box12.le l1215
    refine App_one (le12.trans l1215) oc15 b70 rfl (by omega) (by omega) fun s71 h16 l16 o16 n16 f16 d16 => ?_
    have box16 : Box h16 r [sV sa, sV sf, iV p.main, sV s41, .slice none 0 0, .slice none 0 0, sV cs, sV ws, .bool false] 78 := by
      unfold Box
      rw [f16 r (fun a ha e => own_box oc15 box15 (by decide) ha e.symm) (by unfold Box at box15; rw [box15]; simp)]
      exact box15
    have ov16 : OwnS hB h16 s41 56 1 (ids.map (fun q => Value.map (some q)) ++ [.map (some r39)]) := ov15.frame fun a ob ha hob => by
      rw [f16 _ (fun a' ha' e => own_ne oc15 ov15 (by decide) ha' ha e.symm) (by rw [hob]; simp)]; exact hob
    have map16 : ∀ q es clk, h14 q = some (.map es clk) → h16 q = some (.map es clk) := fun q es clk hq => by
      have := l15 _ _ hq
      rw [f16 q (fun a ha e => by obtain ⟨_, arr, h⟩ := oc15.blk ha; rw [← e, this] at h; cases h) (by rw [this]; simp)]; exact this
    rw [Addr.add_add]
    refine Box_st (i := 6) box16 (by simp) fun h17 box17 f17 => ?_
    have map17 : ∀ q es clk, h14 q = some (.map es clk) → h17 q = some (.map es clk) := fun q es clk hq => by
      have := map16 q es clk hq
      rw [f17 q (fun e => by unfold Box at box16; rw [e, box16] at this; cases this)]; exact this
    have old : ∀ q es clk, h8 q = some (.map es clk) → h17 q = some (.map es clk) := fun q es clk hq => map17 _ _ _ (map14 _ _ _ (l810 _ _ hq))
    have h39 : h17 r39 = some (.map #[] 0) := map17 _ _ _ (map14 _ _ _ (l10 _ _ m39))
    have n39 : hB r39 = none := k.le.nil hr39
    have ids_ne : ∀ q ∈ ids, q ≠ r39 := fun q hq e => by have := (k.mi q hq).2; rw [e, hr39] at this; cases this
    have cl_ne : ∀ q ∈ cl, q ≠ r39 ∧ q ≠ r45 := fun q hq => by
      obtain ⟨f, hf, e⟩ := List.getElem_of_mem hq
      obtain ⟨_, o, m, h1, h2, _⟩ := k.mc f q (by rw [List.getElem?_eq_getElem hf, e])
      obtain ⟨es, clk, rfl⟩ := isMap_of h2
      refine ⟨fun e => (by rw [e, hr39] at h1; cases h1), fun e => ?_⟩
      have := map12 _ _ _ (l810 _ _ h1)
      rw [e, hr45] at this; cases this
    have ids45 : ∀ q ∈ ids ++ [r39], q ≠ r45 := fun q hq e => by
      have : ∃ es clk, h10 q = some (.map es clk) := by
        rcases List.mem_append.1 hq with g | g
        · exact ⟨_, _, l810 _ _ (k.mi q g).2⟩
        · rw [List.mem_singleton.1 g]; exact ⟨_, _, l10 _ _ m39⟩
      obtain ⟨es, clk, h⟩ := this
      have := map12 _ _ _ h
      rw [e, hr45] at this; cases this
    refine Wk_self (hK h17 s41 s71 (ids ++ [r39]) (cl ++ [r45]) ⟨fun q o hq => ?_, k.newr, box17, ?_, ?_, by simp [k.len], ?_, ?_, ?_, ?_⟩ (by simp))
    · rw [f17 q (fun e => by subst e; rw [k.newr] at hq; cases hq)]; exact l16 q o hq
    · have := ov16.frame (h' := h17) fun a ob ha hob => (f17 _ (own_box ov16 box16 (by decide) ha)).trans hob
      simpa using this
    · have := o16.frame (h' := h17) fun a ob ha hob => (f17 _ (own_box o16 box16 (by decide) ha)).trans hob
      simpa using this
    · rw [List.nodup_append]
      refine ⟨k.nd, by simp, fun a ha b hb => ?_⟩
      rw [List.mem_singleton.1 hb]; exact ids_ne a ha
    · intro q hq hc
      rcases List.mem_append.1 hc with g | g
      · rcases List.mem_append.1 hq with g' | g'
        · exact k.dis q g' g
        · rw [List.mem_singleton.1 g'] at g; exact (cl_ne _ g).1 rfl
      · exact ids45 q hq (List.mem_singleton.1 g)
    · intro q hq
      rcases List.mem_append.1 hq with g | g
      · exact ⟨(k.mi q g).1, old _ _ _ (k.mi q g).2⟩
      · rw [List.mem_singleton.1 g]; exact ⟨n39, h39⟩
    · intro f q hq
      rcases Nat.lt_or_ge f cl.length with g | g
      · rw [List.getElem?_append_left g] at hq
        obtain ⟨h0, o, m, h1, h2, h3⟩ := k.mc f q hq
        obtain ⟨es, clk, rfl⟩ := isMap_of h2
        exact ⟨h0, _, m, old _ _ _ h1, h2, h3⟩
      · rw [List.getElem?_append_right g] at hq
        have e : f = cl.length := by
          have := (List.getElem?_eq_some_iff.1 hq).1
          simp at this; omega
        subst e
        simp at hq
        subst hq
        obtain ⟨es, clk, rfl⟩ := isMap_of hm45
        exact ⟨hB45, _, mm, map17 _ _ _ ho45, hm45, fun v => by rw [← k.len]; exact hg45 v⟩
end Go.Proofs.Ytaefmhephoilmaa

/- Contracts of package taint: Of, last part: round after round. -/
namespace Go.Proofs.Ytaefmhephoilmaa
open Go Go.VL

section
variable {hC hh : V} {p : ProgD} {r r2 : Nat} {sa sf vs ar rs cs ws : Sl} {ids : List Nat} {L : LabF} {tu : Bool} {cut : CutF} {wr : List Bool}
/- a slice of one's own that stays -/
theorem SolW.growS {h44 : V} {x : Sl} {T : TypeId} {xs : List Value} (k : SolW hC hh p r sa sf vs ar rs cs ws ids L tu) (o : OwnS hh h44 x T 1 xs) (l : Le hh h44) : ∃ hD, Le hC hD ∧ SolW hD h44 p r sa sf vs ar rs cs ws ids L tu ∧ OwnS hC hD x T 1 xs := by
  obtain ⟨h1, h2, h3, h4⟩ := o
  rcases h4 with h4 | ⟨b, off, arr, ha, hb, hr, hz, ht⟩
  · exact ⟨hC, Le.refl _, k.view l, h1, h2, h3, .inl h4⟩
  · obtain ⟨g1, g2⟩ := k.grow hb l hr
    exact ⟨_, g2, g1, h1, h2, h3, .inr ⟨b, off, arr, ha, k.le.nil hb, upd_self _ _ _, hz, ht⟩⟩
noncomputable def blkF (p : ProgD) (cut : CutF) (wr : List Bool) (f : Nat) (n : Nat) : List Con := if rchB (FuncD.at p f).blocks n = true then (match (FuncD.at p f).blocks[n]? with | some b => blockCons p cut wr f b | none => []) else []
theorem of_main (k0 : SolW hC hh p r sa sf vs ar rs cs ws ids (L0 p) true) (c : SolC hC p cut wr sa sf vs cs ws ids) (ok : CheckOk p) (few : ∀ f ∈ p.funcs, f.blocks.length ≤ 1048576) (b2 : Box hC r2 [sV sa, sV sf, iV p.main] 25) {X : V → Prop}
    (hX : ∀ hh L, SolW hC hh p r sa sf vs ar rs cs ws ids L false → LeastL p cut wr L → X hh) :
  Lp (σ := (Unit)) (fun K_3 _ h39 =>
  Ld h39 (Addr.add (⟨r, 0, none⟩) 8) .bool fun (x113 : Bool) =>
  cond x113
  (StL h39 (Addr.add (⟨r, 0, none⟩) 8) 0 [(.bool false)] fun h40 =>
  Ld h40 (Addr.add (⟨r2, 0, none⟩) 1) .sl fun (x118 : Sl) =>
  Lp (σ := (Int × Unit)) (fun K_4 s_6 h41 =>
  cond (decide (s_6.1 < (((x118.n : Nat) : Int))))
  (Ix x118 s_6.1 2 fun a123 =>
  LdA h41 a123 [.str, .sl] fun (x124 : ((ByteArray) × (Sl) × Unit)) =>
  New h41 (.cells #[(.string (⟨#[]⟩)), (.slice none 0 0)] 46) fun r15 h42 =>
  StL h42 (⟨r15, 0, none⟩) 0 [(.string x124.1), (.slice x124.2.1.a x124.2.1.n x124.2.1.c)] fun h43 =>
  LdA h43 (⟨r15, 0, none⟩) [.str, .sl] fun (x125 : ((ByteArray) × (Sl) × Unit)) =>
  CallK Try.prog 19 [(.agg ⟨[(.string x125.1), (.slice x125.2.1.a x125.2.1.n x125.2.1.c)]⟩)] h43 (.un (.one .sl)) fun (x126 : Sl) h44 =>
  Lp (σ := (Int × Unit)) (fun K_5 s_7 h45 =>
  cond (decide (s_7.1 < (((x126.n : Nat) : Int))))
  (Ix x126 s_7.1 1 fun a131 =>
  Ld h45 a131 .bool fun (x132 : Bool) =>
  cond x132
  (Ld h45 (Addr.add (⟨r15, 0, none⟩) 1) .sl fun (x137 : Sl) =>
  Ix x137 s_7.1 6 fun a139 =>
  LdA h45 a139 [.sl, .sl, (.int .i64), (.int .i64), .sl, (.int .i64)] fun (x140 : ((Sl) × (Sl) × (Int) × (Int) × (Sl) × (Int) × Unit)) =>
  CallK Try.prog 20 [(.pointer (some (⟨r, 0, none⟩))), (.int .i64 s_6.1), (.agg ⟨[(.slice x140.1.a x140.1.n x140.1.c), (.slice x140.2.1.a x140.2.1.n x140.2.1.c), (.int .i64 x140.2.2.1), (.int .i64 x140.2.2.2.1), (.slice x140.2.2.2.2.1.a x140.2.2.2.2.1.n x140.2.2.2.2.1.c), (.int .i64 x140.2.2.2.2.2.1)]⟩)] h45 (.tup []) fun (_ : (Unit)) h46 =>
  Wk h46 fun h47 => K_5 (IntKind.wrap .i64 (s_7.1 + ((1 : Int))), ()) h47)
  (Wk h45 fun h48 => K_5 (IntKind.wrap .i64 (s_7.1 + ((1 : Int))), ()) h48))
  (Wk h45 fun h49 => K_4 (IntKind.wrap .i64 (s_6.1 + ((1 : Int))), ()) h49))
  ((0 : Int), ()) h44)
  (Wk h41 fun h50 => K_3 (()) h50))
  ((0 : Int), ()) h40)
  (X h39)) () hh := by
  have ok0 : ∀ c ∈ progCons p cut wr, c.ok := progCons_ok
  have l02 : ∀ t, L0 p t ≤ 2 := by
    intro t
    unfold L0
    repeat' split
    all_goals omega
  refine Lp_inv (fun n _ hh => ∃ L tu, SolW hC hh p r sa sf vs ar rs cs ws ids L tu ∧ LeL (L0 p) L ∧ (∀ t, L t ≤ 2) ∧ (∀ M, LeL (L0 p) M → Closed (progCons p cut wr) M → LeL L M) ∧ (tu = true → muC (progCons p cut wr) L + 1 ≤ n) ∧ (tu = false → Closed (progCons p cut wr) L))
    ⟨_, _, k0, LeL.refl _, l02, fun M h _ => h, fun _ => Nat.le_refl _, fun e => by cases e⟩ ?_
  rintro n _ h39 K ⟨L, tu, k, lge, l2, lleast, hmu, hcl⟩ hK
  refine ⟨tu, k.box.cell rfl, cond_b (fun ht => ?_) (fun ht => ?_)⟩
  · have hmu := hmu ht
    refine k.turn (b := false) fun h40 k4 _ => ⟨sf, (b2.le k4.le).cell rfl, ?_⟩
    refine Lp_count p.funcs.length (fun f st hh => st = ((f : Int), ()) ∧ SolW hC hh p r sa sf vs ar rs cs ws ids (runC ((List.range f).flatMap (funcCons p cut wr)) (L, false)).1 (runC ((List.range f).flatMap (funcCons p cut wr)) (L, false)).2) ⟨rfl, k4⟩ ?_
    rintro f _ h41 K4 hf ⟨rfl, k5⟩ hK4
    refine cond_dec (fun hl => ?_) (fun hge => ?_)
    · have hf' : f < p.funcs.length := by have := c.funcs.len; simp only at hl; omega
      have hfm : p.funcs[f] ∈ p.funcs := List.getElem_mem hf'
      rw [List.range_succ, List.flatMap_append, show [f].flatMap (funcCons p cut wr) = funcCons p cut wr f by simp] at hK4
      generalize (List.range f).flatMap (funcCons p cut wr) = cs0 at *
      refine elem_func c.funcs k5.le hf' rfl rfl fun sb hsb r15 h43 l43 l43' hr15 b15 => ⟨(p.funcs[f].name, sb, ()), b15.cells, ?_⟩
      obtain ⟨k6, lD⟩ := k5.grow hr15 l43' b15
      have bD : Box (hC.upd r15 (.cells ⟨funcV p.funcs[f] sb⟩ 46)) r15 (funcV p.funcs[f] sb) 46 := upd_self _ _ _
      have cD := c.le lD
      have hsD := hsb.le mono_block lD
      generalize hC.upd r15 (.cells ⟨funcV p.funcs[f] sb⟩ 46) = hD at *
      refine c_Reach (hsD.le mono_block k6.le) (few _ hfm) fun x126 h44 out l44 o44 outl hout => ⟨_, rfl, ?_⟩
      obtain ⟨hE, lE, k7, oE⟩ := k6.growS o44 l44
      have cE := cD.le lE
      have bE := bD.le lE
      have hsE := hsD.le mono_block lE
      have xE := oE.bools
      have lCE := lD.trans lE
      have fat := FuncD.at_eq hf'
      refine Lp_count p.funcs[f].blocks.length (fun n st hh => st = ((n : Int), ()) ∧ SolW hE hh p r sa sf vs ar rs cs ws ids (runC (cs0 ++ (List.range n).flatMap (blkF p cut wr f)) (L, false)).1 (runC (cs0 ++ (List.range n).flatMap (blkF p cut wr f)) (L, false)).2) ⟨rfl, by simpa using k7⟩ ?_
      rintro m _ h45 K5 hm ⟨rfl, k8⟩ hK5
      refine cond_dec (fun hl => ?_) (fun hge => ?_)
      · have hm' : m < p.funcs[f].blocks.length := by have := xE.len; simp only at hl; omega
        have hmo : m < out.length := by omega
        rw [List.range_succ, List.flatMap_append, show [m].flatMap (blkF p cut wr f) = blkF p cut wr f m by simp, ← List.append_assoc] at hK5
        generalize cs0 ++ (List.range m).flatMap (blkF p cut wr f) = cs1 at *
        refine (xE.le mono_bool k8.le).ixn hmo fun a ha => ⟨_, ha, cond_b (fun hy => ⟨sb, (bE.le k8.le).cell rfl, ?_⟩) (fun hn => ?_)⟩
        · have hr : Rch p.funcs[f].blocks m := (hout m).1 (by rw [List.getElem?_eq_getElem hmo]; exact congrArg some hy)
          have heq : blkF p cut wr f m = blockCons p cut wr f p.funcs[f].blocks[m] := by
            unfold blkF
            rw [fat, if_pos (rchB_iff.2 hr), List.getElem?_eq_getElem hm']
          rw [heq] at hK5
          refine hsE.ixn hm' fun a ⟨q, i, w, hq, hi, hw, hc⟩ => ⟨(q, i, _, _, w, _, ()), cellsAt_le k8.le hc, ?_⟩
          refine c_block k8 cE hf' ((ok.funcs _ hfm).2.2.2.1 _ (List.getElem_mem hm')) hi hw fun h46 k9 => ⟨(), rfl, Wk_self (hK5 _ _ hm' ⟨by rw [wnat hm' hsE.bd], ?_⟩)⟩
          rw [runC_append]
          exact k9
        · have hr : ¬ Rch p.funcs[f].blocks m := fun h => by
            have := (hout m).2 h
            rw [List.getElem?_eq_getElem hmo] at this
            have hn : out[m] = false := hn
            rw [hn] at this; cases this
          have heq : blkF p cut wr f m = [] := by
            unfold blkF
            rw [fat, if_neg (fun e => hr (rchB_iff.1 e))]
          rw [heq, List.append_nil] at hK5
          exact Wk_self (hK5 _ _ hm' ⟨by rw [wnat hm' hsE.bd], k8⟩)
      · have : m = p.funcs[f].blocks.length := by have := xE.len; simp only at hge; omega
        subst this
        refine Wk_self (hK4 _ _ hf' ⟨by rw [wnat hf' c.funcs.bd], ?_⟩)
        have heq : (List.range p.funcs[f].blocks.length).flatMap (blkF p cut wr f) = funcCons p cut wr f := by
          rw [← fat]
          rfl
        rw [heq] at k8
        exact k8.shrink lCE
    · have : f = p.funcs.length := by have := c.funcs.len; simp only at hge; omega
      subst this
      have ep : (List.range p.funcs.length).flatMap (funcCons p cut wr) = progCons p cut wr := rfl
      rw [ep] at k5
      have hge' := runC_ge (progCons p cut wr) (L, false)
      cases ht2 : (runC (progCons p cut wr) (L, false)).2 with
      | true =>
        have hlt := runC_mu (all := progCons p cut wr) (progCons p cut wr) (L, false) (fun _ h => h) (fun c h => (ok0 c h).2) l2 rfl ht2
        refine Wk_self (hK (muC (progCons p cut wr) (runC (progCons p cut wr) (L, false)).1 + 1) _ _ (by have : muC (progCons p cut wr) (runC (progCons p cut wr) (L, false)).1 < muC (progCons p cut wr) L := hlt; omega) ⟨_, _, k5, lge.trans hge', runC_bd _ _ (fun c h => (ok0 c h).2) l2, fun M h1 h2 => runC_le _ _ (fun c h => (ok0 c h).1) h2 (lleast M h1 h2), fun _ => Nat.le_refl _, fun e => by rw [ht2] at e; cases e⟩)
      | false =>
        obtain ⟨_, e2, e3⟩ := runC_false _ _ ht2
        refine Wk_self (hK 0 _ _ (by omega) ⟨_, _, k5, lge.trans hge', runC_bd _ _ (fun c h => (ok0 c h).2) l2, fun M h1 h2 => runC_le _ _ (fun c h => (ok0 c h).1) h2 (lleast M h1 h2), fun e => (by rw [ht2] at e; cases e), fun _ => by rw [e2]; exact e3⟩)
  · have ht : tu = false := ht
    subst ht
    exact hX h39 L k ⟨lge, l2, hcl rfl, lleast⟩
end
end Go.Proofs.Ytaefmhephoilmaa

/- Contracts of package taint: Of. -/
namespace Go.Proofs.Ytaefmhephoilmaa
open Go Go.VL

def repVals (h : V) (a : Addr) (g : Int → Int) : Prop := ∃ q o m, cellq h a = some (.map (some q)) ∧ h q = some o ∧ MapRep (.int .i64) o m ∧ ∀ v, (mget m v).getD (0 : Int) = g v
theorem mono_vals : Mono repVals := fun _ _ _ _ l ⟨q, o, m, h1, h2, h3⟩ => ⟨q, o, m, cellq_le l h1, l _ _ h2, h3⟩
structure LabW (h : V) (p : ProgD) (vs ar rs cs : Sl) (L : LabF) : Prop where
  vals : isSl repVals 1 h vs ((List.range p.funcs.length).map fun f v => L (.val f v))
  arrs : isInts h ar ((List.range p.arrays.length).map fun i => L (.arr i))
  rets : isInts h rs ((List.range p.funcs.length).map fun i => L (.ret i))
  cut : cs.n = p.funcs.length
def cutOf (l : List (Int → Bool)) : CutF := fun f v => (l.getD f fun _ => false) v
def V.dels (h : V) (l : List Nat) : V := fun b => if b ∈ l then none else h b
theorem dels_in {h : V} {l : List Nat} {b : Nat} (hb : b ∈ l) : V.dels h l b = none := by simp [V.dels, hb]
theorem dels_out {h : V} {l : List Nat} {b : Nat} (hb : b ∉ l) : V.dels h l b = h b := by simp [V.dels, hb]
def labA (a : ArrD) : Int := if a.hold = 2 then 2 else 0
theorem few_B {p : ProgD} (few : FewOk p) : ∀ f ∈ p.funcs, fewB f.blocks := fun f hf => ⟨by have := (few.all f hf).blocks; omega, fun b hb => by have := ((few.all f hf).all b hb).params; have := ((few.all f hf).all b hb).ins; omega⟩

theorem c_Of {h : V} {p : ProgD} {sa sf pc : Sl} {cutIn : List (Int → Bool)} {R : Value → V → Prop} (ha : isArrs h sa p.arrays) (hf : isFuncs h sf p.funcs) (hc : isSl repCut 1 h pc cutIn) (few : FewOk p)
    (hR1 : ¬ CheckOk p → R (.tuple ⟨[.agg ⟨[.slice none 0 0, .slice none 0 0, .slice none 0 0, .slice none 0 0]⟩, iV 40]⟩) h)
    (hR2 : CheckOk p → ∀ h' vs ar rs cs L, Le h h' → LabW h' p vs ar rs cs L → LeastL p (cutOf cutIn) (writesD p) L → R (.tuple ⟨[.agg ⟨[sV vs, sV ar, sV rs, sV cs]⟩, iV 0]⟩) h') :
    ACalls Try.prog 9 [.agg ⟨[sV sa, sV sf, iV p.main]⟩, sV pc] h R := by
  refine S9_ok _ _ _ _ _ _ (New_box fun r2 h1 hr2 l1 b2 => New_box fun r4 h2 hr4 l2 b4 => ⟨(sa, sf, p.main, ()), (b2.le l2).cells, ?_⟩)
  have l02 := l1.trans l2
  refine c_Check (ha.le mono_arr l02) (hf.le mono_func l02) (few_B few) fun n hn0 hn => ⟨_, rfl, cond_nei (fun hne => ?_) (fun heq => ?_)⟩
  · have hne : n ≠ 0 := hne
    refine StL_box (h := h1) b4 rfl l2 hr4 fun h4 l4 b4' f4 => ⟨(⟨none, 0, 0⟩, ⟨none, 0, 0⟩, ⟨none, 0, 0⟩, ⟨none, 0, 0⟩, ()), b4'.cells, Wk_le (l1.trans l4) (hR1 fun ok => hne (hn.2 ok))⟩
  have heq : n = 0 := heq
  have ok := hn.1 heq
  refine ⟨(sa, sf, p.main, ()), (b2.le l2).cells, (sa, sf, p.main, ()), (b2.le l2).cells, c_Writes (ha.le mono_arr l02) (hf.le mono_func l02) (by have := few.arrays; omega) fun ws h6 l6 o6 f6 => ⟨_, rfl, l6, New_box fun r h7 hr l7 b => ⟨sf, ((b2.le l2).le (l6.trans l7)).cell rfl, ?_⟩⟩⟩
  have nf := hf.len
  have na := ha.len
  have hfew5 := few.funcs
  have l06 := l02.trans l6
  have b2' := (b2.le l2).le l6
  refine Lp_count p.funcs.length (fun k st hh => st = ((k : Int), ()) ∧ ∃ vs cs ids cl, Pre h6 hh p (cutOf cutIn) r sa sf vs cs ws ids cl ∧ ids.length = k)
    ⟨rfl, ⟨none, 0, 0⟩, ⟨none, 0, 0⟩, [], [], ⟨l7, hr, b, OwnS_nil _ _ _ _, OwnS_nil _ _ _ _, rfl, List.nodup_nil, by simp, by simp, by simp⟩, rfl⟩ ?_
  rintro k _ h8 K hk ⟨rfl, vs, cs, ids, cl, k8, hlen⟩ hK
  refine cond_dec (fun hlt => ?_) (fun hge => ?_)
  · have hk' : k < p.funcs.length := by simp only at hlt; omega
    refine of_more k8 (by omega) (fun r45 h13 J m45 n45 l13 hJ => ?_) (fun h' vs' cs' ids' cl' k' hl => hK _ _ hk' ⟨by rw [wnat hk' hf.bd], vs', cs', ids', cl', k', by omega⟩)
    subst hlen
    refine cond_dec (fun hlt => ?_) (fun hge => ?_)
    · have hkc : ids.length < cutIn.length := by have := hc.len; simp only at hlt; omega
      refine hc.ixn hkc fun a ⟨q, hq, hcq⟩ => ⟨q, cellq_le (l06.trans l13) hq, copy_map (cutQ_le (l06.trans l13) hcq) m45 (fun x hx e => ?_) fun h' f' hm => hJ h' f' ?_⟩
      · subst hx e
        obtain ⟨o, m, g1, g2, g3⟩ := hcq
        have := l06 _ _ g1
        rw [n45] at this; cases this
      · obtain ⟨o, m, g1, g2, g3⟩ := hm
        refine ⟨o, m, g1, g2, fun v => ?_⟩
        rw [g3]; unfold cutOf; rw [getD_lt hkc]
    · refine Wk_self (hJ h13 (fun _ _ _ => rfl) ⟨_, [], m45, MapRep.empty _, fun v => ?_⟩)
      have : cutIn.length ≤ ids.length := by have := hc.len; simp only at hge; omega
      rw [mget_nil]
      unfold cutOf
      rw [List.getD_eq_getElem?_getD, List.getElem?_eq_none this]; rfl
  have : k = p.funcs.length := by simp only at hge; omega
  subst this
  have hlc := k8.len
  refine ⟨sf, (b2'.le k8.le).cell rfl, ?_⟩
  refine MkSl_own (by omega) (by omega) fun s80 h26 l26 o26 n26 f26 ⟨a80, ha80⟩ => ?_
  rw [nf] at o26 n26
  have box26 := k8.box.le l26
  rw [Addr.add_add]
  refine Box_st (i := 5) box26 (by simp) fun h27 box27 f27 => ?_
  have box27 : Box h27 r [sV sa, sV sf, iV p.main, sV vs, .slice none 0 0, sV s80, sV cs, sV ws, .bool false] 78 := box27
  have keep27 : ∀ q, q ≠ r → ∀ o, h8 q = some o → h27 q = some o := fun q hq o ho => by rw [f27 q hq]; exact l26 _ _ ho
  have le27 : Le h6 h27 := fun q o hq => keep27 q (fun e => by subst e; rw [k8.newr] at hq; cases hq) o (k8.le _ _ hq)
  refine ⟨sa, (b2'.le le27).cell rfl, ?_⟩
  -- what stays: all but the solver itself
  have o27 : OwnS h8 h27 s80 42 1 (List.replicate p.funcs.length (iV 0)) := o26.frame fun a ob ha' hob => (f27 _ (own_box o26 box26 (by decide) ha')).trans hob
  obtain ⟨n80, arr80, h80⟩ := o27.blk ha80
  have b80r : a80.block ≠ r := own_box o27 box27 (by decide) ha80
  have lD6 : Le h6 (V.del h27 r) := fun q o hq => by
    rw [del_ne (fun e => by subst e; rw [k8.newr] at hq; cases hq)]; exact le27 _ _ hq
  have lDh := l06.trans lD6
  refine Lp_count p.arrays.length (fun k st hh => st = ((k : Int), ()) ∧ ∃ ar, Le (V.del h27 r) hh ∧ Box hh r [sV sa, sV sf, iV p.main, sV vs, sV ar, sV s80, sV cs, sV ws, .bool false] 78 ∧ OwnS (V.del h27 r) hh ar 42 1 (((p.arrays.take k).map labA).map (Value.int .i64)))
    ⟨rfl, ⟨none, 0, 0⟩, del_le _ _, box27, OwnS_nil _ _ _ _⟩ ?_
  rintro k _ h28 K2 hk ⟨rfl, ar, l28, box28, o28⟩ hK2
  have few10 := few.arrays
  refine cond_dec (fun hlt => ?_) (fun hge => ?_)
  · have hk' : k < p.arrays.length := by have := ha.len; simp only at hlt; omega
    refine elem_arr ha (lDh.trans l28) hk' rfl rfl fun r12 h30 l30 l30' hr12 b12 => ?_
    refine Cut_i (fun st hh => h30 = hh ∧ st.1 = labA p.arrays[k]) (fun J hJ => ?_) ?_
    · refine ⟨_, b12.cell rfl, cond_eqi (fun e => Wk_self (hJ _ _ ⟨rfl, ?_⟩)) (fun e => Wk_self (hJ _ _ ⟨rfl, ?_⟩))⟩
      · have e : p.arrays[k].hold = 2 := e
        unfold labA; rw [if_pos e]
      · have e : ¬ p.arrays[k].hold = 2 := e
        unfold labA; rw [if_neg e]
    · rintro ⟨lab, u⟩ _ ⟨rfl, e⟩
      have e : lab = _ := e
      subst e
      refine ⟨ar, by rw [Addr.add_add]; exact (box28.le l30').cell rfl, New_box fun r101 h32 hr101 l32 b101 => ?_⟩
      have l2832 := l30'.trans l32
      have o32 := o28.le l2832
      have box32 := box28.le l2832
      have nar := o28.1
      simp only [List.length_map, List.length_take, Nat.mul_one] at nar
      refine App_one (l28.trans l2832) o32 b101 rfl (by omega) (by omega) fun s102 h33 l33 o33 n33 f33 d33 => ?_
      have box33 : Box h33 r [sV sa, sV sf, iV p.main, sV vs, sV ar, sV s80, sV cs, sV ws, .bool false] 78 := by
        unfold Box
        rw [f33 r (fun a ha' e => own_box o32 box32 (by decide) ha' e.symm) (by unfold Box at box32; rw [box32]; simp)]
        exact box32
      rw [Addr.add_add]
      refine Box_st (i := 4) box33 (by simp) fun h34 box34 f34 => ?_
      refine Wk_self (hK2 _ _ hk' ⟨by rw [wnat hk' ha.bd], s102, fun q o hq => ?_, box34, ?_⟩)
      · rw [f34 q (fun e => by subst e; rw [del_self] at hq; cases hq)]; exact l33 _ _ hq
      · have := o33.frame (h' := h34) fun a ob ha' hob => (f34 _ (own_box o33 box33 (by decide) ha')).trans hob
        rw [List.take_succ_eq_append_getElem hk', List.map_append, List.map_append]
        exact this
  · have : k = p.arrays.length := by have := ha.len; simp only at hge; omega
    subst this
    rw [List.take_of_length_le (Nat.le_refl _)] at o28
    -- the base of the rounds: all but what they may turn
    have idsD : ∀ q ∈ ids, V.del h27 r q = some (.map #[] 0) := fun q hq => by
      obtain ⟨_, h1⟩ := k8.mi q hq
      have ne : q ≠ r := fun e => by subst e; have := k8.box; unfold Box at this; rw [h1] at this; cases this
      rw [del_ne ne]; exact keep27 q ne _ h1
    have out : ∀ q o, h8 q = some o → q ≠ r → q ∉ ids → V.dels h27 (r :: a80.block :: ids) q = some o := fun q o ho h1 h2 => by
      rw [dels_out]
      · exact keep27 q h1 o ho
      · simp only [List.mem_cons, not_or]
        exact ⟨h1, fun e => (by rw [e, n80] at ho; cases ho), h2⟩
    have lC6 : Le h6 (V.dels h27 (r :: a80.block :: ids)) := fun q o hq => out q o (k8.le _ _ hq) (fun e => by subst e; rw [k8.newr] at hq; cases hq) fun hm => by rw [(k8.mi q hm).1] at hq; cases hq
    have lCD : Le (V.dels h27 (r :: a80.block :: ids)) (V.del h27 r) := fun q o hq => by
      by_cases hm : q ∈ r :: a80.block :: ids
      · rw [dels_in hm] at hq; cases hq
      · rw [dels_out hm] at hq
        rw [del_ne (fun e => hm (by rw [e]; simp))]; exact hq
    have r4h6 : h6 r4 = some (.cells #[.slice none 0 0, .slice none 0 0, .slice none 0 0, .slice none 0 0] 33) := l6 _ _ b4
    -- slices and maps that stay, without the place of the result
    have slC : ∀ (s : Sl) (T : TypeId) (xs : List Nat), OwnS h6 h8 s T 1 (xs.map fun q => Value.map (some q)) → T ≠ 78 → isSl repMap 1 (V.del (V.dels h27 (r :: a80.block :: ids)) r4) s xs := fun s T xs o hT => by
      refine (OwnS.frame (h' := V.del (V.dels h27 (r :: a80.block :: ids)) r4) o fun a ob ha' hob => ?_).sl fun _ _ _ h => h
      obtain ⟨g1, arr, g2⟩ := o.blk ha'
      rw [del_ne (fun e => by rw [e, r4h6] at g1; cases g1)]
      refine out _ _ hob (own_box o k8.box hT ha') fun hm => ?_
      rw [(k8.mi _ hm).2] at g2; cases g2
    have lC4 : Le h1 (V.del (V.dels h27 (r :: a80.block :: ids)) r4) := fun q o hq => by
      rw [del_ne (fun e => by rw [e, hr4] at hq; cases hq)]
      exact lC6 _ _ (l6 _ _ (l2 _ _ hq))
    have cC : SolC (V.del (V.dels h27 (r :: a80.block :: ids)) r4) p (cutOf cutIn) (writesD p) sa sf vs cs ws ids := by
      refine ⟨ha.le mono_arr (l1.trans lC4), hf.le mono_func (l1.trans lC4), slC vs 56 ids k8.ov (by decide), hlen, k8.nd, ⟨cl, slC cs 29 cl k8.oc (by decide), by omega, fun f q hq => ?_⟩, ?_⟩
      · obtain ⟨g0, o, m, g1, g2, g3⟩ := k8.mc f q hq
        refine ⟨o, m, ?_, g2, g3⟩
        rw [del_ne (fun e => by rw [e, r4h6] at g0; cases g0)]
        refine out q o g1 (fun e => ?_) fun hm => k8.dis q hm (List.mem_of_getElem? hq)
        obtain ⟨es, clk, rfl⟩ := isMap_of g2
        have := k8.box
        unfold Box at this
        rw [← e, g1] at this; cases this
      · refine (OwnS.frame (h' := V.del (V.dels h27 (r :: a80.block :: ids)) r4) o6 fun a ob ha' hob => ?_).bools
        obtain ⟨g1, arr, g2⟩ := o6.blk ha'
        rw [del_ne (fun e => by rw [e, show h2 r4 = _ from b4] at g1; cases g1)]
        exact lC6 _ _ hob
    generalize hCdef : V.dels h27 (r :: a80.block :: ids) = hC at *
    have nC : ∀ q ∈ r :: a80.block :: ids, hC q = none := fun q hq => by rw [← hCdef]; exact dels_in hq
    have ar80 : ∀ a, ar.a = some a → a.block ≠ a80.block := fun a ha' e => by
      obtain ⟨g1, arr, g2⟩ := o28.blk ha'
      rw [e, del_ne b80r, h80] at g1; cases g1
    have kS : SolW hC h28 p r sa sf vs ar s80 cs ws ids (L0 p) false := by
      refine ⟨lCD.trans l28, box28, nC r (by simp), fun f q hq => ?_, ⟨p.arrays.map labA, OwnS.rebase o28 fun a ha' => ?_, by simp, fun i x hx => ?_⟩, ⟨List.replicate p.funcs.length 0, ?_, by simp, fun i x hx => ?_⟩, fun a b ha' hb' e => ?_⟩
      · have hm : q ∈ ids := List.mem_of_getElem? hq
        exact ⟨nC q (by simp [hm]), _, [], l28 _ _ (idsD q hm), MapRep.empty _, fun v => by rw [mget_nil]; rfl⟩
      · exact lCD.nil (o28.blk ha').1
      · rw [List.getElem?_map] at hx
        cases hpa : p.arrays[i]? with
        | none => rw [hpa] at hx; cases hx
        | some y =>
          rw [hpa] at hx
          cases hx
          unfold L0
          simp only [hpa, labA]
      · have : OwnS h8 h28 s80 42 1 (List.replicate p.funcs.length (iV 0)) := o27.frame fun a ob ha' hob => l28 _ _ (by rw [ha80] at ha'; cases ha'; rw [del_ne b80r]; exact hob)
        rw [List.map_replicate]
        exact OwnS.rebase this fun a ha' => by rw [ha80] at ha'; cases ha'; exact nC _ (by simp)
      · rw [List.getElem?_replicate] at hx
        split at hx
        · cases hx; rfl
        · cases hx
      · rw [ha80] at hb'
        cases hb'
        exact ar80 a ha' e
    refine kS.turn (b := true) fun h38 k38 _ => ?_
    refine of_main k38 (cC.le (del_le _ _)) ok (fun f hf' => by have := (few.all f hf').blocks; omega) (b2'.le lC6) fun h39 L k39 hL => ?_
    have b4' : Box h39 r4 [.slice none 0 0, .slice none 0 0, .slice none 0 0, .slice none 0 0] 33 := k39.le _ _ (lC6 _ _ r4h6)
    refine ⟨(vs, ar, s80, cs, ()), ?_, ?_⟩
    · refine cellsAt_of fun n v hv => ?_
      rw [Addr.add_add]
      refine k39.box.cell ?_
      rw [Nat.zero_add]
      match n, hv with
      | 0, hv => exact hv
      | 1, hv => exact hv
      | 2, hv => exact hv
      | 3, hv => exact hv
    · refine StL_box (h := V.del h39 r4) b4' rfl (del_le _ _) (del_self _ _) fun h51 l51 b51 f51 => ⟨(vs, ar, s80, cs, ()), b51.cells, Wk_self (hR2 ok h51 vs ar s80 cs L (fun q o hq => ?_) ⟨?_, ?_, ?_, ?_⟩ hL)⟩
      · have hq1 := l1 _ _ hq
        have ne : q ≠ r4 := fun e => by rw [e, hr4] at hq1; cases hq1
        rw [f51 q ne]
        exact k39.le _ _ (lC6 _ _ (l6 _ _ (l2 _ _ hq1)))
      · have l4 : Le (V.del hC r4) h51 := fun q o hq => by
          have ne : q ≠ r4 := fun e => by rw [e, del_self] at hq; cases hq
          rw [f51 q ne]
          rw [del_ne ne] at hq
          exact k39.le _ _ hq
        obtain ⟨v1, v2, v3, v4⟩ := cC.vals.le mono_map l4
        refine ⟨by simpa [hlen] using v1, v2, v3, fun i hi => ?_⟩
        have hi' : i < ids.length := by simpa [hlen] using hi
        obtain ⟨a, g1, g2⟩ := v4 i hi'
        refine ⟨a, g1, ids[i], ?_⟩
        obtain ⟨_, o, m, m1, m2, m3⟩ := k39.maps i _ (List.getElem?_eq_getElem hi')
        obtain ⟨es, clk, rfl⟩ := isMap_of m2
        refine ⟨_, m, g2, ?_, m2, fun v => ?_⟩
        · rw [f51 _ (fun e => ?_)]
          · exact m1
          · unfold Box at b4'
            rw [← e, m1] at b4'; cases b4'
        · rw [m3]; simp
      · obtain ⟨l, g1, g2, g3⟩ := k39.arrs
        have e : l = (List.range p.arrays.length).map fun i => L (.arr i) := by
          apply List.ext_getElem?
          intro i
          rw [List.getElem?_map]
          by_cases hi : i < p.arrays.length
          · rw [List.getElem?_range hi, List.getElem?_eq_getElem (by omega)]
            exact congrArg some (g3 i _ (List.getElem?_eq_getElem (by omega)))
          · rw [List.getElem?_eq_none (by omega), List.getElem?_eq_none (by simpa using hi)]; rfl
        rw [← e]
        exact (OwnS.frame (h' := h51) g1 fun a ob ha' hob => (f51 _ (own_box g1 b4' (by decide) ha')).trans hob).ints
      · obtain ⟨l, g1, g2, g3⟩ := k39.rets
        have e : l = (List.range p.funcs.length).map fun i => L (.ret i) := by
          apply List.ext_getElem?
          intro i
          rw [List.getElem?_map]
          by_cases hi : i < p.funcs.length
          · rw [List.getElem?_range hi, List.getElem?_eq_getElem (by omega)]
            exact congrArg some (g3 i _ (List.getElem?_eq_getElem (by omega)))
          · rw [List.getElem?_eq_none (by omega), List.getElem?_eq_none (by simpa using hi)]; rfl
        rw [← e]
        exact (OwnS.frame (h' := h51) g1 fun a ob ha' hob => (f51 _ (own_box g1 b4' (by decide) ha')).trans hob).ints
      · have := k8.oc.1
        simp at this
        omega
end Go.Proofs.Ytaefmhephoilmaa

/- Contracts: head, the document's example. -/
namespace Go.Proofs.Ytaefmhephoilmaa
open Go Go.VL

theorem Box.from {h : V} {r : Nat} {cs vs : List Value} {T : TypeId} (b : Box h r cs T) (i : Nat) (hv : ∀ (j : Nat) v, vs[j]? = some v → cs[i + j]? = some v) : cellsAt h (Addr.add ⟨r, 0, none⟩ i) 0 vs :=
  cellsAt_of fun j v hj => by rw [Addr.add_add, Nat.zero_add]; exact b.cell (hv j v hj)
def hI1 : InsD := ⟨3, 1, [], 0, 0, 0, 0⟩
def hI2 : InsD := ⟨2, 2, [1, 1], 0, 1, 0, 0⟩
def hBl : BlockD := ⟨[], [hI1, hI2], ⟨3, 2, [], 0⟩⟩
def hP : ProgD := ⟨[⟨⟨#[115]⟩, 2, 0⟩], [⟨⟨#[]⟩, [hBl]⟩], 0⟩
theorem hRch : Rch [hBl] 0 := .zero (by decide)
theorem hKnown : knownOk [hBl] := by
  have h1 : roundF [hBl] 1 ⟨[none], []⟩ = (⟨[some 0], [fun _ => false, afterD (fun _ => false) hBl]⟩, true) := by
    show blockF [hBl] 0 (⟨[none], []⟩, false) = _
    unfold blockF
    rw [if_pos (rchB_iff.2 hRch)]
    rfl
  have h2 : roundF [hBl] 1 ⟨[some 0], [fun _ => false, afterD (fun _ => false) hBl]⟩ = (⟨[some 0], [fun _ => false, afterD (fun _ => false) hBl, afterD (fun _ => false) hBl]⟩, false) := by
    show blockF [hBl] 0 (⟨[some 0], _⟩, false) = _
    unfold blockF
    rw [if_pos (rchB_iff.2 hRch)]
    rfl
  have u : usedD (fun _ => false) hBl = true := by decide
  refine ⟨⟨⟨[some 0], [fun _ => false, afterD (fun _ => false) hBl, afterD (fun _ => false) hBl]⟩, ?_, ?_⟩, [some 0], fun _ _ => false, rfl, fun _ _ _ => rfl, ?_, ?_⟩
  · refine KRun.go (by show (roundF [hBl] 1 ⟨[none], []⟩).2 = true; rw [h1]) ?_
    show KRun _ (roundF [hBl] 1 ⟨[none], []⟩).1 _
    rw [h1]
    have := KRun.stop (bs := [hBl]) (st := ⟨[some 0], [fun _ => false, afterD (fun _ => false) hBl]⟩) (by show (roundF [hBl] 1 _).2 = false; rw [h2])
    have e : (roundF [hBl] [hBl].length ⟨[some 0], [fun _ => false, afterD (fun _ => false) hBl]⟩).1 = ⟨[some 0], [fun _ => false, afterD (fun _ => false) hBl, afterD (fun _ => false) hBl]⟩ := by
      show (roundF [hBl] 1 _).1 = _
      rw [h2]
    rw [e] at this
    exact this
  · intro b h bk hb hbk
    match b, hb, hbk with
    | 0, hb, hbk => cases hb; cases hbk; exact u
  · intro b bk _ hbk
    match b, hbk with
    | 0, hbk => cases hbk; exact ⟨fun _ => ⟨0, rfl⟩, fun r _ w hw => by simp [hBl] at hw⟩
  · intro b r bk hb hbk
    match b, hb, hbk with
    | 0, hb, hbk => cases hbk; exact u
theorem hOk : CheckOk hP := by
  refine ⟨fun a ha => ?_, by decide, by decide, fun f hf => ?_, fun f hf => ?_⟩
  · rw [List.mem_singleton.1 ha]; exact ⟨by decide, by decide, by decide, by decide⟩
  · cases hf; rfl
  · rw [List.mem_singleton.1 hf]
    refine ⟨by simp, by decide, by decide, fun b hb => ?_, hKnown⟩
    rw [List.mem_singleton.1 hb]
    refine ⟨by decide, fun i hi => ?_⟩
    rcases List.mem_cons.1 hi with e | e
    · subst e; decide
    · rw [List.mem_singleton.1 e]; decide
theorem hFew : FewOk hP := by
  refine ⟨by decide, by decide, fun f hf => ?_⟩
  rw [List.mem_singleton.1 hf]
  refine ⟨by decide, by decide, fun b hb => ?_⟩
  rw [List.mem_singleton.1 hb]
  refine ⟨by decide, by decide, by decide, fun i hi => ?_, fun w hw => by simp [hBl] at hw⟩
  rcases List.mem_cons.1 hi with e | e
  · subst e; decide
  · rw [List.mem_singleton.1 e]; decide
theorem hLab {L : LabF} {wr : List Bool} (h : LeastL hP (cutOf []) wr L) : L (.val 0 1) = 2 ∧ L (.val 0 2) = 2 ∧ L (.ret 0) = 2 := by
  have ha : 2 ≤ L (.arr 0) := h.ge (.arr 0)
  have hm : ∀ c ∈ blockCons hP (cutOf []) wr 0 hBl, c ∈ progCons hP (cutOf []) wr := by
    intro c hc
    refine List.mem_flatMap.2 ⟨0, by decide, List.mem_flatMap.2 ⟨0, by decide, ?_⟩⟩
    have e : (FuncD.at hP 0).blocks = [hBl] := rfl
    rw [e, if_pos (rchB_iff.2 hRch)]
    exact hc
  have c1 := h.closed _ (hm ⟨.val 0 1, fun L => cutS (cutOf []) 0 1 (imax (imax (L (.arr 0)) (valsOf 0 [] L)) (mayD wr hI1))⟩ (by simp [blockCons, hBl, insCons, hI1]))
  have c2 := h.closed _ (hm ⟨.val 0 2, fun L => cutS (cutOf []) 0 2 (valsOf 0 [1, 1] L)⟩ (by simp [blockCons, hBl, insCons, hI1, hI2]))
  have c3 := h.closed _ (hm ⟨.ret 0, fun L => staysD (L (.val 0 2))⟩ (by simp [blockCons, hBl, endCons]))
  have k : ∀ v x, cutS (cutOf []) 0 v x = x := fun v x => by unfold cutS; rw [if_neg (by simp [cutOf])]
  simp only [k] at c1 c2
  have b1 := h.le2 (.val 0 1)
  have b2 := h.le2 (.val 0 2)
  have b3 := h.le2 (.ret 0)
  have e1 : L (.val 0 1) = 2 := by
    have : L (.arr 0) ≤ imax (imax (L (.arr 0)) (valsOf 0 [] L)) (mayD wr hI1) := by unfold imax; split <;> split <;> omega
    omega
  have e2 : L (.val 0 2) = 2 := by
    have : 2 ≤ valsOf 0 [1, 1] L := by simp [valsOf, imax, e1]
    omega
  refine ⟨e1, e2, ?_⟩
  simp only [e2] at c3
  have : staysD 2 = 2 := by decide
  omega
end Go.Proofs.Ytaefmhephoilmaa

/- Contracts: head, its walk. -/
namespace Go.Proofs.Ytaefmhephoilmaa
open Go Go.VL

theorem isSl_one {α : Type} {rep : V → Addr → α → Prop} {sz : Nat} {h : V} {r : Nat} {x : α} (hx : rep h ⟨r, 0, none⟩ x) : isSl rep sz h ⟨some ⟨r, 0, none⟩, 1, 1⟩ [x] := by
  refine ⟨rfl, Nat.le_refl _, by show (1 : Nat) ≤ _; omega, fun k hk => ⟨_, rfl, ?_⟩⟩
  have e : k = 0 := by simp at hk; omega
  subst e
  rw [Nat.zero_mul, add_at]
  exact hx
theorem c_head {h : V} {R : Value → V → Prop} (hR : ∀ h', Le h h' → R (.bool true) h') : ACalls Try.prog 7 [] h R := by
  refine S7_ok _ _ (New_box fun r5 h1 hr5 l1 b5 => New_box fun r7 h2 hr7 l2 b7 => New_box fun r9 h3 hr9 l3 b9 => New_box fun r12 h4 hr12 l4 b12 => New_box fun r14 h5 hr14 l5 b14 => New_box fun r1 h6 hr1 l6 b1 => ?_)
  refine StL_box (h := h5) b1 rfl l6 hr1 fun h7 l7 b1' f7 => ⟨(⟨some ⟨r5, 0, none⟩, 1, 1⟩, ⟨some ⟨r14, 0, none⟩, 1, 1⟩, 0, ()), b1'.cells, ?_⟩
  have l47 := l5.trans l7
  have l37 := l4.trans l47
  have l27 := l3.trans l37
  have l17 := l2.trans l27
  have ha : isArrs h7 ⟨some ⟨r5, 0, none⟩, 1, 1⟩ hP.arrays := isSl_one (rep := repArr) (cellsAt_le l17 b5.cells)
  have h11 : isInts h7 ⟨some ⟨r7, 0, none⟩, 2, 2⟩ [1, 1] := by
    refine ⟨rfl, Nat.le_refl _, by show (2 : Nat) ≤ _; omega, fun k hk => ⟨_, rfl, ?_⟩⟩
    match k, hk with
    | 0, _ => exact (b7.le l27).cell rfl
    | 1, _ => exact (b7.le l27).cell rfl
  have hi : isInss h7 ⟨some ⟨r9, 0, none⟩, 2, 2⟩ [hI1, hI2] := by
    refine ⟨rfl, Nat.le_refl _, by show (2 : Nat) ≤ _; omega, fun k hk => ⟨_, rfl, ?_⟩⟩
    match k, hk with
    | 0, _ =>
      refine ⟨⟨none, 0, 0⟩, isSl_nil _ _ _, Box.from (b9.le l37) 0 fun j v hv => ?_⟩
      match j, hv with
      | 0, hv => exact hv
      | 1, hv => exact hv
      | 2, hv => exact hv
      | 3, hv => exact hv
      | 4, hv => exact hv
      | 5, hv => exact hv
      | 6, hv => exact hv
    | 1, _ =>
      refine ⟨⟨some ⟨r7, 0, none⟩, 2, 2⟩, h11, Box.from (b9.le l37) 7 fun j v hv => ?_⟩
      match j, hv with
      | 0, hv => exact hv
      | 1, hv => exact hv
      | 2, hv => exact hv
      | 3, hv => exact hv
      | 4, hv => exact hv
      | 5, hv => exact hv
      | 6, hv => exact hv
  have hb : isBlocks h7 ⟨some ⟨r12, 0, none⟩, 1, 1⟩ [hBl] := isSl_one (rep := repBlock) ⟨⟨none, 0, 0⟩, _, ⟨none, 0, 0⟩, isSl_nil _ _ _, hi, isSl_nil _ _ _, (b12.le l47).cells⟩
  have hf : isFuncs h7 ⟨some ⟨r14, 0, none⟩, 1, 1⟩ hP.funcs := isSl_one (rep := repFunc) ⟨_, hb, (b14.le l7).cells⟩
  have l07 := l1.trans l17
  refine c_Of (p := hP) (cutIn := []) (pc := ⟨none, 0, 0⟩) ha hf (isSl_nil _ _ _) hFew (fun hn => absurd hOk hn) fun _ h8 vs ar rs cs L l8 lab hL => ⟨((vs, ar, rs, cs, ()), 0, ()), rfl, ?_⟩
  refine New_box fun r2 h9 hr2 l9 b2 => StL_box (h := h8) b2 rfl l9 hr2 fun h10 l10 b2' f10 => ?_
  obtain ⟨e1, e2, e3⟩ := hLab hL
  have hv := lab.vals.le mono_vals l10
  have hrt := lab.rets.le mono_int l10
  have nv : vs.n = 1 := hv.len
  have nr : rs.n = 1 := hrt.len
  have na : ar.n = 1 := lab.arrs.len
  refine cond_eqi (fun _ => ⟨vs, b2'.cell rfl, cond_eqi (fun _ => ⟨vs, b2'.cell rfl, ?_⟩) (fun n => absurd (by show (vs.n : Int) = 1; omega) n)⟩) (fun n => absurd rfl n)
  refine hv.ix (i := 0) (by omega) (by rw [List.length_map, List.length_range]; exact Nat.zero_lt_one) fun a ⟨q, o, m, g1, g2, g3, g4⟩ => ⟨some q, g1, Look_map g2 g3 ?_⟩
  have k1 : (mget m 1).getD (0 : Int) = 2 := by rw [g4]; exact e1
  have k2 : (mget m 2).getD (0 : Int) = 2 := by rw [g4]; exact e2
  rw [k1]
  refine cond_eqi (fun _ => ⟨vs, b2'.cell rfl, ?_⟩) (fun n => absurd rfl n)
  refine hv.ix (i := 0) (by omega) (by rw [List.length_map, List.length_range]; exact Nat.zero_lt_one) fun a ⟨q, o, m, g1, g2, g3, g4⟩ => ⟨some q, g1, Look_map g2 g3 ?_⟩
  have k2 : (mget m 2).getD (0 : Int) = 2 := by rw [g4]; exact e2
  rw [k2]
  refine cond_eqi (fun _ => ⟨rs, b2'.cell rfl, cond_eqi (fun _ => ⟨rs, b2'.cell rfl, ?_⟩) (fun n => absurd (by show (rs.n : Int) = 1; omega) n)⟩) (fun n => absurd rfl n)
  refine hrt.ix (i := 0) (by omega) (by rw [List.length_map, List.length_range]; exact Nat.zero_lt_one) fun a ha' => ⟨_, ha', ?_⟩
  refine cond_eqi (fun _ => ⟨ar, b2'.cell rfl, Wk_self ?_⟩) (fun n => absurd e3 n)
  have : ((ar.n : Int) == 1) = true := by rw [na]; rfl
  rw [this]
  exact hR h10 ((l07.trans l8).trans l10)
end Go.Proofs.Ytaefmhephoilmaa

/- Plain: constraints without their cut; what more cut does. -/
namespace Go.Proofs.Ytaefmhephoilmaa
open Go Go.VL

def mkC (cut : CutF) (r : Con) : Con := ⟨r.tgt, fun L => match r.tgt with
  | .val g v => cutS cut g v (r.src L)
  | _ => staysD (r.src L)⟩
def parRaw (g : Nat) (ps : List Int) (src : Nat → LabF → Int) (k : Nat) : List Con := (List.range k).map fun j => ⟨.val g (ps.getD j 0), src j⟩
def insRaw (p : ProgD) (wr : List Bool) (f : Nat) (i : InsD) : List Con :=
  if i.op = 1 then [⟨.val f i.dst, fun _ => 0⟩]
  else if i.op = 2 then [⟨.val f i.dst, fun L => valsOf f i.args L⟩]
  else if i.op = 3 ∨ i.op = 5 then [⟨.val f i.dst, fun L => imax (imax (L (.arr i.arr.toNat)) (valsOf f i.args L)) (mayD wr i)⟩]
  else if i.op = 4 then [⟨.arr i.arr.toNat, fun L => valsOf f i.args L⟩]
  else if i.op = 6 then [⟨.arr i.arr.toNat, fun L => L (.val f (i.args.getD 1 0))⟩]
  else if i.op = 7 then parRaw i.fn.toNat (FuncD.at p i.fn.toNat).params (fun j L => staysD (L (.val f (i.args.getD j 0)))) (FuncD.at p i.fn.toNat).params.length ++ [⟨.val f i.dst, fun L => L (.ret i.fn.toNat)⟩]
  else []
def wayRaw (p : ProgD) (f : Nat) (w : EdgeD) : List Con := match (FuncD.at p f).blocks[w.to.toNat]? with
  | some b => parRaw f b.params (fun j L => L (.val f (w.args.getD j 0))) b.params.length
  | none => []
def endRaw (f : Nat) (e : EndD) : List Con := if e.kind = 3 then [⟨.ret f, fun L => L (.val f e.val)⟩] else []
def blockRaw (p : ProgD) (wr : List Bool) (f : Nat) (b : BlockD) : List Con := b.ins.flatMap (insRaw p wr f) ++ b.e.ways.flatMap (wayRaw p f) ++ endRaw f b.e
noncomputable def funcRaw (p : ProgD) (wr : List Bool) (f : Nat) : List Con :=
  (List.range (FuncD.at p f).blocks.length).flatMap fun n => if rchB (FuncD.at p f).blocks n = true then (match (FuncD.at p f).blocks[n]? with | some b => blockRaw p wr f b | none => []) else []
noncomputable def progRaw (p : ProgD) (wr : List Bool) : List Con := (List.range p.funcs.length).flatMap (funcRaw p wr)
theorem parCons_raw {cut : CutF} {g : Nat} {ps : List Int} {src : Nat → LabF → Int} {k : Nat} : parCons cut g ps src k = (parRaw g ps src k).map (mkC cut) := by
  unfold parCons parRaw
  rw [List.map_map]
  rfl
theorem insCons_raw {p : ProgD} {cut : CutF} {wr : List Bool} {f : Nat} {i : InsD} : insCons p cut wr f i = (insRaw p wr f i).map (mkC cut) := by
  unfold insCons insRaw
  split
  · rfl
  split
  · rfl
  split
  · rfl
  split
  · rfl
  split
  · rfl
  split
  · rw [List.map_append, parCons_raw]; rfl
  · rfl
theorem wayCons_raw {p : ProgD} {cut : CutF} {f : Nat} {w : EdgeD} : wayCons p cut f w = (wayRaw p f w).map (mkC cut) := by
  unfold wayCons wayRaw
  cases (FuncD.at p f).blocks[w.to.toNat]? with
  | some b => exact parCons_raw
  | none => rfl
theorem endCons_raw {cut : CutF} {f : Nat} {e : EndD} : endCons f e = (endRaw f e).map (mkC cut) := by
  unfold endCons endRaw
  split <;> rfl
theorem blockCons_raw {p : ProgD} {cut : CutF} {wr : List Bool} {f : Nat} {b : BlockD} : blockCons p cut wr f b = (blockRaw p wr f b).map (mkC cut) := by
  unfold blockCons blockRaw
  rw [List.map_append, List.map_append, List.map_flatMap, List.map_flatMap, ← endCons_raw]
  congr 2
  · congr 1; funext i; exact insCons_raw
  · congr 1; funext w; exact wayCons_raw
theorem progCons_raw {p : ProgD} {cut : CutF} {wr : List Bool} : progCons p cut wr = (progRaw p wr).map (mkC cut) := by
  unfold progCons progRaw
  rw [List.map_flatMap]
  congr 1
  funext f
  unfold funcCons funcRaw
  rw [List.map_flatMap]
  congr 1
  funext n
  split
  · cases (FuncD.at p f).blocks[n]? with
    | some b => exact blockCons_raw
    | none => rfl
  · rfl
theorem staysD_le (x : Int) : staysD x ≤ x := by unfold staysD; split <;> omega
theorem cutS_le {a b : CutF} (h : ∀ f v, a f v = true → b f v = true) (f : Nat) (v x : Int) : cutS b f v x ≤ cutS a f v x := by
  unfold cutS
  by_cases ha : a f v = true
  · rw [if_pos ha, if_pos (h f v ha)]; exact Int.le_refl _
  · rw [if_neg ha]
    split
    · exact staysD_le x
    · exact Int.le_refl _
theorem mkC_le {a b : CutF} (h : ∀ f v, a f v = true → b f v = true) (r : Con) (L : LabF) : (mkC b r).src L ≤ (mkC a r).src L := by
  obtain ⟨t, s⟩ := r
  cases t with
  | val g v => exact cutS_le h g v _
  | arr i => exact Int.le_refl _
  | ret f => exact Int.le_refl _
/- more cut, less labels -/
theorem more_cut {p : ProgD} {wr : List Bool} {a b : CutF} {A B : LabF} (hA : LeastL p a wr A) (hB : LeastL p b wr B) (h : ∀ f v, a f v = true → b f v = true) : LeL B A := by
  refine hB.least A hA.ge fun c hc => ?_
  rw [progCons_raw] at hc
  obtain ⟨r, hr, rfl⟩ := List.mem_map.1 hc
  have := hA.closed (mkC a r) (by rw [progCons_raw]; exact List.mem_map.2 ⟨r, hr, rfl⟩)
  exact Int.le_trans (mkC_le h r A) this
/- what raw constraints are like -/
structure RawOk (r : Con) : Prop where
  mono : r.mono
  bd : r.bd
  two : ∀ L N : LabF, (∀ t, N t < 2 → L t ≤ 1) → r.src N < 2 → r.src L ≤ 1
theorem valsOf_two {f : Nat} {args : List Int} {L N : LabF} (h : ∀ t, N t < 2 → L t ≤ 1) (hv : valsOf f args N < 2) : valsOf f args L ≤ 1 := by
  unfold valsOf at *
  suffices ∀ (a b : Int), a ≤ 1 → args.foldl (fun a v => imax a (N (.val f v))) b < 2 → args.foldl (fun a v => imax a (L (.val f v))) a ≤ 1 from this 0 0 (by omega) hv
  have grow : ∀ (l : List Int) (b : Int), b ≤ l.foldl (fun a v => imax a (N (.val f v))) b := by
    intro l
    induction l with
    | nil => exact fun b => Int.le_refl _
    | cons v l ih =>
      intro b
      refine Int.le_trans ?_ (ih (imax b (N (.val f v))))
      unfold imax; split <;> omega
  clear hv
  induction args with
  | nil => exact fun a b h _ => h
  | cons v args ih =>
    intro a b ha hb
    have h1 := grow args (imax b (N (.val f v)))
    have h2 : imax b (N (.val f v)) < 2 := Int.lt_of_le_of_lt h1 hb
    have h3 : N (.val f v) < 2 := by unfold imax at h2; split at h2 <;> omega
    exact ih _ _ (imax_bd ha (h _ h3)) hb
theorem staysD_two {a b : Int} (h : b < 2 → a ≤ 1) (hb : staysD b < 2) : staysD a ≤ 1 := by
  have : b < 2 := by unfold staysD at hb; split at hb <;> omega
  exact Int.le_trans (staysD_le a) (h this)
theorem parRaw_ok {g : Nat} {ps : List Int} {src : Nat → LabF → Int} (h : ∀ j, RawOk ⟨.val g 0, src j⟩) (k : Nat) : ∀ c ∈ parRaw g ps src k, RawOk c := by
  intro c hc
  obtain ⟨j, _, rfl⟩ := List.mem_map.1 hc
  exact ⟨(h j).mono, (h j).bd, (h j).two⟩
theorem mayD_one {wr : List Bool} {i : InsD} : mayD wr i ≤ 1 := by unfold mayD; repeat (split; · omega); omega
theorem insRaw_ok {p : ProgD} {wr : List Bool} {f : Nat} {i : InsD} : ∀ c ∈ insRaw p wr f i, RawOk c := by
  intro c hc
  unfold insRaw at hc
  split at hc
  · rw [List.mem_singleton.1 hc]
    exact ⟨fun L M h => Int.le_refl _, fun L h => by show (0 : Int) ≤ 2; omega, fun L N _ _ => by show (0 : Int) ≤ 1; omega⟩
  split at hc
  · rw [List.mem_singleton.1 hc]
    exact ⟨fun L M h => valsOf_mono h, fun L h => valsOf_bd h, fun L N h hv => valsOf_two h hv⟩
  split at hc
  · rw [List.mem_singleton.1 hc]
    refine ⟨fun L M h => imax_mono (imax_mono (h _) (valsOf_mono h)) (Int.le_refl _), fun L h => imax_bd (imax_bd (h _) (valsOf_bd h)) mayD_bd, fun L N h hv => ?_⟩
    have hv : imax (imax (N (.arr i.arr.toNat)) (valsOf f i.args N)) (mayD wr i) < 2 := hv
    have h1 : N (.arr i.arr.toNat) < 2 ∧ valsOf f i.args N < 2 := by
      unfold imax at hv
      split at hv <;> split at hv <;> omega
    exact imax_bd (imax_bd (h _ h1.1) (valsOf_two h h1.2)) mayD_one
  split at hc
  · rw [List.mem_singleton.1 hc]
    exact ⟨fun L M h => valsOf_mono h, fun L h => valsOf_bd h, fun L N h hv => valsOf_two h hv⟩
  split at hc
  · rw [List.mem_singleton.1 hc]
    exact ⟨fun L M h => h _, fun L h => h _, fun L N h hv => h _ hv⟩
  split at hc
  · rcases List.mem_append.1 hc with g | g
    · exact parRaw_ok (src := fun j L => staysD (L (.val f (i.args.getD j 0)))) (fun j => ⟨fun L M h => staysD_mono (h _), fun L h => staysD_bd (h _), fun L N h hv => staysD_two (h _) hv⟩) _ c g
    · rw [List.mem_singleton.1 g]
      exact ⟨fun L M h => h _, fun L h => h _, fun L N h hv => h _ hv⟩
  · cases hc
theorem progRaw_ok {p : ProgD} {wr : List Bool} : ∀ c ∈ progRaw p wr, RawOk c := by
  intro c hc
  obtain ⟨f, _, g⟩ := List.mem_flatMap.1 hc
  obtain ⟨n, _, g⟩ := List.mem_flatMap.1 g
  split at g
  · split at g
    · rename_i b _
      unfold blockRaw at g
      rcases List.mem_append.1 g with g | g
      · rcases List.mem_append.1 g with g | g
        · obtain ⟨i, _, g⟩ := List.mem_flatMap.1 g
          exact insRaw_ok c g
        · obtain ⟨w, _, g⟩ := List.mem_flatMap.1 g
          unfold wayRaw at g
          split at g
          · exact parRaw_ok (src := fun j L => L (.val f (w.args.getD j 0))) (fun j => ⟨fun L M h => h _, fun L h => h _, fun L N h hv => h _ hv⟩) _ c g
          · cases g
      · unfold endRaw at g
        split at g
        · rw [List.mem_singleton.1 g]
          exact ⟨fun L M h => h _, fun L h => h _, fun L N h hv => h _ hv⟩
        · cases g
    · cases g
  · cases g
end Go.Proofs.Ytaefmhephoilmaa

/- Plain: what is secret is so whatever is cut; with all cut nothing is transient. -/
namespace Go.Proofs.Ytaefmhephoilmaa
open Go Go.VL

theorem staysD_idem (x : Int) : staysD (staysD x) = staysD x := by unfold staysD; split <;> simp_all
theorem staysD_one {x : Int} (h : x ≤ 1) : staysD x ≤ 0 := by unfold staysD; split <;> omega
theorem L0_cases (p : ProgD) (t : Tgt) : L0 p t = 0 ∨ (L0 p t = 2 ∧ ∃ i, t = .arr i) := by
  cases t with
  | val f v => exact .inl rfl
  | ret f => exact .inl rfl
  | arr i =>
    unfold L0
    simp only
    split
    · split
      · exact .inr ⟨rfl, i, rfl⟩
      · exact .inl rfl
    · exact .inl rfl
def secM (D : LabF) : LabF := fun t => match t with
  | .val f v => if D (.val f v) = 2 then 2 else 1
  | .arr i => if D (.arr i) = 2 then 2 else 0
  | .ret f => if D (.ret f) = 2 then 2 else 0
theorem same_two {p : ProgD} {wr : List Bool} {a d : CutF} {A D : LabF} (hA : LeastL p a wr A) (hD : LeastL p d wr D) : ∀ t, A t = 2 → D t = 2 := by
  have hM2 : ∀ t, secM D t ≤ 2 := by intro t; cases t <;> (unfold secM; simp only; split <;> omega)
  have hM1 : ∀ t, D t < 2 → secM D t ≤ 1 := by
    intro t ht
    cases t <;> (unfold secM; simp only; rw [if_neg (by omega)]; omega)
  have hup : LeL (L0 p) (secM D) := by
    intro t
    rcases L0_cases p t with e | ⟨e, i, rfl⟩
    · rw [e]; cases t <;> (unfold secM; simp only; split <;> omega)
    · have := hD.ge (.arr i)
      have h2 := hD.le2 (.arr i)
      unfold secM; simp only
      rw [if_pos (by omega), e]
      exact Int.le_refl _
  have hcl : Closed (progCons p a wr) (secM D) := by
    intro c hc
    rw [progCons_raw] at hc
    obtain ⟨r, hr, rfl⟩ := List.mem_map.1 hc
    have ok := progRaw_ok r hr
    have hd := hD.closed (mkC d r) (by rw [progCons_raw]; exact List.mem_map.2 ⟨r, hr, rfl⟩)
    have b1 := ok.bd _ hM2
    have t2 := ok.two (secM D) D hM1
    obtain ⟨t, s⟩ := r
    simp only at b1 t2
    have hs : s D ≤ 2 := ok.bd D hD.le2
    cases t with
    | val g v =>
      have hd : cutS d g v (s D) ≤ D (.val g v) := hd
      show cutS a g v (s (secM D)) ≤ if D (.val g v) = 2 then 2 else 1
      have hle : cutS a g v (s (secM D)) ≤ s (secM D) := by unfold cutS; split; exact staysD_le _; exact Int.le_refl _
      by_cases h : s D < 2
      · have := t2 h
        split <;> omega
      · have e : s D = 2 := by omega
        rw [e] at hd
        have : cutS d g v 2 = 2 := by unfold cutS; split <;> rfl
        have h2 := hD.le2 (.val g v)
        rw [if_pos (by omega)]
        omega
    | arr i =>
      have hd : staysD (s D) ≤ D (.arr i) := hd
      show staysD (s (secM D)) ≤ if D (.arr i) = 2 then 2 else 0
      by_cases h : s D < 2
      · have := staysD_one (t2 h)
        split <;> omega
      · have e : s D = 2 := by omega
        rw [e] at hd
        have : staysD 2 = 2 := rfl
        have h2 := hD.le2 (.arr i)
        rw [if_pos (by omega)]
        exact staysD_bd b1
    | ret i =>
      have hd : staysD (s D) ≤ D (.ret i) := hd
      show staysD (s (secM D)) ≤ if D (.ret i) = 2 then 2 else 0
      by_cases h : s D < 2
      · have := staysD_one (t2 h)
        split <;> omega
      · have e : s D = 2 := by omega
        rw [e] at hd
        have : staysD 2 = 2 := rfl
        have h2 := hD.le2 (.ret i)
        rw [if_pos (by omega)]
        exact staysD_bd b1
  intro t ht
  have h1 := hA.least _ hup hcl t
  have h2 := hD.le2 t
  apply Classical.byContradiction
  intro hn
  have := hM1 t (by omega)
  omega
theorem no_one {p : ProgD} {wr : List Bool} {d : CutF} {D : LabF} (hD : LeastL p d wr D) (hall : ∀ r ∈ progRaw p wr, ∀ g v, r.tgt = .val g v → d g v = true) : ∀ t, D t ≠ 1 := by
  have hle : LeL (fun t => staysD (D t)) D := fun t => staysD_le _
  have hup : LeL (L0 p) (fun t => staysD (D t)) := by
    intro t
    rcases L0_cases p t with e | ⟨e, i, rfl⟩
    · have := hD.ge t
      rw [e] at this ⊢
      exact staysD_mono (a := 0) this
    · have := hD.ge (.arr i)
      rw [e] at this ⊢
      exact staysD_mono (a := 2) this
  have hcl : Closed (progCons p d wr) (fun t => staysD (D t)) := by
    intro c hc
    rw [progCons_raw] at hc
    obtain ⟨r, hr, rfl⟩ := List.mem_map.1 hc
    have ok := progRaw_ok r hr
    have ha := hall r hr
    have hd := hD.closed (mkC d r) (by rw [progCons_raw]; exact List.mem_map.2 ⟨r, hr, rfl⟩)
    have hm := ok.mono _ _ hle
    obtain ⟨t, s⟩ := r
    simp only at hm ha
    have key : staysD (s D) ≤ D t → staysD (s fun t => staysD (D t)) ≤ staysD (D t) := fun h => by
      have h1 := staysD_mono h
      rw [staysD_idem] at h1
      exact Int.le_trans (staysD_mono hm) h1
    cases t with
    | val g v =>
      have hc := ha g v rfl
      have hd : cutS d g v (s D) ≤ D (.val g v) := hd
      show cutS d g v (s fun t => staysD (D t)) ≤ staysD (D (.val g v))
      unfold cutS at hd ⊢
      rw [if_pos hc] at hd ⊢
      exact key hd
    | arr i => exact key hd
    | ret i => exact key hd
  intro t ht
  have h1 : D t ≤ staysD (D t) := hD.least _ hup hcl t
  rw [ht] at h1
  have : staysD 1 = 0 := rfl
  omega
end Go.Proofs.Ytaefmhephoilmaa

/- Own slices of structs: elements, fields, stores. -/
namespace Go.VL
open Go

section
variable {α : Type} {enc : α → List Value} {sz : Nat}
theorem flat_len (he : ∀ x, (enc x).length = sz) : ∀ l : List α, (l.flatMap enc).length = l.length * sz
  | [] => by simp
  | x :: l => by rw [List.flatMap_cons, List.length_append, he, flat_len he l, List.length_cons, Nat.add_mul]; omega
theorem flat_get (he : ∀ x, (enc x).length = sz) : ∀ {l : List α} {k j : Nat} (hk : k < l.length), j < sz → (l.flatMap enc)[k * sz + j]? = (enc l[k])[j]?
  | [], k, j, hk, _ => by simp at hk
  | x :: l, 0, j, hk, hj => by
    rw [List.flatMap_cons, Nat.zero_mul, Nat.zero_add, List.getElem?_append_left (by rw [he]; exact hj)]; rfl
  | x :: l, k + 1, j, hk, hj => by
    rw [List.flatMap_cons, List.getElem?_append_right (by rw [he, Nat.add_mul]; omega), he, show (k + 1) * sz + j - sz = k * sz + j by rw [Nat.add_mul]; omega]
    exact flat_get he (by simpa using hk) hj
def repEnc (enc : α → List Value) (h : V) (a : Addr) (x : α) : Prop := cellsAt h a 0 (enc x)
theorem mono_enc : Mono (repEnc enc) := fun _ _ _ _ l h => cellsAt_le l h
theorem OwnS.slN {h0 h : V} {s : Sl} {T : TypeId} {l : List α} (he : ∀ x, (enc x).length = sz) (hz : 0 < sz) (o : OwnS h0 h s T sz (l.flatMap enc)) : isSl (repEnc enc) sz h s l := by
  have h1 : s.n = l.length := by
    have := o.1; rw [flat_len he] at this; exact (Nat.eq_of_mul_eq_mul_right hz this).symm
  refine ⟨h1, o.2.1, by have := o.2.2.1; omega, fun k hk => ?_⟩
  have h2 : ∃ v, (l.flatMap enc)[k * sz]? = some v := by
    have := flat_get he hk (j := 0) hz
    rw [Nat.add_zero] at this
    rw [this, List.getElem?_eq_getElem (by rw [he]; exact hz)]
    exact ⟨_, rfl⟩
  obtain ⟨v, hv⟩ := h2
  obtain ⟨a, ha, _⟩ := o.cell hv
  refine ⟨a, ha, cellsAt_of fun j w hw => ?_⟩
  have hj : j < sz := by have := (List.getElem?_eq_some_iff.1 hw).1; rwa [he] at this
  obtain ⟨a', ha', hc⟩ := o.cell ((flat_get he hk hj).trans hw)
  rw [ha] at ha'; cases ha'
  rw [Nat.zero_add, Addr.add_add]; exact hc
theorem flat_set (he : ∀ x, (enc x).length = sz) : ∀ {l : List α} {i : Nat} {x : α}, i < l.length → (l.set i x).flatMap enc = (l.flatMap enc).take (i * sz) ++ enc x ++ (l.flatMap enc).drop (i * sz + sz)
  | [], i, x, hi => by simp at hi
  | y :: l, 0, x, hi => by
    simp only [List.set_cons_zero, List.flatMap_cons, Nat.zero_mul, List.take_zero, List.nil_append, Nat.zero_add]
    rw [List.drop_append_of_le_length (by rw [he]; exact Nat.le_refl _), List.drop_of_length_le (by rw [he]; exact Nat.le_refl _), List.nil_append]
  | y :: l, i + 1, x, hi => by
    have ih := flat_set he (l := l) (i := i) (x := x) (by simpa using hi)
    simp only [List.set_cons_succ, List.flatMap_cons]
    rw [ih, show (i + 1) * sz = (enc y).length + i * sz by rw [he, Nat.add_mul]; omega, List.take_append, show (enc y).length + i * sz + sz = (enc y).length + (i * sz + sz) by omega, List.drop_append, List.take_of_length_le (show (enc y).length ≤ (enc y).length + i * sz by omega), List.drop_of_length_le (show (enc y).length ≤ (enc y).length + (i * sz + sz) by omega)]
    simp
/- a store of some of an element's cells -/
theorem OwnS.setN {h0 h : V} {s : Sl} {T : TypeId} {l : List α} {K : V → Prop} {i : Nat} {d : Nat} {vs : List Value} (x : α) (he : ∀ x, (enc x).length = sz) (o : OwnS h0 h s T sz (l.flatMap enc)) (hle : Le h0 h) (hi : i < l.length)
    (hx : enc x = (enc l[i]).take d ++ vs ++ (enc l[i]).drop (d + vs.length)) (hd : d + vs.length ≤ sz) (hz : 0 < sz)
    (hk : ∀ h', Le h0 h' → OwnS h0 h' s T sz ((l.set i x).flatMap enc) → (∀ b, (∀ a, s.a = some a → b ≠ a.block) → h' b = h b) → K h') : Ix s (i : Int) sz fun a => StL h (a.add d) 0 vs K := by
  have hsn : s.n = l.length := by
    have := o.1; rw [flat_len he] at this; exact (Nat.eq_of_mul_eq_mul_right hz this).symm
  have hfl := flat_len he l
  obtain ⟨h1, h2, h3, h4⟩ := o
  have him : i * sz + sz ≤ s.n * sz := by
    have : (i + 1) * sz ≤ s.n * sz := Nat.mul_le_mul_right _ (by omega)
    rw [Nat.add_mul] at this; omega
  rcases h4 with ⟨ha, hc⟩ | ⟨r, off, arr, ha, hr0, hr, hsz, ht⟩
  · omega
  · refine ⟨_, ha, by omega, by omega, ?_⟩
    have hcm : s.n * sz ≤ s.c * sz := Nat.mul_le_mul_right _ h2
    show StL h (Addr.add (Addr.add ⟨r, off, none⟩ ((i : Int).toNat * sz)) d) 0 vs K
    rw [add_at, add_at, Int.toNat_natCast]
    refine StL_at (h := h) vs arr 0 h (by omega) hr (fun _ _ => rfl) ?_
    rintro h' ⟨arr', hr', hs', he'⟩ hF
    refine hk h' (fun b y hb => (hF b (fun e => by subst e; rw [hr0] at hb; cases hb)).trans (hle _ _ hb)) ⟨by rw [flat_len he, List.length_set, hsn], h2, h3, .inr ⟨r, off, arr', ha, hr0, hr', by rw [hs']; exact hsz, ?_⟩⟩ (fun b hb => hF b (hb _ ha))
    rw [flat_set he hi, hx]
    -- what the element's cells were
    have helt : enc l[i] = ((l.flatMap enc).drop (i * sz)).take sz := by
      apply List.ext_getElem?
      intro j
      by_cases hj : j < sz
      · rw [List.getElem?_take_of_lt hj, List.getElem?_drop, flat_get he hi hj]
      · rw [List.getElem?_take_eq_none (by omega), List.getElem?_eq_none (by rw [he]; omega)]
    rw [he', helt]
    simp only [Nat.add_zero]
    rw [← ht]
    apply List.ext_getElem?
    intro j
    rcases Nat.lt_or_ge j (s.n * sz) with hj | hj
    case inr =>
      rw [List.getElem?_take_eq_none (by omega), List.getElem?_eq_none]
      simp only [List.length_append, List.length_take, List.length_drop, Array.length_toList]
      omega
    rw [List.getElem?_take_of_lt hj, List.getElem?_drop]
    have hal : arr.toList.length = arr.size := Array.length_toList
    by_cases c1 : j < i * sz + d
    · rw [List.append_assoc, List.getElem?_append_left (by rw [List.length_take]; omega), List.getElem?_take_of_lt (by omega)]
      by_cases c0 : j < i * sz
      · rw [List.append_assoc, List.getElem?_append_left (by simp only [List.length_take, List.length_drop]; omega), List.getElem?_take_of_lt c0, List.getElem?_take_of_lt hj, List.getElem?_drop]
      · have e0 : (List.take (i * sz) (List.take (s.n * sz) (List.drop off arr.toList))).length = i * sz := by simp only [List.length_take, List.length_drop]; omega
        rw [List.append_assoc, List.getElem?_append_right (by rw [e0]; omega), e0, List.append_assoc, List.append_assoc, List.getElem?_append_left (by simp only [List.length_take, List.length_drop]; omega)]
        rw [List.getElem?_take_of_lt (by omega), List.getElem?_take_of_lt (by omega), List.getElem?_drop, List.getElem?_take_of_lt (by omega), List.getElem?_drop]
        congr 1; omega
    · have e1 : (List.take (off + (i * sz + d)) arr.toList).length = off + (i * sz + d) := by rw [List.length_take]; omega
      have e0 : (List.take (i * sz) (List.take (s.n * sz) (List.drop off arr.toList))).length = i * sz := by simp only [List.length_take, List.length_drop]; omega
      have e2 : (List.take d (List.take sz (List.drop (i * sz) (List.take (s.n * sz) (List.drop off arr.toList))))).length = d := by simp only [List.length_take, List.length_drop]; omega
      have eo : off + i * sz + d = off + (i * sz + d) := by omega
      rw [eo, List.append_assoc, List.getElem?_append_right (by rw [e1]; omega), e1, show off + j - (off + (i * sz + d)) = j - (i * sz + d) by omega]
      conv => rhs; rw [List.append_assoc, List.getElem?_append_right (by rw [e0]; omega), e0, List.append_assoc, List.append_assoc, List.getElem?_append_right (by rw [e2]; omega), e2, show j - i * sz - d = j - (i * sz + d) by omega]
      by_cases c2 : j - (i * sz + d) < vs.length
      · rw [List.getElem?_append_left c2, List.getElem?_append_left c2]
      · rw [List.getElem?_append_right (by omega), List.getElem?_drop]
        conv => rhs; rw [List.getElem?_append_right (by omega)]
        have e3 : (List.drop (d + vs.length) (List.take sz (List.drop (i * sz) (List.take (s.n * sz) (List.drop off arr.toList))))).length = sz - (d + vs.length) := by simp only [List.length_take, List.length_drop]; omega
        by_cases c3 : j < i * sz + sz
        · rw [List.getElem?_append_left (by rw [e3]; omega), List.getElem?_drop, List.getElem?_take_of_lt (by omega), List.getElem?_drop, List.getElem?_take_of_lt (by omega), List.getElem?_drop]
          congr 1; omega
        · rw [List.getElem?_append_right (by rw [e3]; omega), e3, List.getElem?_drop, List.getElem?_take_of_lt (by omega), List.getElem?_drop]
          congr 1; omega
theorem OwnS.rebaseN {h0 h1 h : V} {s : Sl} {T : TypeId} {sz : Nat} {cs : List Value} (o : OwnS h0 h s T sz cs) (hn : ∀ a, s.a = some a → h1 a.block = none) : OwnS h1 h s T sz cs := by
  obtain ⟨a1, a2, a3, a4⟩ := o
  refine ⟨a1, a2, a3, a4.imp id ?_⟩
  rintro ⟨r, off, arr, a, b, c, d⟩
  exact ⟨r, off, arr, a, hn _ a, c, d⟩
/- one struct more -/
theorem App_enc {h0 h : V} {s : Sl} {T : TypeId} {bytes r : Nat} {x : α} {zero : List Value} {l : List α} {K : Sl → V → Prop} {t : TypeId} (he : ∀ x, (enc x).length = sz) (hz : 0 < sz) (hle : Le h0 h) (o : OwnS h0 h s T sz (l.flatMap enc)) (b : Box h r (enc x) t) (h1 : (enc x).all oneCell = true) (hzl : zero.length = sz) (hpos : 0 < bytes) (hb : (l.length + 1) * bytes ≤ 140737488355328)
    (hk : ∀ s' h', Le h0 h' → OwnS h0 h' s' T sz ((l ++ [x]).flatMap enc) → s'.n = l.length + 1 → (∀ b, (∀ a, s.a = some a → b ≠ a.block) → h b ≠ none → h' b = h b) → (∀ a', s'.a = some a' → (∃ a, s.a = some a ∧ a'.block = a.block) ∨ h a'.block = none) → K s' h') : App h s ⟨some ⟨r, 0, none⟩, 1, 1⟩ T sz bytes zero K := by
  have hsn : s.n = l.length := by
    have := o.1; rw [flat_len he] at this; exact (Nat.eq_of_mul_eq_mul_right hz this).symm
  refine App_own hle o ⟨by rw [he]; simp, fun a ha => by cases ha; exact b.cells⟩ (fun ha => by cases ha) h1 hzl hpos (by rw [hsn]; exact hb) fun s' h' l' o' n' f' d' => hk s' h' l' (by simpa using o') (by rw [n', hsn]) f' d'
end
/- the beginning of a slice, no longer than it may be -/
theorem Slc_one {α : Type} {rep : V → Addr → α → Prop} {h : V} {s : Sl} {x : α} {l : List α} {K : Sl → Prop} (hs : isSl rep 1 h s (x :: l)) (hk : ∀ s', isSl rep 1 h s' [x] → K s') : Slc s none (some 1) (some 1) 1 K := by
  obtain ⟨h1, h2, h3, h4⟩ := hs
  simp only [List.length_cons] at h1
  refine ⟨by simp, by simp, by simp, by simp; omega, hk _ ⟨rfl, by simp, by simp, fun k hk' => ?_⟩⟩
  have e : k = 0 := by simp at hk'; omega
  subst e
  obtain ⟨a, ha, hr⟩ := h4 0 (by simp)
  refine ⟨a.add 0, ?_, ?_⟩
  · simp [ha]
  · rw [Addr.add_add]
    simpa using hr
end Go.VL

/- What functions of the program ask of a view of memory: printed by shal.py. -/
namespace Go.Proofs.Ytaefmhephoilmaa
open Go Go.VL
set_option maxRecDepth 100000
/- palings/taint.Known -/
def an16 : An := (.two .nil (.two (.one (.cut [(3, (.one .bool))] .nil (.two (.two .nil .nil) (.two .nil (.two (.two .nil .nil) .nil))))) (.two .nil .nil)))
def S16 (p0_0 : Int) (p0_1 : Int) (p0_2 : Sl) (p0_3 : Int) (p0_4 : Int) (p0_5 : Int) (p0_6 : Int) (h : V) (R : Value → V → Prop) : Prop :=
  New h (.cells #[(.int .i64 p0_0), (.int .i64 p0_1), (.slice p0_2.a p0_2.n p0_2.c), (.int .i64 p0_3), (.int .i64 p0_4), (.int .i64 p0_5), (.int .i64 p0_6)] 60) fun r1 h1 =>
  Cut (σ := (Bool × Unit)) (fun s h2 =>
  cond s.1
  (Ld h2 (Addr.add (⟨r1, 0, none⟩) 2) .sl fun (x19 : Sl) =>
  Slc x19 none (some ((1 : Int))) (some ((1 : Int))) 1 fun s20 =>
  Wk h2 fun h3 => R (.slice s20.a s20.n s20.c) h3)
  (Ld h2 (Addr.add (⟨r1, 0, none⟩) 0) (.int .i64) fun (x23 : Int) =>
  cond (x23 == ((2 : Int)))
  (Ld h2 (Addr.add (⟨r1, 0, none⟩) 4) (.int .i64) fun (x27 : Int) =>
  CallK Try.prog 34 [(.int .i64 x27)] h2 (.un (.one .bool)) fun (x28 : Bool) h4 =>
  cond x28
  (Ld h4 (Addr.add (⟨r1, 0, none⟩) 2) .sl fun (x31 : Sl) =>
  App h4 ⟨none, 0, 0⟩ x31 3 1 8 [(.int .i64 ((0 : Int)))] fun s32 h5 =>
  Wk h5 fun h6 => R (.slice s32.a s32.n s32.c) h6)
  (Wk h4 fun h7 => R (.slice none 0 0) h7))
  (Wk h2 fun h8 => R (.slice none 0 0) h8))) fun J =>
  Ld h1 (Addr.add (⟨r1, 0, none⟩) 0) (.int .i64) fun (x5 : Int) =>
  cond (x5 == ((5 : Int)))
  (Ld h1 (Addr.add (⟨r1, 0, none⟩) 2) .sl fun (x14 : Sl) =>
  Wk h1 fun h9 => J (decide ((((x14.n : Nat) : Int)) > ((0 : Int))), ()) h9)
  (Ld h1 (Addr.add (⟨r1, 0, none⟩) 0) (.int .i64) fun (x9 : Int) =>
  cond (x9 == ((6 : Int)))
  (Ld h1 (Addr.add (⟨r1, 0, none⟩) 2) .sl fun (x14_1 : Sl) =>
  Wk h1 fun h10 => J (decide ((((x14_1.n : Nat) : Int)) > ((0 : Int))), ()) h10)
  (Wk h1 fun h11 => J (false, ()) h11))
theorem S16_eq (p0_0 : Int) (p0_1 : Int) (p0_2 : Sl) (p0_3 : Int) (p0_4 : Int) (p0_5 : Int) (p0_6 : Int) (h : V) (R : Value → V → Prop) : ABody Try.prog an16 Try.f16 [(.agg ⟨[(.int .i64 p0_0), (.int .i64 p0_1), (.slice p0_2.a p0_2.n p0_2.c), (.int .i64 p0_3), (.int .i64 p0_4), (.int .i64 p0_5), (.int .i64 p0_6)]⟩)] h R = S16 p0_0 p0_1 p0_2 p0_3 p0_4 p0_5 p0_6 h R := by kernel_rfl
theorem S16_ok (p0_0 : Int) (p0_1 : Int) (p0_2 : Sl) (p0_3 : Int) (p0_4 : Int) (p0_5 : Int) (p0_6 : Int) (h : V) (R : Value → V → Prop) (hk : S16 p0_0 p0_1 p0_2 p0_3 p0_4 p0_5 p0_6 h R) : ACalls Try.prog 16 [(.agg ⟨[(.int .i64 p0_0), (.int .i64 p0_1), (.slice p0_2.a p0_2.n p0_2.c), (.int .i64 p0_3), (.int .i64 p0_4), (.int .i64 p0_5), (.int .i64 p0_6)]⟩)] h R :=
  ABody_sound mixed Try.func16 Try.call16 (by kernel_rfl) (by kernel_rfl) (an := an16) (by rw [S16_eq]; exact hk)

/- palings/taint.Sinks -/
def an17 : An := (.two .nil (.two .nil (.two (.two .nil (.one (.loop [(5, (.one .sl)), (18, (.one (.int .i64)))] (.two .nil (.two (.two .nil .nil) (.two (.one (.two .nil (.two (.two .nil (.two (.two .nil .nil) .nil)) (.two .nil (.one (.loop [(5, (.one .sl)), (31, (.one (.int .i64)))] (.two .nil (.two (.two .nil .nil) (.two (.one (.two .nil (.two (.two .nil (.one (.loop [(5, (.one .sl)), (39, (.one (.int .i64)))] (.two .nil (.two (.two .nil .nil) (.two (.one (.two .nil (.two .nil (.one (.loop [(5, (.one .sl)), (47, (.one (.int .i64)))] (.two .nil (.two (.two .nil .nil) (.two (.one (.two .nil (.two .nil (.two .nil (.two .nil .nil))))) .nil)))))))) .nil)))))) (.cut [(86, (.one .bool))] (.perm [0, 1, 2, 3, 4, 5, 6, 7, 8, 9, 10, 11, 12, 13, 14, 15] []) (.two (.perm [0, 1, 2, 3, 4, 5, 6, 7, 8, 9, 10, 11, 12, 13, 14, 15, 16, 17, 18, 19, 20, 21] []) .nil))))) .nil))))))))) .nil)))))) (.two .nil .nil))))
def S17 (p0_0 : Sl) (p0_1 : Sl) (p0_2 : Int) (p1_0 : Sl) (p1_1 : Sl) (p1_2 : Sl) (p1_3 : Sl) (h : V) (R : Value → V → Prop) : Prop :=
  New h (.cells #[(.slice p0_0.a p0_0.n p0_0.c), (.slice p0_1.a p0_1.n p0_1.c), (.int .i64 p0_2)] 25) fun r2 h1 =>
  New h1 (.cells #[(.slice p1_0.a p1_0.n p1_0.c), (.slice p1_1.a p1_1.n p1_1.c), (.slice p1_2.a p1_2.n p1_2.c), (.slice p1_3.a p1_3.n p1_3.c)] 33) fun r3 h2 =>
  Ld h2 (Addr.add (⟨r2, 0, none⟩) 1) .sl fun (x16 : Sl) =>
  Lp (σ := (Sl × Int × Unit)) (fun K s h3 =>
  cond (decide (s.2.1 < (((x16.n : Nat) : Int))))
  (Ix x16 s.2.1 2 fun a21 =>
  LdA h3 a21 [.str, .sl] fun (x22 : ((ByteArray) × (Sl) × Unit)) =>
  New h3 (.cells #[(.string (⟨#[]⟩)), (.slice none 0 0)] 46) fun r7 h4 =>
  StL h4 (⟨r7, 0, none⟩) 0 [(.string x22.1), (.slice x22.2.1.a x22.2.1.n x22.2.1.c)] fun h5 =>
  Ld h5 (Addr.add (⟨r3, 0, none⟩) 0) .sl fun (x25 : Sl) =>
  cond (decide (s.2.1 ≥ (((x25.n : Nat) : Int))))
  (Wk h5 fun h6 => R (.slice none 0 0) h6)
  (Ld h5 (Addr.add (⟨r7, 0, none⟩) 1) .sl fun (x29 : Sl) =>
  Lp (σ := (Sl × Int × Unit)) (fun K_1 s_1 h7 =>
  cond (decide (s_1.2.1 < (((x29.n : Nat) : Int))))
  (Ix x29 s_1.2.1 6 fun a34 =>
  LdA h7 a34 [.sl, .sl, (.int .i64), (.int .i64), .sl, (.int .i64)] fun (x35 : ((Sl) × (Sl) × (Int) × (Int) × (Sl) × (Int) × Unit)) =>
  New h7 (.cells #[(.slice none 0 0), (.slice none 0 0), (.int .i64 ((0 : Int))), (.int .i64 ((0 : Int))), (.slice none 0 0), (.int .i64 ((0 : Int)))] 55) fun r9 h8 =>
  StL h8 (⟨r9, 0, none⟩) 0 [(.slice x35.1.a x35.1.n x35.1.c), (.slice x35.2.1.a x35.2.1.n x35.2.1.c), (.int .i64 x35.2.2.1), (.int .i64 x35.2.2.2.1), (.slice x35.2.2.2.2.1.a x35.2.2.2.2.1.n x35.2.2.2.2.1.c), (.int .i64 x35.2.2.2.2.2.1)] fun h9 =>
  Ld h9 (Addr.add (⟨r9, 0, none⟩) 1) .sl fun (x37 : Sl) =>
  Lp (σ := (Sl × Int × Unit)) (fun K_2 s_2 h10 =>
  cond (decide (s_2.2.1 < (((x37.n : Nat) : Int))))
  (Ix x37 s_2.2.1 7 fun a42 =>
  LdA h10 a42 [(.int .i64), (.int .i64), .sl, (.int .i64), (.int .i64), (.int .i64), (.int .i64)] fun (x43 : ((Int) × (Int) × (Sl) × (Int) × (Int) × (Int) × (Int) × Unit)) =>
  New h10 (.cells #[(.int .i64 ((0 : Int))), (.int .i64 ((0 : Int))), (.slice none 0 0), (.int .i64 ((0 : Int))), (.int .i64 ((0 : Int))), (.int .i64 ((0 : Int))), (.int .i64 ((0 : Int)))] 60) fun r11 h11 =>
  StL h11 (⟨r11, 0, none⟩) 0 [(.int .i64 x43.1), (.int .i64 x43.2.1), (.slice x43.2.2.1.a x43.2.2.1.n x43.2.2.1.c), (.int .i64 x43.2.2.2.1), (.int .i64 x43.2.2.2.2.1), (.int .i64 x43.2.2.2.2.2.1), (.int .i64 x43.2.2.2.2.2.2.1)] fun h12 =>
  LdA h12 (⟨r11, 0, none⟩) [(.int .i64), (.int .i64), .sl, (.int .i64), (.int .i64), (.int .i64), (.int .i64)] fun (x44 : ((Int) × (Int) × (Sl) × (Int) × (Int) × (Int) × (Int) × Unit)) =>
  CallK Try.prog 16 [(.agg ⟨[(.int .i64 x44.1), (.int .i64 x44.2.1), (.slice x44.2.2.1.a x44.2.2.1.n x44.2.2.1.c), (.int .i64 x44.2.2.2.1), (.int .i64 x44.2.2.2.2.1), (.int .i64 x44.2.2.2.2.2.1), (.int .i64 x44.2.2.2.2.2.2.1)]⟩)] h12 (.un (.one .sl)) fun (x45 : Sl) h13 =>
  Lp (σ := (Sl × Int × Unit)) (fun K_3 s_3 h14 =>
  cond (decide (s_3.2.1 < (((x45.n : Nat) : Int))))
  (Ix x45 s_3.2.1 1 fun a49 =>
  Ld h14 a49 (.int .i64) fun (x50 : Int) =>
  Ld h14 (Addr.add (⟨r3, 0, none⟩) 0) .sl fun (x52 : Sl) =>
  Ix x52 s.2.1 1 fun a54 =>
  Ld h14 a54 .mp fun (x55 : Option Nat) =>
  Look h14 x55 (.int .i64) (.int .i64 x50) (.one (.int .i64)) ((0 : Int)) fun (x57 : Int) _ =>
  cond (x57 != ((0 : Int)))
  (New h14 (.cells #[(.int .i64 s.2.1), (.int .i64 s_1.2.1), (.int .i64 s_2.2.1), (.int .i64 x50), (.int .i64 x57)] 69) fun r67 h15 =>
  App h15 s_3.1 ⟨(some ⟨r67, 0, none⟩), 1, 1⟩ 69 5 40 [(.int .i64 ((0 : Int))), (.int .i64 ((0 : Int))), (.int .i64 ((0 : Int))), (.int .i64 ((0 : Int))), (.int .i64 ((0 : Int)))] fun s68 h16 =>
  Wk h16 fun h17 => K_3 (s68, IntKind.wrap .i64 (s_3.2.1 + ((1 : Int))), ()) h17)
  (Wk h14 fun h18 => K_3 (s_3.1, IntKind.wrap .i64 (s_3.2.1 + ((1 : Int))), ()) h18))
  (Wk h14 fun h19 => K_2 (s_3.1, IntKind.wrap .i64 (s_2.2.1 + ((1 : Int))), ()) h19))
  (s_2.1, (0 : Int), ()) h13)
  (Cut (σ := (Bool × Unit)) (fun s_4 h20 =>
  cond s_4.1
  (Ld h20 (Addr.add (⟨r9, 0, none⟩) 1) .sl fun (x91 : Sl) =>
  Ld h20 (Addr.add (Addr.add (⟨r9, 0, none⟩) 2) 1) (.int .i64) fun (x95 : Int) =>
  Ld h20 (Addr.add (⟨r3, 0, none⟩) 0) .sl fun (x97 : Sl) =>
  Ix x97 s.2.1 1 fun a99 =>
  Ld h20 a99 .mp fun (x100 : Option Nat) =>
  Ld h20 (Addr.add (Addr.add (⟨r9, 0, none⟩) 2) 1) (.int .i64) fun (x103 : Int) =>
  Look h20 x100 (.int .i64) (.int .i64 x103) (.one (.int .i64)) ((0 : Int)) fun (x104 : Int) _ =>
  New h20 (.cells #[(.int .i64 s.2.1), (.int .i64 s_1.2.1), (.int .i64 (((x91.n : Nat) : Int))), (.int .i64 x95), (.int .i64 x104)] 69) fun r106 h21 =>
  App h21 s_2.1 ⟨(some ⟨r106, 0, none⟩), 1, 1⟩ 69 5 40 [(.int .i64 ((0 : Int))), (.int .i64 ((0 : Int))), (.int .i64 ((0 : Int))), (.int .i64 ((0 : Int))), (.int .i64 ((0 : Int)))] fun s107 h22 =>
  Wk h22 fun h23 => K_1 (s107, IntKind.wrap .i64 (s_1.2.1 + ((1 : Int))), ()) h23)
  (Wk h20 fun h24 => K_1 (s_2.1, IntKind.wrap .i64 (s_1.2.1 + ((1 : Int))), ()) h24)) fun J =>
  Ld h10 (Addr.add (Addr.add (⟨r9, 0, none⟩) 2) 0) (.int .i64) fun (x73 : Int) =>
  cond (x73 == ((2 : Int)))
  (Ld h10 (Addr.add (⟨r3, 0, none⟩) 0) .sl fun (x77 : Sl) =>
  Ix x77 s.2.1 1 fun a79 =>
  Ld h10 a79 .mp fun (x80 : Option Nat) =>
  Ld h10 (Addr.add (Addr.add (⟨r9, 0, none⟩) 2) 1) (.int .i64) fun (x83 : Int) =>
  Look h10 x80 (.int .i64) (.int .i64 x83) (.one (.int .i64)) ((0 : Int)) fun (x84 : Int) _ =>
  Wk h10 fun h25 => J (x84 != ((0 : Int)), ()) h25)
  (Wk h10 fun h26 => J (false, ()) h26)))
  (s_1.1, (0 : Int), ()) h9)
  (Wk h7 fun h27 => K (s_1.1, IntKind.wrap .i64 (s.2.1 + ((1 : Int))), ()) h27))
  (s.1, (0 : Int), ()) h5))
  (Wk h3 fun h28 => R (.slice s.1.a s.1.n s.1.c) h28))
  (⟨none, 0, 0⟩, (0 : Int), ()) h2
theorem S17_eq (p0_0 : Sl) (p0_1 : Sl) (p0_2 : Int) (p1_0 : Sl) (p1_1 : Sl) (p1_2 : Sl) (p1_3 : Sl) (h : V) (R : Value → V → Prop) : ABody Try.prog an17 Try.f17 [(.agg ⟨[(.slice p0_0.a p0_0.n p0_0.c), (.slice p0_1.a p0_1.n p0_1.c), (.int .i64 p0_2)]⟩), (.agg ⟨[(.slice p1_0.a p1_0.n p1_0.c), (.slice p1_1.a p1_1.n p1_1.c), (.slice p1_2.a p1_2.n p1_2.c), (.slice p1_3.a p1_3.n p1_3.c)]⟩)] h R = S17 p0_0 p0_1 p0_2 p1_0 p1_1 p1_2 p1_3 h R := by kernel_rfl
theorem S17_ok (p0_0 : Sl) (p0_1 : Sl) (p0_2 : Int) (p1_0 : Sl) (p1_1 : Sl) (p1_2 : Sl) (p1_3 : Sl) (h : V) (R : Value → V → Prop) (hk : S17 p0_0 p0_1 p0_2 p1_0 p1_1 p1_2 p1_3 h R) : ACalls Try.prog 17 [(.agg ⟨[(.slice p0_0.a p0_0.n p0_0.c), (.slice p0_1.a p0_1.n p0_1.c), (.int .i64 p0_2)]⟩), (.agg ⟨[(.slice p1_0.a p1_0.n p1_0.c), (.slice p1_1.a p1_1.n p1_1.c), (.slice p1_2.a p1_2.n p1_2.c), (.slice p1_3.a p1_3.n p1_3.c)]⟩)] h R :=
  ABody_sound mixed Try.func17 Try.call17 (by kernel_rfl) (by kernel_rfl) (an := an17) (by rw [S17_eq]; exact hk)

/- (palings/ssa.Prog).Clone -/
def an14 : An := (.two .nil (.two .nil (.two .nil (.two (.two .nil (.one (.loop [(15, (.one (.int .i64)))] (.two .nil (.two (.two .nil .nil) (.two (.one (.two .nil (.perm [0, 1, 2, 3, 4, 5, 6, 7, 8, 9, 10] [8]))) .nil)))))) (.two .nil .nil)))))
def S14 (p0_0 : Sl) (p0_1 : Sl) (p0_2 : Int) (h : V) (R : Value → V → Prop) : Prop :=
  New h (.cells #[(.slice p0_0.a p0_0.n p0_0.c), (.slice p0_1.a p0_1.n p0_1.c), (.int .i64 p0_2)] 25) fun r1 h1 =>
  New h1 (.cells #[(.slice none 0 0), (.slice none 0 0), (.int .i64 ((0 : Int)))] 25) fun r2 h2 =>
  Ld h2 (Addr.add (⟨r1, 0, none⟩) 0) .sl fun (x5 : Sl) =>
  CallK Try.prog 31 [(.slice x5.a x5.n x5.c)] h2 (.un (.one .sl)) fun (x6 : Sl) h3 =>
  StL h3 (Addr.add (⟨r1, 0, none⟩) 0) 0 [(.slice x6.a x6.n x6.c)] fun h4 =>
  Ld h4 (Addr.add (⟨r1, 0, none⟩) 1) .sl fun (x9 : Sl) =>
  CallK Try.prog 32 [(.slice x9.a x9.n x9.c)] h4 (.un (.one .sl)) fun (x10 : Sl) h5 =>
  StL h5 (Addr.add (⟨r1, 0, none⟩) 1) 0 [(.slice x10.a x10.n x10.c)] fun h6 =>
  Ld h6 (Addr.add (⟨r1, 0, none⟩) 1) .sl fun (x13 : Sl) =>
  Lp (σ := (Int × Unit)) (fun K s h7 =>
  cond (decide (s.1 < (((x13.n : Nat) : Int))))
  (Ld h7 (Addr.add (⟨r1, 0, none⟩) 1) .sl fun (x19 : Sl) =>
  Ld h7 (Addr.add (⟨r1, 0, none⟩) 1) .sl fun (x22 : Sl) =>
  Ix x22 s.1 2 fun a24 =>
  LdA h7 a24 [.str, .sl] fun (x25 : ((ByteArray) × (Sl) × Unit)) =>
  CallK Try.prog 33 [(.agg ⟨[(.string x25.1), (.slice x25.2.1.a x25.2.1.n x25.2.1.c)]⟩)] h7 (.un (.agg [.str, .sl])) fun (x26 : ((ByteArray) × (Sl) × Unit)) h8 =>
  Le h7 h8 ∧
  Ix x19 s.1 2 fun a27 =>
  StL h8 a27 0 [(.string x26.1), (.slice x26.2.1.a x26.2.1.n x26.2.1.c)] fun h9 =>
  Wk h9 fun h10 => K (IntKind.wrap .i64 (s.1 + ((1 : Int))), ()) h10)
  (LdA h7 (⟨r1, 0, none⟩) [.sl, .sl, (.int .i64)] fun (x29 : ((Sl) × (Sl) × (Int) × Unit)) =>
  StL h7 (⟨r2, 0, none⟩) 0 [(.slice x29.1.a x29.1.n x29.1.c), (.slice x29.2.1.a x29.2.1.n x29.2.1.c), (.int .i64 x29.2.2.1)] fun h11 =>
  LdA h11 (⟨r2, 0, none⟩) [.sl, .sl, (.int .i64)] fun (y : ((Sl) × (Sl) × (Int) × Unit)) =>
  Wk h11 fun h12 => R (.agg ⟨[(.slice y.1.a y.1.n y.1.c), (.slice y.2.1.a y.2.1.n y.2.1.c), (.int .i64 y.2.2.1)]⟩) h12))
  ((0 : Int), ()) h6
theorem S14_eq (p0_0 : Sl) (p0_1 : Sl) (p0_2 : Int) (h : V) (R : Value → V → Prop) : ABody Try.prog an14 Try.f14 [(.agg ⟨[(.slice p0_0.a p0_0.n p0_0.c), (.slice p0_1.a p0_1.n p0_1.c), (.int .i64 p0_2)]⟩)] h R = S14 p0_0 p0_1 p0_2 h R := by kernel_rfl
theorem S14_ok (p0_0 : Sl) (p0_1 : Sl) (p0_2 : Int) (h : V) (R : Value → V → Prop) (hk : S14 p0_0 p0_1 p0_2 h R) : ACalls Try.prog 14 [(.agg ⟨[(.slice p0_0.a p0_0.n p0_0.c), (.slice p0_1.a p0_1.n p0_1.c), (.int .i64 p0_2)]⟩)] h R :=
  ABody_sound mixed Try.func14 Try.call14 (by kernel_rfl) (by kernel_rfl) (an := an14) (by rw [S14_eq]; exact hk)

/- (palings/ssa.Func).Clone -/
def an33 : An := (.two .nil (.two .nil (.two (.two .nil (.one (.loop [(14, (.one (.int .i64)))] (.two .nil (.two (.two .nil .nil) (.two (.one (.two .nil (.two (.perm [0, 1, 3, 4, 2, 6, 5, 7, 8, 9] [2]) (.two (.two .nil (.one (.loop [(30, (.one (.int .i64)))] (.two .nil (.two (.two .nil .nil) (.two (.one (.two .nil (.perm [0, 1, 2, 3, 4, 5, 6, 7, 8, 9, 10, 11, 12] [9]))) .nil)))))) (.two .nil (.two (.two .nil (.one (.loop [(56, (.one (.int .i64)))] (.two .nil (.two (.two .nil .nil) (.two (.one (.two .nil (.perm [0, 1, 2, 3, 4, 5, 6, 7, 8, 9, 10, 11, 12, 13, 14] [11]))) .nil)))))) .nil)))))) .nil)))))) (.two .nil .nil))))
def S33 (p0_0 : ByteArray) (p0_1 : Sl) (h : V) (R : Value → V → Prop) : Prop :=
  New h (.cells #[(.string p0_0), (.slice p0_1.a p0_1.n p0_1.c)] 46) fun r1 h1 =>
  New h1 (.cells #[(.string (⟨#[]⟩)), (.slice none 0 0)] 46) fun r2 h2 =>
  Ld h2 (Addr.add (⟨r1, 0, none⟩) 1) .sl fun (x8 : Sl) =>
  CallK Try.prog 48 [(.slice x8.a x8.n x8.c)] h2 (.un (.one .sl)) fun (x9 : Sl) h3 =>
  StL h3 (Addr.add (⟨r1, 0, none⟩) 1) 0 [(.slice x9.a x9.n x9.c)] fun h4 =>
  Ld h4 (Addr.add (⟨r1, 0, none⟩) 1) .sl fun (x12 : Sl) =>
  Lp (σ := (Int × Unit)) (fun K s h5 =>
  cond (decide (s.1 < (((x12.n : Nat) : Int))))
  (Ix x12 s.1 6 fun a17 =>
  LdA h5 a17 [.sl, .sl, (.int .i64), (.int .i64), .sl, (.int .i64)] fun (x18 : ((Sl) × (Sl) × (Int) × (Int) × (Sl) × (Int) × Unit)) =>
  New h5 (.cells #[(.slice none 0 0), (.slice none 0 0), (.int .i64 ((0 : Int))), (.int .i64 ((0 : Int))), (.slice none 0 0), (.int .i64 ((0 : Int)))] 55) fun r4 h6 =>
  StL h6 (⟨r4, 0, none⟩) 0 [(.slice x18.1.a x18.1.n x18.1.c), (.slice x18.2.1.a x18.2.1.n x18.2.1.c), (.int .i64 x18.2.2.1), (.int .i64 x18.2.2.2.1), (.slice x18.2.2.2.2.1.a x18.2.2.2.2.1.n x18.2.2.2.2.1.c), (.int .i64 x18.2.2.2.2.2.1)] fun h7 =>
  Ld h7 (Addr.add (⟨r4, 0, none⟩) 0) .sl fun (x20 : Sl) =>
  Ld h7 (Addr.add (⟨r4, 0, none⟩) 1) .sl fun (x23 : Sl) =>
  CallK Try.prog 39 [(.slice x20.a x20.n x20.c)] h7 (.un (.one .sl)) fun (x21 : Sl) h8 =>
  Le h7 h8 ∧
  CallK Try.prog 49 [(.slice x23.a x23.n x23.c)] h8 (.un (.one .sl)) fun (x24 : Sl) h9 =>
  StL h9 (Addr.add (⟨r4, 0, none⟩) 0) 0 [(.slice x21.a x21.n x21.c)] fun h10 =>
  StL h10 (Addr.add (⟨r4, 0, none⟩) 1) 0 [(.slice x24.a x24.n x24.c)] fun h11 =>
  Ld h11 (Addr.add (⟨r4, 0, none⟩) 1) .sl fun (x28 : Sl) =>
  Lp (σ := (Int × Unit)) (fun K_1 s_1 h12 =>
  cond (decide (s_1.1 < (((x28.n : Nat) : Int))))
  (Ld h12 (Addr.add (⟨r4, 0, none⟩) 1) .sl fun (x34 : Sl) =>
  Ld h12 (Addr.add (⟨r4, 0, none⟩) 1) .sl fun (x37 : Sl) =>
  Ix x37 s_1.1 7 fun a39 =>
  Ld h12 (Addr.add a39 2) .sl fun (x41 : Sl) =>
  CallK Try.prog 39 [(.slice x41.a x41.n x41.c)] h12 (.un (.one .sl)) fun (x42 : Sl) h13 =>
  Le h12 h13 ∧
  Ix x34 s_1.1 7 fun a43 =>
  StL h13 (Addr.add a43 2) 0 [(.slice x42.a x42.n x42.c)] fun h14 =>
  Wk h14 fun h15 => K_1 (IntKind.wrap .i64 (s_1.1 + ((1 : Int))), ()) h15)
  (Ld h12 (Addr.add (Addr.add (⟨r4, 0, none⟩) 2) 2) .sl fun (x48 : Sl) =>
  CallK Try.prog 50 [(.slice x48.a x48.n x48.c)] h12 (.un (.one .sl)) fun (x49 : Sl) h16 =>
  StL h16 (Addr.add (Addr.add (⟨r4, 0, none⟩) 2) 2) 0 [(.slice x49.a x49.n x49.c)] fun h17 =>
  Ld h17 (Addr.add (Addr.add (⟨r4, 0, none⟩) 2) 2) .sl fun (x54 : Sl) =>
  Lp (σ := (Int × Unit)) (fun K_2 s_2 h18 =>
  cond (decide (s_2.1 < (((x54.n : Nat) : Int))))
  (Ld h18 (Addr.add (Addr.add (⟨r4, 0, none⟩) 2) 2) .sl fun (x61 : Sl) =>
  Ld h18 (Addr.add (Addr.add (⟨r4, 0, none⟩) 2) 2) .sl fun (x65 : Sl) =>
  Ix x65 s_2.1 2 fun a67 =>
  Ld h18 (Addr.add a67 1) .sl fun (x69 : Sl) =>
  CallK Try.prog 39 [(.slice x69.a x69.n x69.c)] h18 (.un (.one .sl)) fun (x70 : Sl) h19 =>
  Le h18 h19 ∧
  Ix x61 s_2.1 2 fun a71 =>
  StL h19 (Addr.add a71 1) 0 [(.slice x70.a x70.n x70.c)] fun h20 =>
  Wk h20 fun h21 => K_2 (IntKind.wrap .i64 (s_2.1 + ((1 : Int))), ()) h21)
  (Ld h18 (Addr.add (⟨r1, 0, none⟩) 1) .sl fun (x75 : Sl) =>
  LdA h18 (⟨r4, 0, none⟩) [.sl, .sl, (.int .i64), (.int .i64), .sl, (.int .i64)] fun (x77 : ((Sl) × (Sl) × (Int) × (Int) × (Sl) × (Int) × Unit)) =>
  Ix x75 s.1 6 fun a78 =>
  StL h18 a78 0 [(.slice x77.1.a x77.1.n x77.1.c), (.slice x77.2.1.a x77.2.1.n x77.2.1.c), (.int .i64 x77.2.2.1), (.int .i64 x77.2.2.2.1), (.slice x77.2.2.2.2.1.a x77.2.2.2.2.1.n x77.2.2.2.2.1.c), (.int .i64 x77.2.2.2.2.2.1)] fun h22 =>
  Wk h22 fun h23 => K (IntKind.wrap .i64 (s.1 + ((1 : Int))), ()) h23))
  ((0 : Int), ()) h17))
  ((0 : Int), ()) h11)
  (LdA h5 (⟨r1, 0, none⟩) [.str, .sl] fun (x80 : ((ByteArray) × (Sl) × Unit)) =>
  StL h5 (⟨r2, 0, none⟩) 0 [(.string x80.1), (.slice x80.2.1.a x80.2.1.n x80.2.1.c)] fun h24 =>
  LdA h24 (⟨r2, 0, none⟩) [.str, .sl] fun (y : ((ByteArray) × (Sl) × Unit)) =>
  Wk h24 fun h25 => R (.agg ⟨[(.string y.1), (.slice y.2.1.a y.2.1.n y.2.1.c)]⟩) h25))
  ((0 : Int), ()) h4
theorem S33_eq (p0_0 : ByteArray) (p0_1 : Sl) (h : V) (R : Value → V → Prop) : ABody Try.prog an33 Try.f33 [(.agg ⟨[(.string p0_0), (.slice p0_1.a p0_1.n p0_1.c)]⟩)] h R = S33 p0_0 p0_1 h R := by kernel_rfl
theorem S33_ok (p0_0 : ByteArray) (p0_1 : Sl) (h : V) (R : Value → V → Prop) (hk : S33 p0_0 p0_1 h R) : ACalls Try.prog 33 [(.agg ⟨[(.string p0_0), (.slice p0_1.a p0_1.n p0_1.c)]⟩)] h R :=
  ABody_sound mixed Try.func33 Try.call33 (by kernel_rfl) (by kernel_rfl) (an := an33) (by rw [S33_eq]; exact hk)

/- slices.Clone[[]palings/ssa.Array,palings/ssa.Array] -/
def an31 : An := (.two .nil (.two (.two .nil (.two (.two .nil .nil) .nil)) (.two .nil .nil)))
def S31 (p0 : Sl) (h : V) (R : Value → V → Prop) : Prop :=
  cond (Option.isNone p0.a)
  (Wk h fun h1 => R (.slice none 0 0) h1)
  (New h (.cells #[] 66) fun r5 h2 =>
  App h2 ⟨(some ⟨r5, 0, none⟩), 0, 0⟩ p0 66 3 32 [(.string (⟨#[]⟩)), (.int .i64 ((0 : Int))), (.int .i64 ((0 : Int)))] fun s7 h3 =>
  Wk h3 fun h4 => R (.slice s7.a s7.n s7.c) h4)
theorem S31_eq (p0 : Sl) (h : V) (R : Value → V → Prop) : ABody Try.prog an31 Try.f31 [(.slice p0.a p0.n p0.c)] h R = S31 p0 h R := by kernel_rfl
theorem S31_ok (p0 : Sl) (h : V) (R : Value → V → Prop) (hk : S31 p0 h R) : ACalls Try.prog 31 [(.slice p0.a p0.n p0.c)] h R :=
  ABody_sound mixed Try.func31 Try.call31 (by kernel_rfl) (by kernel_rfl) (an := an31) (by rw [S31_eq]; exact hk)

/- slices.Clone[[]palings/ssa.Func,palings/ssa.Func] -/
def an32 : An := (.two .nil (.two (.two .nil (.two (.two .nil .nil) .nil)) (.two .nil .nil)))
def S32 (p0 : Sl) (h : V) (R : Value → V → Prop) : Prop :=
  cond (Option.isNone p0.a)
  (Wk h fun h1 => R (.slice none 0 0) h1)
  (New h (.cells #[] 46) fun r5 h2 =>
  App h2 ⟨(some ⟨r5, 0, none⟩), 0, 0⟩ p0 46 2 40 [(.string (⟨#[]⟩)), (.slice none 0 0)] fun s7 h3 =>
  Wk h3 fun h4 => R (.slice s7.a s7.n s7.c) h4)
theorem S32_eq (p0 : Sl) (h : V) (R : Value → V → Prop) : ABody Try.prog an32 Try.f32 [(.slice p0.a p0.n p0.c)] h R = S32 p0 h R := by kernel_rfl
theorem S32_ok (p0 : Sl) (h : V) (R : Value → V → Prop) (hk : S32 p0 h R) : ACalls Try.prog 32 [(.slice p0.a p0.n p0.c)] h R :=
  ABody_sound mixed Try.func32 Try.call32 (by kernel_rfl) (by kernel_rfl) (an := an32) (by rw [S32_eq]; exact hk)

/- slices.Clone[[]palings/ssa.Block,palings/ssa.Block] -/
def an48 : An := (.two .nil (.two (.two .nil (.two (.two .nil .nil) .nil)) (.two .nil .nil)))
def S48 (p0 : Sl) (h : V) (R : Value → V → Prop) : Prop :=
  cond (Option.isNone p0.a)
  (Wk h fun h1 => R (.slice none 0 0) h1)
  (New h (.cells #[] 55) fun r5 h2 =>
  App h2 ⟨(some ⟨r5, 0, none⟩), 0, 0⟩ p0 55 6 96 [(.slice none 0 0), (.slice none 0 0), (.int .i64 ((0 : Int))), (.int .i64 ((0 : Int))), (.slice none 0 0), (.int .i64 ((0 : Int)))] fun s7 h3 =>
  Wk h3 fun h4 => R (.slice s7.a s7.n s7.c) h4)
theorem S48_eq (p0 : Sl) (h : V) (R : Value → V → Prop) : ABody Try.prog an48 Try.f48 [(.slice p0.a p0.n p0.c)] h R = S48 p0 h R := by kernel_rfl
theorem S48_ok (p0 : Sl) (h : V) (R : Value → V → Prop) (hk : S48 p0 h R) : ACalls Try.prog 48 [(.slice p0.a p0.n p0.c)] h R :=
  ABody_sound mixed Try.func48 Try.call48 (by kernel_rfl) (by kernel_rfl) (an := an48) (by rw [S48_eq]; exact hk)

/- slices.Clone[[]palings/ssa.Ins,palings/ssa.Ins] -/
def an49 : An := (.two .nil (.two (.two .nil (.two (.two .nil .nil) .nil)) (.two .nil .nil)))
def S49 (p0 : Sl) (h : V) (R : Value → V → Prop) : Prop :=
  cond (Option.isNone p0.a)
  (Wk h fun h1 => R (.slice none 0 0) h1)
  (New h (.cells #[] 60) fun r5 h2 =>
  App h2 ⟨(some ⟨r5, 0, none⟩), 0, 0⟩ p0 60 7 72 [(.int .i64 ((0 : Int))), (.int .i64 ((0 : Int))), (.slice none 0 0), (.int .i64 ((0 : Int))), (.int .i64 ((0 : Int))), (.int .i64 ((0 : Int))), (.int .i64 ((0 : Int)))] fun s7 h3 =>
  Wk h3 fun h4 => R (.slice s7.a s7.n s7.c) h4)
theorem S49_eq (p0 : Sl) (h : V) (R : Value → V → Prop) : ABody Try.prog an49 Try.f49 [(.slice p0.a p0.n p0.c)] h R = S49 p0 h R := by kernel_rfl
theorem S49_ok (p0 : Sl) (h : V) (R : Value → V → Prop) (hk : S49 p0 h R) : ACalls Try.prog 49 [(.slice p0.a p0.n p0.c)] h R :=
  ABody_sound mixed Try.func49 Try.call49 (by kernel_rfl) (by kernel_rfl) (an := an49) (by rw [S49_eq]; exact hk)

/- slices.Clone[[]palings/ssa.Edge,palings/ssa.Edge] -/
def an50 : An := (.two .nil (.two (.two .nil (.two (.two .nil .nil) .nil)) (.two .nil .nil)))
def S50 (p0 : Sl) (h : V) (R : Value → V → Prop) : Prop :=
  cond (Option.isNone p0.a)
  (Wk h fun h1 => R (.slice none 0 0) h1)
  (New h (.cells #[] 74) fun r5 h2 =>
  App h2 ⟨(some ⟨r5, 0, none⟩), 0, 0⟩ p0 74 2 32 [(.int .i64 ((0 : Int))), (.slice none 0 0)] fun s7 h3 =>
  Wk h3 fun h4 => R (.slice s7.a s7.n s7.c) h4)
theorem S50_eq (p0 : Sl) (h : V) (R : Value → V → Prop) : ABody Try.prog an50 Try.f50 [(.slice p0.a p0.n p0.c)] h R = S50 p0 h R := by kernel_rfl
theorem S50_ok (p0 : Sl) (h : V) (R : Value → V → Prop) (hk : S50 p0 h R) : ACalls Try.prog 50 [(.slice p0.a p0.n p0.c)] h R :=
  ABody_sound mixed Try.func50 Try.call50 (by kernel_rfl) (by kernel_rfl) (an := an50) (by rw [S50_eq]; exact hk)

end Go.Proofs.Ytaefmhephoilmaa

/- What functions of the program ask of a view of memory: printed by shal.py. -/
namespace Go.Proofs.Ytaefmhephoilmaa
open Go Go.VL
set_option maxRecDepth 100000
/- palings/palingslaw12.TaintLeast.1 -/
def an12 : An := (.two .nil (.two (.two .nil (.two (.two .nil .nil) .nil)) (.two (.two .nil (.two (.two .nil .nil) .nil)) (.two .nil .nil))))
def S12 (p0 : Bool) (p1 : Bool) (h : V) (R : Value → V → Prop) : Prop :=
  cond p1
  (Wk h fun h1 => R (.int .i64 ((2 : Int))) h1)
  (cond p0
  (Wk h fun h2 => R (.int .i64 ((1 : Int))) h2)
  (Wk h fun h3 => R (.int .i64 ((0 : Int))) h3))
theorem S12_eq (p0 : Bool) (p1 : Bool) (h : V) (R : Value → V → Prop) : ABody Try.prog an12 Try.f12 [(.bool p0), (.bool p1)] h R = S12 p0 p1 h R := by kernel_rfl
theorem S12_ok (p0 : Bool) (p1 : Bool) (h : V) (R : Value → V → Prop) (hk : S12 p0 p1 h R) : ACalls Try.prog 12 [(.bool p0), (.bool p1)] h R :=
  ABody_sound mixed Try.func12 Try.call12 (by kernel_rfl) (by kernel_rfl) (an := an12) (by rw [S12_eq]; exact hk)

/- palings/palingslaw12.TaintSinks.1 -/
def an15 : An := (.two .nil (.two (.perm [0, 1, 2, 3, 4, 5, 6, 7, 8, 9, 10, 11, 12, 13, 14, 15] []) .nil))
def S15 (p0 : Int) (p1 : Int) (c0 : Addr) (c1 : Addr) (c2 : Addr) (c3 : Addr) (h : V) (R : Value → V → Prop) : Prop :=
  Ld h (Addr.add c0 0) .sl fun (x9 : Sl) =>
  Ld h c1 (.int .i64) fun (x10 : Int) =>
  Ix x9 x10 1 fun a11 =>
  Ld h a11 .mp fun (x12 : Option Nat) =>
  Look h x12 (.int .i64) (.int .i64 p1) (.one (.int .i64)) ((0 : Int)) fun (x14 : Int) _ =>
  cond (decide (x14 > ((0 : Int))))
  (Ld h c2 .sl fun (x16 : Sl) =>
  Ld h c1 (.int .i64) fun (x17 : Int) =>
  Ld h c3 (.int .i64) fun (x18 : Int) =>
  Ld h (Addr.add c0 0) .sl fun (x22 : Sl) =>
  Ld h c1 (.int .i64) fun (x23 : Int) =>
  Ix x22 x23 1 fun a24 =>
  Ld h a24 .mp fun (x25 : Option Nat) =>
  Look h x25 (.int .i64) (.int .i64 p1) (.one (.int .i64)) ((0 : Int)) fun (x27 : Int) _ =>
  New h (.cells #[(.int .i64 x17), (.int .i64 x18), (.int .i64 p0), (.int .i64 p1), (.int .i64 x27)] 69) fun r29 h1 =>
  App h1 x16 ⟨(some ⟨r29, 0, none⟩), 1, 1⟩ 69 5 40 [(.int .i64 ((0 : Int))), (.int .i64 ((0 : Int))), (.int .i64 ((0 : Int))), (.int .i64 ((0 : Int))), (.int .i64 ((0 : Int)))] fun s30 h2 =>
  StL h2 c2 0 [(.slice s30.a s30.n s30.c)] fun h3 =>
  Wk h3 fun h4 => R (.tuple ⟨[]⟩) h4)
  (Wk h fun h5 => R (.tuple ⟨[]⟩) h5)
theorem S15_eq (p0 : Int) (p1 : Int) (c0 : Addr) (c1 : Addr) (c2 : Addr) (c3 : Addr) (h : V) (R : Value → V → Prop) : ABody Try.prog an15 Try.f15 [(.int .i64 p0), (.int .i64 p1), (.pointer (some c0)), (.pointer (some c1)), (.pointer (some c2)), (.pointer (some c3))] h R = S15 p0 p1 c0 c1 c2 c3 h R := by kernel_rfl
theorem S15_ok (p0 : Int) (p1 : Int) (c0 : Addr) (c1 : Addr) (c2 : Addr) (c3 : Addr) (h : V) (R : Value → V → Prop) (hk : S15 p0 p1 c0 c1 c2 c3 h R) : ACalls Try.prog 15 [(.int .i64 p0), (.int .i64 p1), (.pointer (some c0)), (.pointer (some c1)), (.pointer (some c2)), (.pointer (some c3))] h R :=
  ABody_sound mixed Try.func15 Try.call15 (by kernel_rfl) (by kernel_rfl) (an := an15) (by rw [S15_eq]; exact hk)

/- palings/palingslaw12.TaintLeast -/
def an3 : An := (.two .nil (.two (.two .nil (.two (.two .nil .nil) .nil)) (.cut [] (.two .nil (.two (.two .nil .nil) .nil)) (.two (.two .nil (.one (.loop [(33, (.one (.int .i64)))] (.two .nil (.two (.two .nil .nil) (.two (.one (.two .nil (.two .nil (.two (.two .nil .nil) .nil)))) .nil)))))) (.two .nil (.two (.two .nil (.two (.two .nil .nil) .nil)) (.cut [] (.two .nil (.two (.two .nil .nil) .nil)) (.two .nil (.two .nil (.two .nil (.two (.two .nil (.one (.loop [(105, (.one (.int .i64)))] (.two .nil (.two (.two .nil .nil) (.two (.one (.two .nil (.two (.two .nil (.one (.loop [(113, (.one (.int .i64)))] (.two .nil (.two (.two .nil .nil) (.two (.one (.two .nil (.two (.two .nil (.one (.loop [(120, (.one (.int .i64)))] (.two .nil (.two (.two .nil .nil) (.two (.one (.two .nil (.two (.perm [0, 1, 2, 3, 4, 5, 6, 7, 8, 9, 10, 11, 12, 13, 14, 15, 16, 17, 18, 19, 20, 21, 22, 23] [22]) (.two (.two .nil .nil) .nil)))) .nil)))))) (.two .nil (.one (.loop [(152, (.one (.int .i64)))] (.two .nil (.two (.two .nil .nil) (.two (.one (.two .nil (.two (.perm [0, 1, 2, 3, 4, 5, 6, 7, 8, 9, 10, 11, 12, 13, 14, 15, 16, 17, 18, 19, 20, 21, 22, 23, 24, 25, 26, 27, 28, 29, 30, 31] [29]) (.two (.two .nil .nil) .nil)))) .nil))))))))) .nil)))))) (.two (.perm [0, 1, 2, 3, 4, 5, 6, 7, 8, 9, 10, 11, 12] [11]) (.two (.two .nil .nil) .nil))))) .nil)))))) (.two (.two .nil (.one (.loop [(207, (.one (.int .i64)))] (.two .nil (.two (.two .nil .nil) (.two (.one (.two .nil (.two (.perm [0, 1, 2, 3, 4, 5, 6, 7, 8, 9, 10, 11, 12] [11]) (.two (.two .nil .nil) .nil)))) .nil)))))) (.two .nil .nil)))))))))))))
def S3 (p0_0 : Sl) (p0_1 : Sl) (p0_2 : Int) (p1 : Sl) (h : V) (R : Value → V → Prop) : Prop :=
  New h (.cells #[(.slice p0_0.a p0_0.n p0_0.c), (.slice p0_1.a p0_1.n p0_1.c), (.int .i64 p0_2)] 25) fun r2 h1 =>
  CallK Try.prog 7 [] h1 (.un (.one .bool)) fun (x21 : Bool) h2 =>
  cond (!x21)
  (Wk h2 fun h3 => R (.bool false) h3)
  (Cut (σ := (Unit)) (fun _ h4 =>
  Lp (σ := (Int × Unit)) (fun K s_1 h5 =>
  cond (decide (s_1.1 < (((p1.n : Nat) : Int))))
  (Ix p1 s_1.1 1 fun a35 =>
  Ld h5 a35 .mp fun (x36 : Option Nat) =>
  LenM h5 x36 fun x38 =>
  cond (decide (x38 > ((60 : Int))))
  (Wk h5 fun h6 => R (.bool true) h6)
  (Wk h5 fun h7 => K (IntKind.wrap .i64 (s_1.1 + ((1 : Int))), ()) h7))
  (LdA h5 (⟨r2, 0, none⟩) [.sl, .sl, (.int .i64)] fun (x42 : ((Sl) × (Sl) × (Int) × Unit)) =>
  CallK Try.prog 9 [(.agg ⟨[(.slice x42.1.a x42.1.n x42.1.c), (.slice x42.2.1.a x42.2.1.n x42.2.1.c), (.int .i64 x42.2.2.1)]⟩), (.slice p1.a p1.n p1.c)] h5 (.tup [(.agg [.sl, .sl, .sl, .sl]), (.one (.int .i64))]) fun (x44 : (((Sl) × (Sl) × (Sl) × (Sl) × Unit) × Int × Unit)) h8 =>
  New h8 (.cells #[(.slice none 0 0), (.slice none 0 0), (.slice none 0 0), (.slice none 0 0)] 33) fun r7 h9 =>
  StL h9 (⟨r7, 0, none⟩) 0 [(.slice x44.1.1.a x44.1.1.n x44.1.1.c), (.slice x44.1.2.1.a x44.1.2.1.n x44.1.2.1.c), (.slice x44.1.2.2.1.a x44.1.2.2.1.n x44.1.2.2.1.c), (.slice x44.1.2.2.2.1.a x44.1.2.2.2.1.n x44.1.2.2.2.1.c)] fun h10 =>
  LdA h10 (⟨r2, 0, none⟩) [.sl, .sl, (.int .i64)] fun (x47 : ((Sl) × (Sl) × (Int) × Unit)) =>
  CallK Try.prog 10 [(.agg ⟨[(.slice x47.1.a x47.1.n x47.1.c), (.slice x47.2.1.a x47.2.1.n x47.2.1.c), (.int .i64 x47.2.2.1)]⟩)] h10 (.un (.one (.int .i64))) fun (x48 : Int) h11 =>
  cond (x48 != ((0 : Int)))
  (cond (x44.2.1 == ((40 : Int)))
  (Ld h11 (Addr.add (⟨r7, 0, none⟩) 0) .sl fun (x54 : Sl) =>
  Wk h11 fun h12 => R (.bool ((((x54.n : Nat) : Int)) == ((0 : Int)))) h12)
  (Wk h11 fun h13 => R (.bool false) h13))
  (Cut (σ := (Unit)) (fun _ h14 =>
  LdA h14 (⟨r2, 0, none⟩) [.sl, .sl, (.int .i64)] fun (x96 : ((Sl) × (Sl) × (Int) × Unit)) =>
  CallK Try.prog 11 [(.agg ⟨[(.slice x96.1.a x96.1.n x96.1.c), (.slice x96.2.1.a x96.2.1.n x96.2.1.c), (.int .i64 x96.2.2.1)]⟩), (.slice p1.a p1.n p1.c), (.int .i64 ((1 : Int)))] h14 (.un (.agg [.sl, .sl, .sl])) fun (x98 : ((Sl) × (Sl) × (Sl) × Unit)) h15 =>
  New h15 (.cells #[(.slice none 0 0), (.slice none 0 0), (.slice none 0 0)] 40) fun r9 h16 =>
  StL h16 (⟨r9, 0, none⟩) 0 [(.slice x98.1.a x98.1.n x98.1.c), (.slice x98.2.1.a x98.2.1.n x98.2.1.c), (.slice x98.2.2.1.a x98.2.2.1.n x98.2.2.1.c)] fun h17 =>
  LdA h17 (⟨r2, 0, none⟩) [.sl, .sl, (.int .i64)] fun (x99 : ((Sl) × (Sl) × (Int) × Unit)) =>
  CallK Try.prog 11 [(.agg ⟨[(.slice x99.1.a x99.1.n x99.1.c), (.slice x99.2.1.a x99.2.1.n x99.2.1.c), (.int .i64 x99.2.2.1)]⟩), (.slice p1.a p1.n p1.c), (.int .i64 ((2 : Int)))] h17 (.un (.agg [.sl, .sl, .sl])) fun (x101 : ((Sl) × (Sl) × (Sl) × Unit)) h18 =>
  New h18 (.cells #[(.slice none 0 0), (.slice none 0 0), (.slice none 0 0)] 40) fun r10 h19 =>
  StL h19 (⟨r10, 0, none⟩) 0 [(.slice x101.1.a x101.1.n x101.1.c), (.slice x101.2.1.a x101.2.1.n x101.2.1.c), (.slice x101.2.2.1.a x101.2.2.1.n x101.2.2.1.c)] fun h20 =>
  Ld h20 (Addr.add (⟨r2, 0, none⟩) 1) .sl fun (x103 : Sl) =>
  Lp (σ := (Int × Unit)) (fun K_1 s_3 h21 =>
  cond (decide (s_3.1 < (((x103.n : Nat) : Int))))
  (Ix x103 s_3.1 2 fun a108 =>
  LdA h21 a108 [.str, .sl] fun (x109 : ((ByteArray) × (Sl) × Unit)) =>
  New h21 (.cells #[(.string (⟨#[]⟩)), (.slice none 0 0)] 46) fun r13 h22 =>
  StL h22 (⟨r13, 0, none⟩) 0 [(.string x109.1), (.slice x109.2.1.a x109.2.1.n x109.2.1.c)] fun h23 =>
  Ld h23 (Addr.add (⟨r13, 0, none⟩) 1) .sl fun (x111 : Sl) =>
  Lp (σ := (Int × Unit)) (fun K_2 s_4 h24 =>
  cond (decide (s_4.1 < (((x111.n : Nat) : Int))))
  (Ix x111 s_4.1 6 fun a115 =>
  LdA h24 a115 [.sl, .sl, (.int .i64), (.int .i64), .sl, (.int .i64)] fun (x116 : ((Sl) × (Sl) × (Int) × (Int) × (Sl) × (Int) × Unit)) =>
  New h24 (.cells #[(.slice none 0 0), (.slice none 0 0), (.int .i64 ((0 : Int))), (.int .i64 ((0 : Int))), (.slice none 0 0), (.int .i64 ((0 : Int)))] 55) fun r15 h25 =>
  StL h25 (⟨r15, 0, none⟩) 0 [(.slice x116.1.a x116.1.n x116.1.c), (.slice x116.2.1.a x116.2.1.n x116.2.1.c), (.int .i64 x116.2.2.1), (.int .i64 x116.2.2.2.1), (.slice x116.2.2.2.2.1.a x116.2.2.2.2.1.n x116.2.2.2.2.1.c), (.int .i64 x116.2.2.2.2.2.1)] fun h26 =>
  Ld h26 (Addr.add (⟨r15, 0, none⟩) 0) .sl fun (x118 : Sl) =>
  Lp (σ := (Int × Unit)) (fun K_3 s_5 h27 =>
  cond (decide (s_5.1 < (((x118.n : Nat) : Int))))
  (Ix x118 s_5.1 1 fun a122 =>
  Ld h27 a122 (.int .i64) fun (x123 : Int) =>
  Ld h27 (Addr.add (⟨r7, 0, none⟩) 0) .sl fun (x125 : Sl) =>
  Ix x125 s_3.1 1 fun a127 =>
  Ld h27 a127 .mp fun (x128 : Option Nat) =>
  Look h27 x128 (.int .i64) (.int .i64 x123) (.one (.int .i64)) ((0 : Int)) fun (x130 : Int) _ =>
  Ld h27 (Addr.add (⟨r9, 0, none⟩) 0) .sl fun (x133 : Sl) =>
  Ix x133 s_3.1 1 fun a135 =>
  Ld h27 a135 .mp fun (x136 : Option Nat) =>
  Look h27 x136 (.int .i64) (.int .i64 x123) (.one .bool) false fun (x138 : Bool) _ =>
  Ld h27 (Addr.add (⟨r10, 0, none⟩) 0) .sl fun (x140 : Sl) =>
  Ix x140 s_3.1 1 fun a142 =>
  Ld h27 a142 .mp fun (x143 : Option Nat) =>
  Look h27 x143 (.int .i64) (.int .i64 x123) (.one .bool) false fun (x145 : Bool) _ =>
  CallV Try.prog (.func (.func 12) ⟨[]⟩ ⟨[]⟩) [(.bool x138), (.bool x145)] h27 (.un (.one (.int .i64))) fun (x146 : Int) h28 =>
  Le h27 h28 ∧
  cond (x130 != x146)
  (Wk h28 fun h29 => R (.bool false) h29)
  (Wk h28 fun h30 => K_3 (IntKind.wrap .i64 (s_5.1 + ((1 : Int))), ()) h30))
  (Ld h27 (Addr.add (⟨r15, 0, none⟩) 1) .sl fun (x150 : Sl) =>
  Lp (σ := (Int × Unit)) (fun K_4 s_6 h31 =>
  cond (decide (s_6.1 < (((x150.n : Nat) : Int))))
  (Ix x150 s_6.1 7 fun a154 =>
  LdA h31 a154 [(.int .i64), (.int .i64), .sl, (.int .i64), (.int .i64), (.int .i64), (.int .i64)] fun (x155 : ((Int) × (Int) × (Sl) × (Int) × (Int) × (Int) × (Int) × Unit)) =>
  New h31 (.cells #[(.int .i64 ((0 : Int))), (.int .i64 ((0 : Int))), (.slice none 0 0), (.int .i64 ((0 : Int))), (.int .i64 ((0 : Int))), (.int .i64 ((0 : Int))), (.int .i64 ((0 : Int)))] 60) fun r19 h32 =>
  StL h32 (⟨r19, 0, none⟩) 0 [(.int .i64 x155.1), (.int .i64 x155.2.1), (.slice x155.2.2.1.a x155.2.2.1.n x155.2.2.1.c), (.int .i64 x155.2.2.2.1), (.int .i64 x155.2.2.2.2.1), (.int .i64 x155.2.2.2.2.2.1), (.int .i64 x155.2.2.2.2.2.2.1)] fun h33 =>
  Ld h33 (Addr.add (⟨r19, 0, none⟩) 1) (.int .i64) fun (x157 : Int) =>
  cond (x157 != ((0 : Int)))
  (Ld h33 (Addr.add (⟨r7, 0, none⟩) 0) .sl fun (x161 : Sl) =>
  Ix x161 s_3.1 1 fun a163 =>
  Ld h33 a163 .mp fun (x164 : Option Nat) =>
  Ld h33 (Addr.add (⟨r19, 0, none⟩) 1) (.int .i64) fun (x166 : Int) =>
  Look h33 x164 (.int .i64) (.int .i64 x166) (.one (.int .i64)) ((0 : Int)) fun (x167 : Int) _ =>
  Ld h33 (Addr.add (⟨r9, 0, none⟩) 0) .sl fun (x170 : Sl) =>
  Ix x170 s_3.1 1 fun a172 =>
  Ld h33 a172 .mp fun (x173 : Option Nat) =>
  Ld h33 (Addr.add (⟨r19, 0, none⟩) 1) (.int .i64) fun (x175 : Int) =>
  Look h33 x173 (.int .i64) (.int .i64 x175) (.one .bool) false fun (x176 : Bool) _ =>
  Ld h33 (Addr.add (⟨r10, 0, none⟩) 0) .sl fun (x178 : Sl) =>
  Ix x178 s_3.1 1 fun a180 =>
  Ld h33 a180 .mp fun (x181 : Option Nat) =>
  Ld h33 (Addr.add (⟨r19, 0, none⟩) 1) (.int .i64) fun (x183 : Int) =>
  Look h33 x181 (.int .i64) (.int .i64 x183) (.one .bool) false fun (x184 : Bool) _ =>
  CallV Try.prog (.func (.func 12) ⟨[]⟩ ⟨[]⟩) [(.bool x176), (.bool x184)] h33 (.un (.one (.int .i64))) fun (x185 : Int) h34 =>
  Le h33 h34 ∧
  cond (x167 != x185)
  (Wk h34 fun h35 => R (.bool false) h35)
  (Wk h34 fun h36 => K_4 (IntKind.wrap .i64 (s_6.1 + ((1 : Int))), ()) h36))
  (Wk h33 fun h37 => K_4 (IntKind.wrap .i64 (s_6.1 + ((1 : Int))), ()) h37))
  (Wk h31 fun h38 => K_2 (IntKind.wrap .i64 (s_4.1 + ((1 : Int))), ()) h38))
  ((0 : Int), ()) h27))
  ((0 : Int), ()) h26)
  (Ld h24 (Addr.add (⟨r7, 0, none⟩) 2) .sl fun (x191 : Sl) =>
  Ix x191 s_3.1 1 fun a193 =>
  Ld h24 a193 (.int .i64) fun (x194 : Int) =>
  Ld h24 (Addr.add (⟨r10, 0, none⟩) 2) .sl fun (x197 : Sl) =>
  Ix x197 s_3.1 1 fun a199 =>
  Ld h24 a199 .bool fun (x200 : Bool) =>
  CallV Try.prog (.func (.func 12) ⟨[]⟩ ⟨[]⟩) [(.bool false), (.bool x200)] h24 (.un (.one (.int .i64))) fun (x201 : Int) h39 =>
  Le h24 h39 ∧
  cond (x194 != x201)
  (Wk h39 fun h40 => R (.bool false) h40)
  (Wk h39 fun h41 => K_1 (IntKind.wrap .i64 (s_3.1 + ((1 : Int))), ()) h41)))
  ((0 : Int), ()) h23)
  (Ld h21 (Addr.add (⟨r2, 0, none⟩) 0) .sl fun (x205 : Sl) =>
  Lp (σ := (Int × Unit)) (fun K_5 s_7 h42 =>
  cond (decide (s_7.1 < (((x205.n : Nat) : Int))))
  (Ld h42 (Addr.add (⟨r7, 0, none⟩) 1) .sl fun (x211 : Sl) =>
  Ix x211 s_7.1 1 fun a213 =>
  Ld h42 a213 (.int .i64) fun (x214 : Int) =>
  Ld h42 (Addr.add (⟨r10, 0, none⟩) 1) .sl fun (x217 : Sl) =>
  Ix x217 s_7.1 1 fun a219 =>
  Ld h42 a219 .bool fun (x220 : Bool) =>
  CallV Try.prog (.func (.func 12) ⟨[]⟩ ⟨[]⟩) [(.bool false), (.bool x220)] h42 (.un (.one (.int .i64))) fun (x221 : Int) h43 =>
  Le h42 h43 ∧
  cond (x214 != x221)
  (Wk h43 fun h44 => R (.bool false) h44)
  (Wk h43 fun h45 => K_5 (IntKind.wrap .i64 (s_7.1 + ((1 : Int))), ()) h45))
  (Wk h42 fun h46 => R (.bool true) h46))
  ((0 : Int), ()) h21))
  ((0 : Int), ()) h20) fun J_1 =>
  cond (x44.2.1 != ((0 : Int)))
  (Wk h11 fun h47 => R (.bool false) h47)
  (Ld h11 (Addr.add (⟨r7, 0, none⟩) 0) .sl fun (x62 : Sl) =>
  Ld h11 (Addr.add (⟨r2, 0, none⟩) 1) .sl fun (x65 : Sl) =>
  cond ((((x62.n : Nat) : Int)) != (((x65.n : Nat) : Int)))
  (Wk h11 fun h48 => R (.bool false) h48)
  (Ld h11 (Addr.add (⟨r7, 0, none⟩) 2) .sl fun (x71 : Sl) =>
  Ld h11 (Addr.add (⟨r2, 0, none⟩) 1) .sl fun (x74 : Sl) =>
  cond ((((x71.n : Nat) : Int)) != (((x74.n : Nat) : Int)))
  (Wk h11 fun h49 => R (.bool false) h49)
  (Ld h11 (Addr.add (⟨r7, 0, none⟩) 1) .sl fun (x80 : Sl) =>
  Ld h11 (Addr.add (⟨r2, 0, none⟩) 0) .sl fun (x83 : Sl) =>
  cond ((((x80.n : Nat) : Int)) != (((x83.n : Nat) : Int)))
  (Wk h11 fun h50 => R (.bool false) h50)
  (Ld h11 (Addr.add (⟨r7, 0, none⟩) 3) .sl fun (x89 : Sl) =>
  Ld h11 (Addr.add (⟨r2, 0, none⟩) 1) .sl fun (x92 : Sl) =>
  cond ((((x89.n : Nat) : Int)) != (((x92.n : Nat) : Int)))
  (Wk h11 fun h51 => R (.bool false) h51)
  (Wk h11 fun h52 => J_1 (()) h52))))))))
  ((0 : Int), ()) h4) fun J =>
  LdA h2 (⟨r2, 0, none⟩) [.sl, .sl, (.int .i64)] fun (x23 : ((Sl) × (Sl) × (Int) × Unit)) =>
  CallK Try.prog 8 [(.agg ⟨[(.slice x23.1.a x23.1.n x23.1.c), (.slice x23.2.1.a x23.2.1.n x23.2.1.c), (.int .i64 x23.2.2.1)]⟩)] h2 (.un (.one .bool)) fun (x24 : Bool) h53 =>
  cond (!x24)
  (Wk h53 fun h54 => R (.bool true) h54)
  (cond (decide ((((p1.n : Nat) : Int)) > ((6 : Int))))
  (Wk h53 fun h55 => R (.bool true) h55)
  (Wk h53 fun h56 => J (()) h56)))
theorem S3_eq (p0_0 : Sl) (p0_1 : Sl) (p0_2 : Int) (p1 : Sl) (h : V) (R : Value → V → Prop) : ABody Try.prog an3 Try.f3 [(.agg ⟨[(.slice p0_0.a p0_0.n p0_0.c), (.slice p0_1.a p0_1.n p0_1.c), (.int .i64 p0_2)]⟩), (.slice p1.a p1.n p1.c)] h R = S3 p0_0 p0_1 p0_2 p1 h R := by kernel_rfl
theorem S3_ok (p0_0 : Sl) (p0_1 : Sl) (p0_2 : Int) (p1 : Sl) (h : V) (R : Value → V → Prop) (hk : S3 p0_0 p0_1 p0_2 p1 h R) : ACalls Try.prog 3 [(.agg ⟨[(.slice p0_0.a p0_0.n p0_0.c), (.slice p0_1.a p0_1.n p0_1.c), (.int .i64 p0_2)]⟩), (.slice p1.a p1.n p1.c)] h R :=
  ABody_sound mixed Try.func3 Try.call3 (by kernel_rfl) (by kernel_rfl) (an := an3) (by rw [S3_eq]; exact hk)

/- palings/palingslaw12.TaintCuts -/
def an4 : An := (.two .nil (.two (.two .nil (.two (.two .nil .nil) .nil)) (.cut [] (.two .nil (.two (.two .nil .nil) .nil)) (.two (.two .nil (.one (.loop [(40, (.one (.int .i64)))] (.two .nil (.two (.two .nil .nil) (.two (.one (.two .nil (.two .nil (.two (.two .nil .nil) .nil)))) .nil)))))) (.two .nil (.two .nil (.two .nil (.two (.two .nil (.one (.loop [(11, (.one .sl)), (63, (.one (.int .i64)))] (.two .nil (.two (.two .nil .nil) (.two (.one (.two .nil (.two .nil (.cut [] (.two .nil (.one (.loop [(15, (.one (.int .i64)))] (.two (.two .nil (.two .nil .nil)) (.two (.one .nil) .nil))))) (.two (.two .nil (.two (.two .nil .nil) .nil)) .nil))))) .nil)))))) (.two .nil (.cut [] (.two .nil (.two (.two .nil .nil) .nil)) (.two (.two .nil (.one (.loop [(107, (.one (.int .i64)))] (.two .nil (.two (.two .nil .nil) (.two (.one (.two .nil (.two .nil (.one (.loop [(19, (.one (.int .i64)))] (.two (.two .nil (.two .nil .nil)) (.two (.one (.two .nil (.two .nil (.two .nil (.two .nil (.two (.two .nil .nil) .nil)))))) .nil))))))) .nil)))))) (.two .nil .nil))))))))))))
def S4 (p0_0 : Sl) (p0_1 : Sl) (p0_2 : Int) (p1 : Sl) (h : V) (R : Value → V → Prop) : Prop :=
  New h (.cells #[(.slice p0_0.a p0_0.n p0_0.c), (.slice p0_1.a p0_1.n p0_1.c), (.int .i64 p0_2)] 25) fun r2 h1 =>
  CallK Try.prog 7 [] h1 (.un (.one .bool)) fun (x23 : Bool) h2 =>
  cond (!x23)
  (Wk h2 fun h3 => R (.bool false) h3)
  (Cut (σ := (Unit)) (fun _ h4 =>
  Lp (σ := (Int × Unit)) (fun K s_1 h5 =>
  cond (decide (s_1.1 < (((p1.n : Nat) : Int))))
  (Ix p1 s_1.1 1 fun a42 =>
  Ld h5 a42 .mp fun (x43 : Option Nat) =>
  LenM h5 x43 fun x45 =>
  cond (decide (x45 > ((60 : Int))))
  (Wk h5 fun h6 => R (.bool true) h6)
  (Wk h5 fun h7 => K (IntKind.wrap .i64 (s_1.1 + ((1 : Int))), ()) h7))
  (LdA h5 (⟨r2, 0, none⟩) [.sl, .sl, (.int .i64)] fun (x49 : ((Sl) × (Sl) × (Int) × Unit)) =>
  CallK Try.prog 9 [(.agg ⟨[(.slice x49.1.a x49.1.n x49.1.c), (.slice x49.2.1.a x49.2.1.n x49.2.1.c), (.int .i64 x49.2.2.1)]⟩), (.slice none 0 0)] h5 (.tup [(.agg [.sl, .sl, .sl, .sl]), (.one (.int .i64))]) fun (x50 : (((Sl) × (Sl) × (Sl) × (Sl) × Unit) × Int × Unit)) h8 =>
  New h8 (.cells #[(.slice none 0 0), (.slice none 0 0), (.slice none 0 0), (.slice none 0 0)] 33) fun r7 h9 =>
  StL h9 (⟨r7, 0, none⟩) 0 [(.slice x50.1.1.a x50.1.1.n x50.1.1.c), (.slice x50.1.2.1.a x50.1.2.1.n x50.1.2.1.c), (.slice x50.1.2.2.1.a x50.1.2.2.1.n x50.1.2.2.1.c), (.slice x50.1.2.2.2.1.a x50.1.2.2.2.1.n x50.1.2.2.2.1.c)] fun h10 =>
  LdA h10 (⟨r2, 0, none⟩) [.sl, .sl, (.int .i64)] fun (x54 : ((Sl) × (Sl) × (Int) × Unit)) =>
  CallK Try.prog 9 [(.agg ⟨[(.slice x54.1.a x54.1.n x54.1.c), (.slice x54.2.1.a x54.2.1.n x54.2.1.c), (.int .i64 x54.2.2.1)]⟩), (.slice p1.a p1.n p1.c)] h10 (.tup [(.agg [.sl, .sl, .sl, .sl]), (.one (.int .i64))]) fun (x56 : (((Sl) × (Sl) × (Sl) × (Sl) × Unit) × Int × Unit)) h11 =>
  New h11 (.cells #[(.slice none 0 0), (.slice none 0 0), (.slice none 0 0), (.slice none 0 0)] 33) fun r9 h12 =>
  StL h12 (⟨r9, 0, none⟩) 0 [(.slice x56.1.1.a x56.1.1.n x56.1.1.c), (.slice x56.1.2.1.a x56.1.2.1.n x56.1.2.1.c), (.slice x56.1.2.2.1.a x56.1.2.2.1.n x56.1.2.2.1.c), (.slice x56.1.2.2.2.1.a x56.1.2.2.2.1.n x56.1.2.2.2.1.c)] fun h13 =>
  New h13 (.cells #[] 29) fun r59 h14 =>
  Ld h14 (Addr.add (⟨r2, 0, none⟩) 1) .sl fun (x61 : Sl) =>
  Lp (σ := (Sl × Int × Unit)) (fun K_1 s_2 h15 =>
  cond (decide (s_2.2.1 < (((x61.n : Nat) : Int))))
  (Ix x61 s_2.2.1 2 fun a65 =>
  LdA h15 a65 [.str, .sl] fun (x66 : ((ByteArray) × (Sl) × Unit)) =>
  New h15 (.cells #[(.string (⟨#[]⟩)), (.slice none 0 0)] 46) fun r13 h16 =>
  StL h16 (⟨r13, 0, none⟩) 0 [(.string x66.1), (.slice x66.2.1.a x66.2.1.n x66.2.1.c)] fun h17 =>
  New h17 (.map #[] 0) fun r67 h18 =>
  Cut (σ := (Unit)) (fun _ h19 =>
  LdA h19 (⟨r13, 0, none⟩) [.str, .sl] fun (x80 : ((ByteArray) × (Sl) × Unit)) =>
  CallK Try.prog 13 [(.agg ⟨[(.string x80.1), (.slice x80.2.1.a x80.2.1.n x80.2.1.c)]⟩)] h19 (.un (.one (.int .i64))) fun (x81 : Int) h20 =>
  cond (decide (x81 ≥ ((1000 : Int))))
  (Wk h20 fun h21 => R (.bool true) h21)
  (New h20 (.cells #[(.map ((some r67)))] 29) fun r85 h22 =>
  App h22 s_2.1 ⟨(some ⟨r85, 0, none⟩), 1, 1⟩ 29 1 8 [(.map none)] fun s86 h23 =>
  Wk h23 fun h24 => K_1 (s86, IntKind.wrap .i64 (s_2.2.1 + ((1 : Int))), ()) h24)) fun J_1 =>
  Lp (σ := (Int × Unit)) (fun K_2 s_4 h25 =>
  LdA h25 (⟨r13, 0, none⟩) [.str, .sl] fun (x69 : ((ByteArray) × (Sl) × Unit)) =>
  CallK Try.prog 13 [(.agg ⟨[(.string x69.1), (.slice x69.2.1.a x69.2.1.n x69.2.1.c)]⟩)] h25 (.un (.one (.int .i64))) fun (x70 : Int) h26 =>
  cond (decide (s_4.1 ≤ x70))
  (cond (decide (s_4.1 < ((1000 : Int))))
  (MUpd h26 ((some r67)) (.int .i64) (.int .i64 s_4.1) (.bool true) fun h27 =>
  Wk h27 fun h28 => K_2 (IntKind.wrap .i64 (s_4.1 + ((1 : Int))), ()) h28)
  (Wk h26 fun h29 => J_1 (()) h29))
  (Wk h26 fun h30 => J_1 (()) h30))
  ((1 : Int), ()) h18)
  (LdA h15 (⟨r2, 0, none⟩) [.sl, .sl, (.int .i64)] fun (x89 : ((Sl) × (Sl) × (Int) × Unit)) =>
  CallK Try.prog 9 [(.agg ⟨[(.slice x89.1.a x89.1.n x89.1.c), (.slice x89.2.1.a x89.2.1.n x89.2.1.c), (.int .i64 x89.2.2.1)]⟩), (.slice s_2.1.a s_2.1.n s_2.1.c)] h15 (.tup [(.agg [.sl, .sl, .sl, .sl]), (.one (.int .i64))]) fun (x91 : (((Sl) × (Sl) × (Sl) × (Sl) × Unit) × Int × Unit)) h31 =>
  New h31 (.cells #[(.slice none 0 0), (.slice none 0 0), (.slice none 0 0), (.slice none 0 0)] 33) fun r16 h32 =>
  StL h32 (⟨r16, 0, none⟩) 0 [(.slice x91.1.1.a x91.1.1.n x91.1.1.c), (.slice x91.1.2.1.a x91.1.2.1.n x91.1.2.1.c), (.slice x91.1.2.2.1.a x91.1.2.2.1.n x91.1.2.2.1.c), (.slice x91.1.2.2.2.1.a x91.1.2.2.2.1.n x91.1.2.2.2.1.c)] fun h33 =>
  Cut (σ := (Unit)) (fun _ h34 =>
  Ld h34 (Addr.add (⟨r2, 0, none⟩) 1) .sl fun (x105 : Sl) =>
  Lp (σ := (Int × Unit)) (fun K_3 s_6 h35 =>
  cond (decide (s_6.1 < (((x105.n : Nat) : Int))))
  (Lp (σ := (Int × Unit)) (fun K_4 s_7 h36 =>
  Ld h36 (Addr.add (⟨r2, 0, none⟩) 1) .sl fun (x112 : Sl) =>
  Ix x112 s_6.1 2 fun a114 =>
  LdA h36 a114 [.str, .sl] fun (x115 : ((ByteArray) × (Sl) × Unit)) =>
  CallK Try.prog 13 [(.agg ⟨[(.string x115.1), (.slice x115.2.1.a x115.2.1.n x115.2.1.c)]⟩)] h36 (.un (.one (.int .i64))) fun (x116 : Int) h37 =>
  cond (decide (s_7.1 ≤ x116))
  (Ld h37 (Addr.add (⟨r7, 0, none⟩) 0) .sl fun (x121 : Sl) =>
  Ix x121 s_6.1 1 fun a123 =>
  Ld h37 a123 .mp fun (x124 : Option Nat) =>
  Look h37 x124 (.int .i64) (.int .i64 s_7.1) (.one (.int .i64)) ((0 : Int)) fun (x126 : Int) _ =>
  Ld h37 (Addr.add (⟨r9, 0, none⟩) 0) .sl fun (x128 : Sl) =>
  Ix x128 s_6.1 1 fun a130 =>
  Ld h37 a130 .mp fun (x131 : Option Nat) =>
  Look h37 x131 (.int .i64) (.int .i64 s_7.1) (.one (.int .i64)) ((0 : Int)) fun (x133 : Int) _ =>
  Ld h37 (Addr.add (⟨r16, 0, none⟩) 0) .sl fun (x135 : Sl) =>
  Ix x135 s_6.1 1 fun a137 =>
  Ld h37 a137 .mp fun (x138 : Option Nat) =>
  Look h37 x138 (.int .i64) (.int .i64 s_7.1) (.one (.int .i64)) ((0 : Int)) fun (x140 : Int) _ =>
  cond (decide (x133 > x126))
  (Wk h37 fun h38 => R (.bool false) h38)
  (cond (decide (x140 > x133))
  (Wk h37 fun h39 => R (.bool false) h39)
  (cond (x140 == ((1 : Int)))
  (Wk h37 fun h40 => R (.bool false) h40)
  (cond (!((x126 == ((2 : Int))) == (x140 == ((2 : Int)))))
  (Wk h37 fun h41 => R (.bool false) h41)
  (cond (!((x133 == ((2 : Int))) == (x140 == ((2 : Int)))))
  (Wk h37 fun h42 => R (.bool false) h42)
  (Wk h37 fun h43 => K_4 (IntKind.wrap .i64 (s_7.1 + ((1 : Int))), ()) h43))))))
  (Wk h37 fun h44 => K_3 (IntKind.wrap .i64 (s_6.1 + ((1 : Int))), ()) h44))
  ((1 : Int), ()) h35)
  (Wk h35 fun h45 => R (.bool true) h45))
  ((0 : Int), ()) h34) fun J_2 =>
  cond (x50.2.1 != ((0 : Int)))
  (Wk h33 fun h46 => R (.bool false) h46)
  (cond (x56.2.1 != ((0 : Int)))
  (Wk h33 fun h47 => R (.bool false) h47)
  (cond (x91.2.1 != ((0 : Int)))
  (Wk h33 fun h48 => R (.bool false) h48)
  (Wk h33 fun h49 => J_2 (()) h49)))))
  (⟨(some ⟨r59, 0, none⟩), 0, 0⟩, (0 : Int), ()) h14))
  ((0 : Int), ()) h4) fun J =>
  LdA h2 (⟨r2, 0, none⟩) [.sl, .sl, (.int .i64)] fun (x25 : ((Sl) × (Sl) × (Int) × Unit)) =>
  CallK Try.prog 8 [(.agg ⟨[(.slice x25.1.a x25.1.n x25.1.c), (.slice x25.2.1.a x25.2.1.n x25.2.1.c), (.int .i64 x25.2.2.1)]⟩)] h2 (.un (.one .bool)) fun (x26 : Bool) h50 =>
  cond (!x26)
  (Wk h50 fun h51 => R (.bool true) h51)
  (LdA h50 (⟨r2, 0, none⟩) [.sl, .sl, (.int .i64)] fun (x29 : ((Sl) × (Sl) × (Int) × Unit)) =>
  CallK Try.prog 10 [(.agg ⟨[(.slice x29.1.a x29.1.n x29.1.c), (.slice x29.2.1.a x29.2.1.n x29.2.1.c), (.int .i64 x29.2.2.1)]⟩)] h50 (.un (.one (.int .i64))) fun (x30 : Int) h52 =>
  cond (x30 != ((0 : Int)))
  (Wk h52 fun h53 => R (.bool true) h53)
  (cond (decide ((((p1.n : Nat) : Int)) > ((6 : Int))))
  (Wk h52 fun h54 => R (.bool true) h54)
  (Wk h52 fun h55 => J (()) h55))))
theorem S4_eq (p0_0 : Sl) (p0_1 : Sl) (p0_2 : Int) (p1 : Sl) (h : V) (R : Value → V → Prop) : ABody Try.prog an4 Try.f4 [(.agg ⟨[(.slice p0_0.a p0_0.n p0_0.c), (.slice p0_1.a p0_1.n p0_1.c), (.int .i64 p0_2)]⟩), (.slice p1.a p1.n p1.c)] h R = S4 p0_0 p0_1 p0_2 p1 h R := by kernel_rfl
theorem S4_ok (p0_0 : Sl) (p0_1 : Sl) (p0_2 : Int) (p1 : Sl) (h : V) (R : Value → V → Prop) (hk : S4 p0_0 p0_1 p0_2 p1 h R) : ACalls Try.prog 4 [(.agg ⟨[(.slice p0_0.a p0_0.n p0_0.c), (.slice p0_1.a p0_1.n p0_1.c), (.int .i64 p0_2)]⟩), (.slice p1.a p1.n p1.c)] h R :=
  ABody_sound mixed Try.func4 Try.call4 (by kernel_rfl) (by kernel_rfl) (an := an4) (by rw [S4_eq]; exact hk)

/- palings/palingslaw12.TaintPlain -/
def an5 : An := (.two .nil (.two (.two .nil (.two (.two .nil .nil) .nil)) (.cut [] (.two .nil (.two (.two .nil .nil) .nil)) (.two .nil (.two (.two .nil (.one (.loop [(34, (.one (.int .i64)))] (.two .nil (.two (.two .nil .nil) (.two (.one (.two .nil .nil)) .nil)))))) (.two .nil (.two (.two .nil (.two (.two .nil .nil) .nil)) (.two .nil (.two (.two .nil (.one (.loop [(7, (.one .bool)), (53, (.one (.int .i64)))] (.two .nil (.two (.two .nil .nil) (.two (.one (.two .nil (.two .nil (.one (.loop [(7, (.one .bool)), (60, (.one (.int .i64)))] (.two .nil (.two (.two .nil .nil) (.two (.one (.two .nil (.two .nil (.one (.loop [(7, (.one .bool)), (67, (.one (.int .i64)))] (.two .nil (.two (.two .nil .nil) (.two (.one (.two .nil .nil)) .nil)))))))) .nil)))))))) .nil)))))) (.two (.two .nil (.one (.loop [(88, (.one (.int .i64)))] (.two .nil (.two (.two .nil .nil) (.two (.one (.two .nil (.two (.two .nil (.one (.loop [] (.two .nil (.two (.two .nil .nil) (.one (.two .nil (.two .nil (.two (.two .nil .nil) .nil))))))))) (.two .nil (.two (.two .nil .nil) .nil))))) .nil)))))) (.two (.two .nil (.one (.loop [(121, (.one (.int .i64)))] (.two .nil (.two (.two .nil .nil) (.two (.one (.two .nil (.two .nil (.two (.two .nil .nil) .nil)))) .nil)))))) (.two .nil .nil))))))))))))
def S5 (p0_0 : Sl) (p0_1 : Sl) (p0_2 : Int) (h : V) (R : Value → V → Prop) : Prop :=
  New h (.cells #[(.slice p0_0.a p0_0.n p0_0.c), (.slice p0_1.a p0_1.n p0_1.c), (.int .i64 p0_2)] 25) fun r1 h1 =>
  CallK Try.prog 7 [] h1 (.un (.one .bool)) fun (x19 : Bool) h2 =>
  cond (!x19)
  (Wk h2 fun h3 => R (.bool false) h3)
  (Cut (σ := (Unit)) (fun _ h4 =>
  LdA h4 (⟨r1, 0, none⟩) [.sl, .sl, (.int .i64)] fun (x29 : ((Sl) × (Sl) × (Int) × Unit)) =>
  CallK Try.prog 14 [(.agg ⟨[(.slice x29.1.a x29.1.n x29.1.c), (.slice x29.2.1.a x29.2.1.n x29.2.1.c), (.int .i64 x29.2.2.1)]⟩)] h4 (.un (.agg [.sl, .sl, (.int .i64)])) fun (x30 : ((Sl) × (Sl) × (Int) × Unit)) h5 =>
  New h5 (.cells #[(.slice none 0 0), (.slice none 0 0), (.int .i64 ((0 : Int)))] 25) fun r3 h6 =>
  StL h6 (⟨r3, 0, none⟩) 0 [(.slice x30.1.a x30.1.n x30.1.c), (.slice x30.2.1.a x30.2.1.n x30.2.1.c), (.int .i64 x30.2.2.1)] fun h7 =>
  Ld h7 (Addr.add (⟨r3, 0, none⟩) 0) .sl fun (x32 : Sl) =>
  Lp (σ := (Int × Unit)) (fun K s_1 h8 =>
  cond (decide (s_1.1 < (((x32.n : Nat) : Int))))
  (Ld h8 (Addr.add (⟨r3, 0, none⟩) 0) .sl fun (x38 : Sl) =>
  Ix x38 s_1.1 3 fun a40 =>
  StL h8 (Addr.add a40 1) 0 [(.int .i64 ((1 : Int)))] fun h9 =>
  Wk h9 fun h10 => K (IntKind.wrap .i64 (s_1.1 + ((1 : Int))), ()) h10)
  (LdA h8 (⟨r3, 0, none⟩) [.sl, .sl, (.int .i64)] fun (x44 : ((Sl) × (Sl) × (Int) × Unit)) =>
  CallK Try.prog 9 [(.agg ⟨[(.slice x44.1.a x44.1.n x44.1.c), (.slice x44.2.1.a x44.2.1.n x44.2.1.c), (.int .i64 x44.2.2.1)]⟩), (.slice none 0 0)] h8 (.tup [(.agg [.sl, .sl, .sl, .sl]), (.one (.int .i64))]) fun (x45 : (((Sl) × (Sl) × (Sl) × (Sl) × Unit) × Int × Unit)) h11 =>
  New h11 (.cells #[(.slice none 0 0), (.slice none 0 0), (.slice none 0 0), (.slice none 0 0)] 33) fun r5 h12 =>
  StL h12 (⟨r5, 0, none⟩) 0 [(.slice x45.1.1.a x45.1.1.n x45.1.1.c), (.slice x45.1.2.1.a x45.1.2.1.n x45.1.2.1.c), (.slice x45.1.2.2.1.a x45.1.2.2.1.n x45.1.2.2.1.c), (.slice x45.1.2.2.2.1.a x45.1.2.2.2.1.n x45.1.2.2.2.1.c)] fun h13 =>
  cond (x45.2.1 != ((0 : Int)))
  (Wk h13 fun h14 => R (.bool false) h14)
  (Ld h13 (Addr.add (⟨r3, 0, none⟩) 1) .sl fun (x51 : Sl) =>
  Lp (σ := (Bool × Int × Unit)) (fun K_1 s_2 h15 =>
  cond (decide (s_2.2.1 < (((x51.n : Nat) : Int))))
  (Ix x51 s_2.2.1 2 fun a55 =>
  LdA h15 a55 [.str, .sl] fun (x56 : ((ByteArray) × (Sl) × Unit)) =>
  New h15 (.cells #[(.string (⟨#[]⟩)), (.slice none 0 0)] 46) fun r9 h16 =>
  StL h16 (⟨r9, 0, none⟩) 0 [(.string x56.1), (.slice x56.2.1.a x56.2.1.n x56.2.1.c)] fun h17 =>
  Ld h17 (Addr.add (⟨r9, 0, none⟩) 1) .sl fun (x58 : Sl) =>
  Lp (σ := (Bool × Int × Unit)) (fun K_2 s_3 h18 =>
  cond (decide (s_3.2.1 < (((x58.n : Nat) : Int))))
  (Ix x58 s_3.2.1 6 fun a62 =>
  LdA h18 a62 [.sl, .sl, (.int .i64), (.int .i64), .sl, (.int .i64)] fun (x63 : ((Sl) × (Sl) × (Int) × (Int) × (Sl) × (Int) × Unit)) =>
  New h18 (.cells #[(.slice none 0 0), (.slice none 0 0), (.int .i64 ((0 : Int))), (.int .i64 ((0 : Int))), (.slice none 0 0), (.int .i64 ((0 : Int)))] 55) fun r11 h19 =>
  StL h19 (⟨r11, 0, none⟩) 0 [(.slice x63.1.a x63.1.n x63.1.c), (.slice x63.2.1.a x63.2.1.n x63.2.1.c), (.int .i64 x63.2.2.1), (.int .i64 x63.2.2.2.1), (.slice x63.2.2.2.2.1.a x63.2.2.2.2.1.n x63.2.2.2.2.1.c), (.int .i64 x63.2.2.2.2.2.1)] fun h20 =>
  Ld h20 (Addr.add (⟨r11, 0, none⟩) 1) .sl fun (x65 : Sl) =>
  Lp (σ := (Bool × Int × Unit)) (fun K_3 s_4 h21 =>
  cond (decide (s_4.2.1 < (((x65.n : Nat) : Int))))
  (Ix x65 s_4.2.1 7 fun a69 =>
  LdA h21 a69 [(.int .i64), (.int .i64), .sl, (.int .i64), (.int .i64), (.int .i64), (.int .i64)] fun (x70 : ((Int) × (Int) × (Sl) × (Int) × (Int) × (Int) × (Int) × Unit)) =>
  New h21 (.cells #[(.int .i64 ((0 : Int))), (.int .i64 ((0 : Int))), (.slice none 0 0), (.int .i64 ((0 : Int))), (.int .i64 ((0 : Int))), (.int .i64 ((0 : Int))), (.int .i64 ((0 : Int)))] 60) fun r13 h22 =>
  StL h22 (⟨r13, 0, none⟩) 0 [(.int .i64 x70.1), (.int .i64 x70.2.1), (.slice x70.2.2.1.a x70.2.2.1.n x70.2.2.1.c), (.int .i64 x70.2.2.2.1), (.int .i64 x70.2.2.2.2.1), (.int .i64 x70.2.2.2.2.2.1), (.int .i64 x70.2.2.2.2.2.2.1)] fun h23 =>
  cond s_4.1
  (Wk h23 fun h24 => K_3 (true, IntKind.wrap .i64 (s_4.2.1 + ((1 : Int))), ()) h24)
  (Ld h23 (Addr.add (⟨r13, 0, none⟩) 0) (.int .i64) fun (x74 : Int) =>
  cond (x74 == ((5 : Int)))
  (Wk h23 fun h25 => K_3 (true, IntKind.wrap .i64 (s_4.2.1 + ((1 : Int))), ()) h25)
  (Ld h23 (Addr.add (⟨r13, 0, none⟩) 0) (.int .i64) fun (x79 : Int) =>
  Wk h23 fun h26 => K_3 (x79 == ((3 : Int)), IntKind.wrap .i64 (s_4.2.1 + ((1 : Int))), ()) h26)))
  (Wk h21 fun h27 => K_2 (s_4.1, IntKind.wrap .i64 (s_3.2.1 + ((1 : Int))), ()) h27))
  (s_3.1, (0 : Int), ()) h20)
  (Wk h18 fun h28 => K_1 (s_3.1, IntKind.wrap .i64 (s_2.2.1 + ((1 : Int))), ()) h28))
  (s_2.1, (0 : Int), ()) h17)
  (Ld h15 (Addr.add (⟨r3, 0, none⟩) 1) .sl fun (x86 : Sl) =>
  Lp (σ := (Int × Unit)) (fun K_4 s_5 h29 =>
  cond (decide (s_5.1 < (((x86.n : Nat) : Int))))
  (Ld h29 (Addr.add (⟨r5, 0, none⟩) 0) .sl fun (x92 : Sl) =>
  Ix x92 s_5.1 1 fun a94 =>
  Ld h29 a94 .mp fun (x95 : Option Nat) =>
  Rng h29 x95 fun r96 h30 =>
  Lp (σ := (Unit)) (fun K_5 _ h31 =>
  Nxt h31 r96 (fun _ _ h32 =>
  Ent h32 r96 fun _ v99 =>
  unK (.int .i64) v99 fun (x100 : Int) =>
  cond (x100 == ((2 : Int)))
  (Wk h32 fun h33 => R (.bool false) h33)
  (cond (x100 == ((1 : Int)))
  (cond (!s_2.1)
  (Wk h32 fun h34 => R (.bool false) h34)
  (Wk h32 fun h35 => K_5 (()) h35))
  (Wk h32 fun h36 => K_5 (()) h36)))
  (Ld h31 (Addr.add (⟨r5, 0, none⟩) 2) .sl fun (x112 : Sl) =>
  Ix x112 s_5.1 1 fun a114 =>
  Ld h31 a114 (.int .i64) fun (x115 : Int) =>
  cond (x115 != ((0 : Int)))
  (Wk h31 fun h37 => R (.bool false) h37)
  (Wk h31 fun h38 => K_4 (IntKind.wrap .i64 (s_5.1 + ((1 : Int))), ()) h38)))
  (()) h30)
  (Ld h29 (Addr.add (⟨r5, 0, none⟩) 1) .sl fun (x119 : Sl) =>
  Lp (σ := (Int × Unit)) (fun K_6 s_7 h39 =>
  cond (decide (s_7.1 < (((x119.n : Nat) : Int))))
  (Ix x119 s_7.1 1 fun a123 =>
  Ld h39 a123 (.int .i64) fun (x124 : Int) =>
  cond (x124 != ((0 : Int)))
  (Wk h39 fun h40 => R (.bool false) h40)
  (Wk h39 fun h41 => K_6 (IntKind.wrap .i64 (s_7.1 + ((1 : Int))), ()) h41))
  (Wk h39 fun h42 => R (.bool true) h42))
  ((0 : Int), ()) h29))
  ((0 : Int), ()) h15))
  (false, (0 : Int), ()) h13)))
  ((0 : Int), ()) h7) fun J =>
  LdA h2 (⟨r1, 0, none⟩) [.sl, .sl, (.int .i64)] fun (x21 : ((Sl) × (Sl) × (Int) × Unit)) =>
  CallK Try.prog 8 [(.agg ⟨[(.slice x21.1.a x21.1.n x21.1.c), (.slice x21.2.1.a x21.2.1.n x21.2.1.c), (.int .i64 x21.2.2.1)]⟩)] h2 (.un (.one .bool)) fun (x22 : Bool) h43 =>
  cond (!x22)
  (Wk h43 fun h44 => R (.bool true) h44)
  (LdA h43 (⟨r1, 0, none⟩) [.sl, .sl, (.int .i64)] fun (x25 : ((Sl) × (Sl) × (Int) × Unit)) =>
  CallK Try.prog 10 [(.agg ⟨[(.slice x25.1.a x25.1.n x25.1.c), (.slice x25.2.1.a x25.2.1.n x25.2.1.c), (.int .i64 x25.2.2.1)]⟩)] h43 (.un (.one (.int .i64))) fun (x26 : Int) h45 =>
  cond (x26 != ((0 : Int)))
  (Wk h45 fun h46 => R (.bool true) h46)
  (Wk h45 fun h47 => J (()) h47)))
theorem S5_eq (p0_0 : Sl) (p0_1 : Sl) (p0_2 : Int) (h : V) (R : Value → V → Prop) : ABody Try.prog an5 Try.f5 [(.agg ⟨[(.slice p0_0.a p0_0.n p0_0.c), (.slice p0_1.a p0_1.n p0_1.c), (.int .i64 p0_2)]⟩)] h R = S5 p0_0 p0_1 p0_2 h R := by kernel_rfl
theorem S5_ok (p0_0 : Sl) (p0_1 : Sl) (p0_2 : Int) (h : V) (R : Value → V → Prop) (hk : S5 p0_0 p0_1 p0_2 h R) : ACalls Try.prog 5 [(.agg ⟨[(.slice p0_0.a p0_0.n p0_0.c), (.slice p0_1.a p0_1.n p0_1.c), (.int .i64 p0_2)]⟩)] h R :=
  ABody_sound mixed Try.func5 Try.call5 (by kernel_rfl) (by kernel_rfl) (an := an5) (by rw [S5_eq]; exact hk)

/- palings/palingslaw12.TaintSinks -/
def an6 : An := (.two .nil (.two (.two .nil (.two (.two .nil .nil) .nil)) (.cut [] (.two .nil (.two (.two .nil .nil) .nil)) (.two (.two .nil (.one (.loop [(37, (.one (.int .i64)))] (.two .nil (.two (.two .nil .nil) (.two (.one (.two .nil (.two .nil (.two (.two .nil .nil) .nil)))) .nil)))))) (.two .nil (.two (.two .nil (.two (.two .nil .nil) .nil)) (.two .nil (.two (.two .nil (.one (.loop [(57, (.one (.int .i64)))] (.two .nil (.two (.two .nil .nil) (.two (.one (.two .nil (.two .nil (.one (.loop [(65, (.one (.int .i64)))] (.two .nil (.two (.two .nil .nil) (.two (.one (.two .nil (.two .nil (.two (.two .nil (.one (.loop [(74, (.one (.int .i64)))] (.two .nil (.two (.two .nil .nil) (.two (.one (.two .nil (.two .nil (.one (.cut [(81, (.one .bool))] .nil (.two (.cut [] (.two (.perm [0, 1, 2, 3, 4, 5, 6, 7, 8, 9, 10, 11, 12] []) (.two (.two .nil .nil) .nil)) .nil) (.cut [(110, (.one .bool))] .nil (.two (.cut [] (.two (.perm [0, 1, 2, 3, 4, 5, 6, 7, 8, 9, 10, 11, 12, 13, 14, 15, 16, 17, 18, 19, 20, 21, 22] []) (.two (.two .nil .nil) .nil)) (.two .nil .nil)) (.two .nil (.two (.two .nil .nil) .nil)))))))))) .nil)))))) (.two .nil (.two .nil .nil)))))) .nil)))))))) .nil)))))) (.two .nil (.two (.two .nil (.two (.two .nil .nil) .nil)) (.two (.two .nil (.one (.loop [(190, (.one (.int .i64)))] (.two .nil (.two (.two .nil .nil) (.two (.one (.two .nil (.two (.perm [0, 1, 2, 3, 4, 5, 6, 7, 8] []) (.two (.two .nil .nil) .nil)))) .nil)))))) (.two .nil .nil))))))))))))
def S6 (p0_0 : Sl) (p0_1 : Sl) (p0_2 : Int) (p1 : Sl) (h : V) (R : Value → V → Prop) : Prop :=
  New h (.cells #[(.slice p0_0.a p0_0.n p0_0.c), (.slice p0_1.a p0_1.n p0_1.c), (.int .i64 p0_2)] 25) fun r2 h1 =>
  CallK Try.prog 7 [] h1 (.un (.one .bool)) fun (x20 : Bool) h2 =>
  cond (!x20)
  (Wk h2 fun h3 => R (.bool false) h3)
  (Cut (σ := (Unit)) (fun _ h4 =>
  Lp (σ := (Int × Unit)) (fun K s_1 h5 =>
  cond (decide (s_1.1 < (((p1.n : Nat) : Int))))
  (Ix p1 s_1.1 1 fun a39 =>
  Ld h5 a39 .mp fun (x40 : Option Nat) =>
  LenM h5 x40 fun x42 =>
  cond (decide (x42 > ((60 : Int))))
  (Wk h5 fun h6 => R (.bool true) h6)
  (Wk h5 fun h7 => K (IntKind.wrap .i64 (s_1.1 + ((1 : Int))), ()) h7))
  (LdA h5 (⟨r2, 0, none⟩) [.sl, .sl, (.int .i64)] fun (x46 : ((Sl) × (Sl) × (Int) × Unit)) =>
  CallK Try.prog 9 [(.agg ⟨[(.slice x46.1.a x46.1.n x46.1.c), (.slice x46.2.1.a x46.2.1.n x46.2.1.c), (.int .i64 x46.2.2.1)]⟩), (.slice p1.a p1.n p1.c)] h5 (.tup [(.agg [.sl, .sl, .sl, .sl]), (.one (.int .i64))]) fun (x48 : (((Sl) × (Sl) × (Sl) × (Sl) × Unit) × Int × Unit)) h8 =>
  New h8 (.cells #[(.slice none 0 0), (.slice none 0 0), (.slice none 0 0), (.slice none 0 0)] 33) fun r7 h9 =>
  StL h9 (⟨r7, 0, none⟩) 0 [(.slice x48.1.1.a x48.1.1.n x48.1.1.c), (.slice x48.1.2.1.a x48.1.2.1.n x48.1.2.1.c), (.slice x48.1.2.2.1.a x48.1.2.2.1.n x48.1.2.2.1.c), (.slice x48.1.2.2.2.1.a x48.1.2.2.2.1.n x48.1.2.2.2.1.c)] fun h10 =>
  cond (x48.2.1 != ((0 : Int)))
  (Wk h10 fun h11 => R (.bool false) h11)
  (New h10 (.cells #[] 69) fun r53 h12 =>
  New h12 (.cells #[(.slice none 0 0)] 67) fun r9 h13 =>
  StL h13 (⟨r9, 0, none⟩) 0 [(.slice ((some ⟨r53, 0, none⟩)) 0 0)] fun h14 =>
  Ld h14 (Addr.add (⟨r2, 0, none⟩) 1) .sl fun (x55 : Sl) =>
  Lp (σ := (Int × Unit)) (fun K_1 s_2 h15 =>
  cond (decide (s_2.1 < (((x55.n : Nat) : Int))))
  (Ix x55 s_2.1 2 fun a60 =>
  LdA h15 a60 [.str, .sl] fun (x61 : ((ByteArray) × (Sl) × Unit)) =>
  New h15 (.cells #[(.int .i64 ((0 : Int)))] 3) fun r10 h16 =>
  New h16 (.cells #[(.string (⟨#[]⟩)), (.slice none 0 0)] 46) fun r11 h17 =>
  StL h17 (⟨r10, 0, none⟩) 0 [(.int .i64 s_2.1)] fun h18 =>
  StL h18 (⟨r11, 0, none⟩) 0 [(.string x61.1), (.slice x61.2.1.a x61.2.1.n x61.2.1.c)] fun h19 =>
  Ld h19 (Addr.add (⟨r11, 0, none⟩) 1) .sl fun (x63 : Sl) =>
  Lp (σ := (Int × Unit)) (fun K_2 s_3 h20 =>
  cond (decide (s_3.1 < (((x63.n : Nat) : Int))))
  (Ix x63 s_3.1 6 fun a68 =>
  LdA h20 a68 [.sl, .sl, (.int .i64), (.int .i64), .sl, (.int .i64)] fun (x69 : ((Sl) × (Sl) × (Int) × (Int) × (Sl) × (Int) × Unit)) =>
  New h20 (.cells #[(.int .i64 ((0 : Int)))] 3) fun r12 h21 =>
  New h21 (.cells #[(.slice none 0 0), (.slice none 0 0), (.int .i64 ((0 : Int))), (.int .i64 ((0 : Int))), (.slice none 0 0), (.int .i64 ((0 : Int)))] 55) fun r13 h22 =>
  StL h22 (⟨r12, 0, none⟩) 0 [(.int .i64 s_3.1)] fun h23 =>
  StL h23 (⟨r13, 0, none⟩) 0 [(.slice x69.1.a x69.1.n x69.1.c), (.slice x69.2.1.a x69.2.1.n x69.2.1.c), (.int .i64 x69.2.2.1), (.int .i64 x69.2.2.2.1), (.slice x69.2.2.2.2.1.a x69.2.2.2.2.1.n x69.2.2.2.2.1.c), (.int .i64 x69.2.2.2.2.2.1)] fun h24 =>
  Ld h24 (Addr.add (⟨r13, 0, none⟩) 1) .sl fun (x72 : Sl) =>
  Lp (σ := (Int × Unit)) (fun K_3 s_4 h25 =>
  cond (decide (s_4.1 < (((x72.n : Nat) : Int))))
  (Ix x72 s_4.1 7 fun a77 =>
  LdA h25 a77 [(.int .i64), (.int .i64), .sl, (.int .i64), (.int .i64), (.int .i64), (.int .i64)] fun (x78 : ((Int) × (Int) × (Sl) × (Int) × (Int) × (Int) × (Int) × Unit)) =>
  New h25 (.cells #[(.int .i64 ((0 : Int))), (.int .i64 ((0 : Int))), (.slice none 0 0), (.int .i64 ((0 : Int))), (.int .i64 ((0 : Int))), (.int .i64 ((0 : Int))), (.int .i64 ((0 : Int)))] 60) fun r16 h26 =>
  StL h26 (⟨r16, 0, none⟩) 0 [(.int .i64 x78.1), (.int .i64 x78.2.1), (.slice x78.2.2.1.a x78.2.2.1.n x78.2.2.1.c), (.int .i64 x78.2.2.2.1), (.int .i64 x78.2.2.2.2.1), (.int .i64 x78.2.2.2.2.2.1), (.int .i64 x78.2.2.2.2.2.2.1)] fun h27 =>
  LdA h27 (⟨r16, 0, none⟩) [(.int .i64), (.int .i64), .sl, (.int .i64), (.int .i64), (.int .i64), (.int .i64)] fun (x79 : ((Int) × (Int) × (Sl) × (Int) × (Int) × (Int) × (Int) × Unit)) =>
  CallK Try.prog 16 [(.agg ⟨[(.int .i64 x79.1), (.int .i64 x79.2.1), (.slice x79.2.2.1.a x79.2.2.1.n x79.2.2.1.c), (.int .i64 x79.2.2.2.1), (.int .i64 x79.2.2.2.2.1), (.int .i64 x79.2.2.2.2.2.1), (.int .i64 x79.2.2.2.2.2.2.1)]⟩)] h27 (.un (.one .sl)) fun (x80 : Sl) h28 =>
  Cut (σ := (Bool × Unit)) (fun s_5 h29 =>
  cond s_5.1
  (Cut (σ := (Unit)) (fun _ h30 =>
  Ld h30 (Addr.add (⟨r16, 0, none⟩) 2) .sl fun (x106 : Sl) =>
  Ix x106 ((0 : Int)) 1 fun a107 =>
  Ld h30 a107 (.int .i64) fun (x108 : Int) =>
  CallV Try.prog (.func (.func 15) ⟨[]⟩ ⟨[(.pointer (some (⟨r7, 0, none⟩))), (.pointer (some (⟨r10, 0, none⟩))), (.pointer (some (⟨r9, 0, none⟩))), (.pointer (some (⟨r12, 0, none⟩)))]⟩) [(.int .i64 s_4.1), (.int .i64 x108)] h30 (.tup []) fun (_ : (Unit)) h31 =>
  Wk h31 fun h32 => K_3 (IntKind.wrap .i64 (s_4.1 + ((1 : Int))), ()) h32) fun J_2 =>
  cond ((((x80.n : Nat) : Int)) != ((1 : Int)))
  (Wk h29 fun h33 => R (.bool false) h33)
  (Ix x80 ((0 : Int)) 1 fun a95 =>
  Ld h29 a95 (.int .i64) fun (x96 : Int) =>
  Ld h29 (Addr.add (⟨r16, 0, none⟩) 2) .sl fun (x98 : Sl) =>
  Ix x98 ((0 : Int)) 1 fun a99 =>
  Ld h29 a99 (.int .i64) fun (x100 : Int) =>
  cond (x96 != x100)
  (Wk h29 fun h34 => R (.bool false) h34)
  (Wk h29 fun h35 => J_2 (()) h35)))
  (Cut (σ := (Bool × Unit)) (fun s_7 h36 =>
  cond s_7.1
  (Cut (σ := (Unit)) (fun _ h37 =>
  Ld h37 (Addr.add (⟨r16, 0, none⟩) 2) .sl fun (x150 : Sl) =>
  Ix x150 ((0 : Int)) 1 fun a151 =>
  Ld h37 a151 (.int .i64) fun (x152 : Int) =>
  CallV Try.prog (.func (.func 15) ⟨[]⟩ ⟨[(.pointer (some (⟨r7, 0, none⟩))), (.pointer (some (⟨r10, 0, none⟩))), (.pointer (some (⟨r9, 0, none⟩))), (.pointer (some (⟨r12, 0, none⟩)))]⟩) [(.int .i64 s_4.1), (.int .i64 x152)] h37 (.tup []) fun (_ : (Unit)) h38 =>
  Ld h38 (Addr.add (⟨r16, 0, none⟩) 2) .sl fun (x157 : Sl) =>
  Ix x157 ((1 : Int)) 1 fun a158 =>
  Ld h38 a158 (.int .i64) fun (x159 : Int) =>
  CallV Try.prog (.func (.func 15) ⟨[]⟩ ⟨[(.pointer (some (⟨r7, 0, none⟩))), (.pointer (some (⟨r10, 0, none⟩))), (.pointer (some (⟨r9, 0, none⟩))), (.pointer (some (⟨r12, 0, none⟩)))]⟩) [(.int .i64 s_4.1), (.int .i64 x159)] h38 (.tup []) fun (_ : (Unit)) h39 =>
  Wk h39 fun h40 => K_3 (IntKind.wrap .i64 (s_4.1 + ((1 : Int))), ()) h40) fun J_4 =>
  cond ((((x80.n : Nat) : Int)) != ((2 : Int)))
  (Wk h36 fun h41 => R (.bool false) h41)
  (Ix x80 ((0 : Int)) 1 fun a129 =>
  Ld h36 a129 (.int .i64) fun (x130 : Int) =>
  Ld h36 (Addr.add (⟨r16, 0, none⟩) 2) .sl fun (x132 : Sl) =>
  Ix x132 ((0 : Int)) 1 fun a133 =>
  Ld h36 a133 (.int .i64) fun (x134 : Int) =>
  cond (x130 != x134)
  (Wk h36 fun h42 => R (.bool false) h42)
  (Ix x80 ((1 : Int)) 1 fun a139 =>
  Ld h36 a139 (.int .i64) fun (x140 : Int) =>
  Ld h36 (Addr.add (⟨r16, 0, none⟩) 2) .sl fun (x142 : Sl) =>
  Ix x142 ((1 : Int)) 1 fun a143 =>
  Ld h36 a143 (.int .i64) fun (x144 : Int) =>
  cond (x140 != x144)
  (Wk h36 fun h43 => R (.bool false) h43)
  (Wk h36 fun h44 => J_4 (()) h44))))
  (cond ((((x80.n : Nat) : Int)) != ((0 : Int)))
  (Wk h36 fun h45 => R (.bool false) h45)
  (Wk h36 fun h46 => K_3 (IntKind.wrap .i64 (s_4.1 + ((1 : Int))), ()) h46))) fun J_3 =>
  Ld h29 (Addr.add (⟨r16, 0, none⟩) 0) (.int .i64) fun (x112 : Int) =>
  cond (x112 == ((2 : Int)))
  (Ld h29 (Addr.add (⟨r16, 0, none⟩) 4) (.int .i64) fun (x116 : Int) =>
  cond (x116 == ((4 : Int)))
  (Wk h29 fun h47 => J_3 (true, ()) h47)
  (Ld h29 (Addr.add (⟨r16, 0, none⟩) 4) (.int .i64) fun (x120 : Int) =>
  Wk h29 fun h48 => J_3 (x120 == ((5 : Int)), ()) h48))
  (Wk h29 fun h49 => J_3 (false, ()) h49))) fun J_1 =>
  Ld h28 (Addr.add (⟨r16, 0, none⟩) 0) (.int .i64) fun (x83 : Int) =>
  cond (x83 == ((5 : Int)))
  (Wk h28 fun h50 => J_1 (true, ()) h50)
  (Ld h28 (Addr.add (⟨r16, 0, none⟩) 0) (.int .i64) fun (x87 : Int) =>
  Wk h28 fun h51 => J_1 (x87 == ((6 : Int)), ()) h51))
  (Ld h25 (Addr.add (Addr.add (⟨r13, 0, none⟩) 2) 0) (.int .i64) fun (x168 : Int) =>
  cond (x168 == ((2 : Int)))
  (Ld h25 (Addr.add (⟨r13, 0, none⟩) 1) .sl fun (x172 : Sl) =>
  Ld h25 (Addr.add (Addr.add (⟨r13, 0, none⟩) 2) 1) (.int .i64) fun (x176 : Int) =>
  CallV Try.prog (.func (.func 15) ⟨[]⟩ ⟨[(.pointer (some (⟨r7, 0, none⟩))), (.pointer (some (⟨r10, 0, none⟩))), (.pointer (some (⟨r9, 0, none⟩))), (.pointer (some (⟨r12, 0, none⟩)))]⟩) [(.int .i64 (((x172.n : Nat) : Int))), (.int .i64 x176)] h25 (.tup []) fun (_ : (Unit)) h52 =>
  Wk h52 fun h53 => K_2 (IntKind.wrap .i64 (s_3.1 + ((1 : Int))), ()) h53)
  (Wk h25 fun h54 => K_2 (IntKind.wrap .i64 (s_3.1 + ((1 : Int))), ()) h54)))
  ((0 : Int), ()) h24)
  (Wk h20 fun h55 => K_1 (IntKind.wrap .i64 (s_2.1 + ((1 : Int))), ()) h55))
  ((0 : Int), ()) h19)
  (LdA h15 (⟨r2, 0, none⟩) [.sl, .sl, (.int .i64)] fun (x180 : ((Sl) × (Sl) × (Int) × Unit)) =>
  LdA h15 (⟨r7, 0, none⟩) [.sl, .sl, .sl, .sl] fun (x181 : ((Sl) × (Sl) × (Sl) × (Sl) × Unit)) =>
  CallK Try.prog 17 [(.agg ⟨[(.slice x180.1.a x180.1.n x180.1.c), (.slice x180.2.1.a x180.2.1.n x180.2.1.c), (.int .i64 x180.2.2.1)]⟩), (.agg ⟨[(.slice x181.1.a x181.1.n x181.1.c), (.slice x181.2.1.a x181.2.1.n x181.2.1.c), (.slice x181.2.2.1.a x181.2.2.1.n x181.2.2.1.c), (.slice x181.2.2.2.1.a x181.2.2.2.1.n x181.2.2.2.1.c)]⟩)] h15 (.un (.one .sl)) fun (x182 : Sl) h56 =>
  Ld h56 (⟨r9, 0, none⟩) .sl fun (x185 : Sl) =>
  cond ((((x182.n : Nat) : Int)) != (((x185.n : Nat) : Int)))
  (Wk h56 fun h57 => R (.bool false) h57)
  (Lp (σ := (Int × Unit)) (fun K_4 s_9 h58 =>
  cond (decide (s_9.1 < (((x182.n : Nat) : Int))))
  (Ix x182 s_9.1 5 fun a195 =>
  LdA h58 a195 [(.int .i64), (.int .i64), (.int .i64), (.int .i64), (.int .i64)] fun (x196 : ((Int) × (Int) × (Int) × (Int) × (Int) × Unit)) =>
  Ld h58 (⟨r9, 0, none⟩) .sl fun (x197 : Sl) =>
  Ix x197 s_9.1 5 fun a199 =>
  LdA h58 a199 [(.int .i64), (.int .i64), (.int .i64), (.int .i64), (.int .i64)] fun (x200 : ((Int) × (Int) × (Int) × (Int) × (Int) × Unit)) =>
  cond (!((x196.1 == x200.1) && ((x196.2.1 == x200.2.1) && ((x196.2.2.1 == x200.2.2.1) && ((x196.2.2.2.1 == x200.2.2.2.1) && ((x196.2.2.2.2.1 == x200.2.2.2.2.1) && (true)))))))
  (Wk h58 fun h59 => R (.bool false) h59)
  (Wk h58 fun h60 => K_4 (IntKind.wrap .i64 (s_9.1 + ((1 : Int))), ()) h60))
  (Wk h58 fun h61 => R (.bool true) h61))
  ((0 : Int), ()) h56)))
  ((0 : Int), ()) h14)))
  ((0 : Int), ()) h4) fun J =>
  LdA h2 (⟨r2, 0, none⟩) [.sl, .sl, (.int .i64)] fun (x22 : ((Sl) × (Sl) × (Int) × Unit)) =>
  CallK Try.prog 8 [(.agg ⟨[(.slice x22.1.a x22.1.n x22.1.c), (.slice x22.2.1.a x22.2.1.n x22.2.1.c), (.int .i64 x22.2.2.1)]⟩)] h2 (.un (.one .bool)) fun (x23 : Bool) h62 =>
  cond (!x23)
  (Wk h62 fun h63 => R (.bool true) h63)
  (LdA h62 (⟨r2, 0, none⟩) [.sl, .sl, (.int .i64)] fun (x26 : ((Sl) × (Sl) × (Int) × Unit)) =>
  CallK Try.prog 10 [(.agg ⟨[(.slice x26.1.a x26.1.n x26.1.c), (.slice x26.2.1.a x26.2.1.n x26.2.1.c), (.int .i64 x26.2.2.1)]⟩)] h62 (.un (.one (.int .i64))) fun (x27 : Int) h64 =>
  cond (x27 != ((0 : Int)))
  (Wk h64 fun h65 => R (.bool true) h65)
  (cond (decide ((((p1.n : Nat) : Int)) > ((6 : Int))))
  (Wk h64 fun h66 => R (.bool true) h66)
  (Wk h64 fun h67 => J (()) h67))))
theorem S6_eq (p0_0 : Sl) (p0_1 : Sl) (p0_2 : Int) (p1 : Sl) (h : V) (R : Value → V → Prop) : ABody Try.prog an6 Try.f6 [(.agg ⟨[(.slice p0_0.a p0_0.n p0_0.c), (.slice p0_1.a p0_1.n p0_1.c), (.int .i64 p0_2)]⟩), (.slice p1.a p1.n p1.c)] h R = S6 p0_0 p0_1 p0_2 p1 h R := by kernel_rfl
theorem S6_ok (p0_0 : Sl) (p0_1 : Sl) (p0_2 : Int) (p1 : Sl) (h : V) (R : Value → V → Prop) (hk : S6 p0_0 p0_1 p0_2 p1 h R) : ACalls Try.prog 6 [(.agg ⟨[(.slice p0_0.a p0_0.n p0_0.c), (.slice p0_1.a p0_1.n p0_1.c), (.int .i64 p0_2)]⟩), (.slice p1.a p1.n p1.c)] h R :=
  ABody_sound mixed Try.func6 Try.call6 (by kernel_rfl) (by kernel_rfl) (an := an6) (by rw [S6_eq]; exact hk)

end Go.Proofs.Ytaefmhephoilmaa

/- Contracts of package taint: what becomes known, where: Known, Sinks, and what the law notes. -/
namespace Go.Proofs.Ytaefmhephoilmaa
open Go Go.VL

structure SinkD where
  fn : Int
  block : Int
  pos : Int
  val : Int
  label : Int
def encS (x : SinkD) : List Value := [iV x.fn, iV x.block, iV x.pos, iV x.val, iV x.label]
theorem encS_len (x : SinkD) : (encS x).length = 5 := rfl
def knownD (i : InsD) : List Int := if (i.op = 5 ∨ i.op = 6) ∧ 0 < i.args.length then i.args.take 1 else if i.op = 2 ∧ (i.bin = 4 ∨ i.bin = 5) then i.args else []
theorem knownD_len (i : InsD) : (knownD i).length ≤ i.args.length := by
  unfold knownD
  split
  · rw [List.length_take]; omega
  · split
    · exact Nat.le_refl _
    · simp
def sinkV (L : LabF) (f : Nat) (n pos v : Int) : List SinkD := if L (.val f v) = 0 then [] else [⟨f, n, pos, v, L (.val f v)⟩]
def sinkI (L : LabF) (f : Nat) (n pos : Int) (i : InsD) : List SinkD := (knownD i).flatMap (sinkV L f n pos)
def atD {α β : Type} (l : List α) (g : Nat → α → List β) (k : Nat) : List β := match l[k]? with | some x => g k x | none => []
theorem atD_some {α β : Type} {l : List α} {g : Nat → α → List β} {k : Nat} (hk : k < l.length) : atD l g k = g k l[k] := by unfold atD; rw [List.getElem?_eq_getElem hk]
def allD {α β : Type} (l : List α) (g : Nat → α → List β) (n : Nat) : List β := (List.range n).flatMap (atD l g)
theorem allD_zero {α β : Type} (l : List α) (g : Nat → α → List β) : allD l g 0 = [] := rfl
theorem allD_succ {α β : Type} {l : List α} {g : Nat → α → List β} {k : Nat} (hk : k < l.length) : allD l g (k + 1) = allD l g k ++ g k l[k] := by
  unfold allD; rw [List.range_succ, List.flatMap_append, List.flatMap_singleton, atD_some hk]
theorem allD_len {α β : Type} {l : List α} {g : Nat → α → List β} {m : Nat} (hg : ∀ k x, x ∈ l → (g k x).length ≤ m) : ∀ n, n ≤ l.length → (allD l g n).length ≤ n * m
  | 0, _ => by simp [allD_zero]
  | n + 1, h => by
    rw [allD_succ (by omega), List.length_append, Nat.add_mul]
    have := allD_len hg n (by omega)
    have := hg n _ (List.getElem_mem (show n < l.length by omega))
    omega
def sinkIs (L : LabF) (f : Nat) (n : Int) (b : BlockD) : Nat → List SinkD := allD b.ins fun k i => sinkI L f n k i
def sinkB (L : LabF) (f : Nat) (n : Int) (b : BlockD) : List SinkD := sinkIs L f n b b.ins.length ++ (if b.e.kind = 2 then sinkV L f n b.ins.length b.e.val else [])
def sinkF (L : LabF) (f : Nat) (bs : List BlockD) : Nat → List SinkD := allD bs fun n b => sinkB L f n b
def sinkP (L : LabF) (p : ProgD) : Nat → List SinkD := allD p.funcs fun f x => sinkF L f x.blocks x.blocks.length
theorem sinkV_len (L : LabF) (f : Nat) (n pos v : Int) : (sinkV L f n pos v).length ≤ 1 := by unfold sinkV; split <;> simp
theorem flat_le {α β : Type} {g : α → List β} {m : Nat} : ∀ (l : List α), (∀ x, (g x).length ≤ m) → (l.flatMap g).length ≤ l.length * m
  | [], _ => by simp
  | x :: l, h => by
    rw [List.flatMap_cons, List.length_append, List.length_cons, Nat.add_mul]
    have := h x
    have := flat_le l h
    omega
theorem sinkI_len (L : LabF) (f : Nat) (n pos : Int) (i : InsD) (hi : i.args.length ≤ 20) : (sinkI L f n pos i).length ≤ 20 := by
  have h1 := flat_le (knownD i) (sinkV_len L f n pos)
  have h2 := knownD_len i
  unfold sinkI
  omega
theorem sinkIs_len (L : LabF) (f : Nat) (n : Int) {b : BlockD} (hb : FewBlock b) {k : Nat} (hk : k ≤ b.ins.length) : (sinkIs L f n b k).length ≤ 800 := by
  have := allD_len (g := fun k i => sinkI L f n k i) (m := 20) (l := b.ins) (fun k x hx => sinkI_len L f n k x (hb.args x hx)) k hk
  have := hb.ins
  unfold sinkIs
  omega
theorem sinkB_len (L : LabF) (f : Nat) (n : Int) {b : BlockD} (hb : FewBlock b) : (sinkB L f n b).length ≤ 801 := by
  have h1 := sinkIs_len L f n hb (Nat.le_refl _)
  have h2 := sinkV_len L f n b.ins.length b.e.val
  unfold sinkB
  rw [List.length_append]
  split
  · omega
  · simp only [List.length_nil]; omega
theorem sinkF_len (L : LabF) (f : Nat) {x : FuncD} (hx : FewFunc x) {k : Nat} (hk : k ≤ x.blocks.length) : (sinkF L f x.blocks k).length ≤ 24030 := by
  have := allD_len (g := fun n b => sinkB L f n b) (m := 801) (l := x.blocks) (fun k b hb => sinkB_len L f k (hx.all b hb)) k hk
  have := hx.blocks
  unfold sinkF
  omega
theorem sinkP_len (L : LabF) {p : ProgD} (few : FewOk p) {k : Nat} (hk : k ≤ p.funcs.length) : (sinkP L p k).length ≤ 120150 := by
  have := allD_len (g := fun f (x : FuncD) => sinkF L f x.blocks x.blocks.length) (m := 24030) (l := p.funcs) (fun k x hx => sinkF_len L k (few.all x hx) (Nat.le_refl _)) k hk
  have := few.funcs
  unfold sinkP
  omega

theorem c_Divides {h : V} {b : Int} {R : Value → V → Prop} (hR : R (.bool (decide (b = 4 ∨ b = 5))) h) : ACalls Try.prog 34 [iV b] h R := by
  refine S34_ok _ _ _ (cond_eqi (fun e => Wk_self ?_) (fun e => Wk_self ?_))
  · have e : b = 4 := e
    simpa [e] using hR
  · have e : ¬ b = 4 := e
    have : (b == 5) = decide (b = 4 ∨ b = 5) := by simp [e]; rfl
    rw [this]; exact hR
theorem c_KnownI {hB h : V} {i : InsD} {q : Sl} {R : Value → V → Prop} (lB : Le hB h) (hq : isInts hB q i.args) (hb : i.args.length ≤ 1048576)
    (hR : ∀ s' h', Le h h' → (isInts hB s' (knownD i) ∨ OwnS h h' s' 3 1 ((knownD i).map (Value.int .i64))) → R (sV s') h') : ACalls Try.prog 16 [.agg ⟨insV i q⟩] h R := by
  refine S16_ok _ _ _ _ _ _ _ _ _ (New_box fun r1 h1 hr1 l1 b1 => ?_)
  have hq1 := hq.le mono_int (lB.trans l1)
  have hn := hq.len
  refine Cut_i (fun s hh => h1 = hh ∧ s.1 = decide ((i.op = 5 ∨ i.op = 6) ∧ 0 < i.args.length)) (fun J hJ => ?_) ?_
  · refine ⟨_, b1.cell rfl, cond_eqi (fun e => ⟨q, b1.cell rfl, Wk_self (hJ _ _ ⟨rfl, ?_⟩)⟩) (fun e => ⟨_, b1.cell rfl, cond_eqi (fun e2 => ⟨q, b1.cell rfl, Wk_self (hJ _ _ ⟨rfl, ?_⟩)⟩) (fun e2 => Wk_self (hJ _ _ ⟨rfl, ?_⟩))⟩)⟩
    · have e : i.op = 5 := e
      simp [e, hn]
    · have e2 : i.op = 6 := e2
      simp [e2, hn]
    · have e : ¬ i.op = 5 := e
      have e2 : ¬ i.op = 6 := e2
      simp [e, e2]
  · rintro ⟨c, u⟩ _ ⟨rfl, hc⟩
    have hc : c = _ := hc
    subst hc
    refine cond_dec (fun e => ?_) (fun e => ?_)
    · have hk : knownD i = i.args.take 1 := by unfold knownD; rw [if_pos e]
      obtain ⟨x, l, hxl⟩ : ∃ x l, i.args = x :: l := by
        cases hx : i.args with
        | nil => rw [hx] at e; simp at e
        | cons x l => exact ⟨x, l, rfl⟩
      rw [hxl] at hk hq
      refine ⟨q, b1.cell rfl, Slc_one hq fun s' hs' => Wk_self (hR s' _ l1 (.inl (by rw [hk]; exact hs')))⟩
    · refine ⟨_, b1.cell rfl, cond_eqi (fun e2 => ⟨_, b1.cell rfl, c_Divides ⟨_, rfl, cond_dec (fun e3 => ⟨q, b1.cell rfl, ?_⟩) (fun e3 => Wk_self (hR ⟨none, 0, 0⟩ _ l1 (.inl ?_)))⟩⟩) (fun e2 => Wk_self (hR ⟨none, 0, 0⟩ _ l1 (.inl ?_)))⟩
      · have e2 : i.op = 2 := e2
        have hk : knownD i = i.args := by unfold knownD; rw [if_neg e, if_pos ⟨e2, e3⟩]
        obtain ⟨hc2, h0⟩ := isSl_cells (enc := Value.int .i64) (fun _ _ _ h => h) hq1
        refine App_own l1 (OwnS_nil h h1 3 1) hc2 h0 (ints_one i.args) rfl (by omega) (by show (0 + q.n) * 8 ≤ _; rw [hn]; omega) fun s' h' l' o' _ f _ => Wk_self (hR s' h' l' (.inr ?_))
        rw [hk]
        simpa using o'
      · have : knownD i = [] := by unfold knownD; rw [if_neg e, if_neg (fun x => e3 x.2)]
        rw [this]; exact isSl_nil _ _ _
      · have e2 : ¬ i.op = 2 := e2
        have : knownD i = [] := by unfold knownD; rw [if_neg e, if_neg (fun x => e2 x.1)]
        rw [this]; exact isSl_nil _ _ _

/- sinks that are laid together: a variable that holds them, in memory of its own -/
structure WantS (hB hh : V) (r9 : Nat) (l : List SinkD) : Prop where
  le : Le hB hh
  nil : hB r9 = none
  ex : ∃ s, Box hh r9 [sV s] 67 ∧ OwnS hB hh s 69 5 (l.flatMap encS)
theorem WantS.grow {hB hB' hh h' : V} {r9 : Nat} {l : List SinkD} (w : WantS hB hh r9 l) (hl : Le hh h') (hl' : Le hB' h') (hn : ∀ b, hB' b ≠ none → hB b ≠ none ∨ hh b = none) : WantS hB' h' r9 l := by
  obtain ⟨s, h1, h2⟩ := w.ex
  have out : ∀ b o, hB b = none → hh b = some o → hB' b = none := fun b o e1 e2 => by
    cases hx : hB' b with
    | none => rfl
    | some x =>
      rcases hn b (by rw [hx]; simp) with e | e
      · exact absurd e1 e
      · rw [e2] at e; cases e
  exact ⟨hl', out _ _ w.nil h1, s, h1.le hl, OwnS.rebaseN (h2.le hl) fun a ha => let ⟨e1, arr, e2⟩ := h2.blk ha; out _ _ e1 e2⟩
theorem WantS.up {hB hh h' : V} {r9 : Nat} {l : List SinkD} (w : WantS hB hh r9 l) (hl : Le hh h') : WantS hB h' r9 l := w.grow hl (w.le.trans hl) fun _ h => .inl h
theorem WantS.less {hB hB' hh : V} {r9 : Nat} {l : List SinkD} (w : WantS hB hh r9 l) (hl : Le hB' hB) : WantS hB' hh r9 l := w.grow (Le.refl _) (hl.trans w.le) fun b h => .inl (by
    cases hx : hB' b with
    | none => exact absurd hx h
    | some x => rw [hl _ _ hx]; simp)
theorem WantS.box2 {hB hh h' : V} {r9 r1 r2 : Nat} {o1 o2 : Obj} {l : List SinkD} (w : WantS hB hh r9 l) (hl : Le hh h') (n1 : hh r1 = none) (b1 : h' r1 = some o1) (n2 : hh r2 = none) (b2 : h' r2 = some o2) :
    ∃ hB', Le hB hB' ∧ WantS hB' h' r9 l ∧ hB' r1 = some o1 ∧ hB' r2 = some o2 := by
  refine ⟨(hB.upd r1 o1).upd r2 o2, fun b o hb => ?_, w.grow hl (fun b o hb => ?_) (fun b hb => ?_), ?_, upd_self _ _ _⟩
  · rw [upd_ne (fun e => by rw [e] at hb; have := w.le _ _ hb; rw [n2] at this; cases this), upd_ne (fun e => by rw [e] at hb; have := w.le _ _ hb; rw [n1] at this; cases this)]; exact hb
  · by_cases e : b = r2
    · subst e; rw [upd_self] at hb; cases hb; exact b2
    · rw [upd_ne e] at hb
      by_cases e1 : b = r1
      · subst e1; rw [upd_self] at hb; cases hb; exact b1
      · rw [upd_ne e1] at hb; exact hl _ _ (w.le _ _ hb)
  · by_cases e : b = r2
    · subst e; exact .inr n2
    · by_cases e1 : b = r1
      · subst e1; exact .inr n1
      · rw [upd_ne e, upd_ne e1] at hb; exact .inl hb
  · by_cases e : r1 = r2
    · subst e; rw [upd_self, ← b1, b2]
    · rw [upd_ne e, upd_self]
theorem WantS.box1 {hB hh h' : V} {r9 r1 : Nat} {o1 : Obj} {l : List SinkD} (w : WantS hB hh r9 l) (hl : Le hh h') (n1 : hh r1 = none) (b1 : h' r1 = some o1) :
    ∃ hB', Le hB hB' ∧ WantS hB' h' r9 l ∧ hB' r1 = some o1 := let ⟨hB', a, b, c, _⟩ := w.box2 hl n1 b1 n1 b1; ⟨hB', a, b, c⟩
theorem encS_one (x : SinkD) : (encS x).all oneCell = true := rfl
abbrev isVals := isSl repVals 1
def valsL (p : ProgD) (L : LabF) : List (Int → Int) := (List.range p.funcs.length).map fun f v => L (.val f v)
theorem Box_put {hB hh : V} {r : Nat} {s s' : Sl} {T : TypeId} {K : V → Prop} (l : Le hB hh) (n : hB r = none) (b : Box hh r [sV s] T) (hk : ∀ h', Le hB h' → Box h' r [sV s'] T → (∀ b, b ≠ r → h' b = hh b) → K h') : StL hh ⟨r, 0, none⟩ 0 [sV s'] K :=
  StL_box b rfl l n hk
theorem c_note {hB hh : V} {p : ProgD} {L : LabF} {r7 r9 r10 r12 k : Nat} {n pos v : Int} {vs ar rs cs : Sl} {l : List SinkD} {R : Value → V → Prop} (w : WantS hB hh r9 l) (b7 : Box hB r7 [sV vs, sV ar, sV rs, sV cs] 33) (hv : isVals hB vs (valsL p L)) (hk : k < p.funcs.length)
    (b10 : Box hB r10 [iV k] 3) (b12 : Box hB r12 [iV n] 3) (hpos : 0 ≤ L (.val k v)) (hb : (l.length + 1) * 40 ≤ 140737488355328) (hR : ∀ h', WantS hB h' r9 (l ++ sinkV L k n pos v) → R (.tuple ⟨[]⟩) h') :
    ACalls Try.prog 15 [iV pos, iV v, .pointer (some ⟨r7, 0, none⟩), .pointer (some ⟨r10, 0, none⟩), .pointer (some ⟨r9, 0, none⟩), .pointer (some ⟨r12, 0, none⟩)] hh R := by
  have b7' := b7.le w.le
  have b10' := b10.le w.le
  have b12' := b12.le w.le
  have hk' : k < (valsL p L).length := by simpa [valsL] using hk
  have hat : (valsL p L)[k]'hk' = fun v => L (.val k v) := by simp [valsL]
  have look : ∀ {K : Int → Bool → Prop}, (∀ b, K (L (.val k v)) b) → Ix vs (k : Int) 1 fun a => Ld hh a .mp fun q => Look hh q (.int .i64) (.int .i64 v) (.one (.int .i64)) 0 K := fun {K} hK => by
    refine (hv.le mono_vals w.le).ixn hk' fun a ⟨q, o, m, h1, h2, h3, h4⟩ => ⟨some q, h1, Look_map h2 h3 ?_⟩
    rw [h4, hat]; exact hK _
  refine S15_ok _ _ _ _ _ _ _ _ ⟨vs, b7'.cell rfl, _, b10'.cell0, look fun _ => cond_dec (fun g => ?_) (fun g => Wk_self (hR hh ?_))⟩
  · have g : L (.val k v) > 0 := g
    obtain ⟨s, b9, o9⟩ := w.ex
    refine ⟨s, b9.cell0, _, b10'.cell0, _, b12'.cell0, vs, b7'.cell rfl, _, b10'.cell0, look fun _ => New_box fun r29 h1 hr29 l1 b29 => ?_⟩
    refine App_enc (enc := encS) (x := ⟨k, n, pos, v, L (.val k v)⟩) encS_len (by omega) (w.le.trans l1) (o9.le l1) b29 rfl rfl (by omega) hb fun s' h2 l2 o2 n2 f2 d2 => ?_
    have b9' : Box h2 r9 [sV s] 67 := by
      have := b9.le l1
      unfold Box
      rw [f2 r9 (fun a ha e => ?_) (by unfold Box at this; rw [this]; simp)]
      · exact this
      · obtain ⟨_, arr, e2⟩ := o9.blk ha
        unfold Box at b9
        rw [← e, b9] at e2; cases e2
    refine Box_put l2 w.nil b9' fun h3 l3 b3 f3 => Wk_self (hR h3 ⟨l3, w.nil, s', b3, ?_⟩)
    have e : sinkV L k n pos v = [⟨k, n, pos, v, L (.val k v)⟩] := by unfold sinkV; rw [if_neg (by omega)]
    rw [e]
    refine o2.frame fun a ob ha hob => (f3 _ fun e => ?_).trans hob
    rw [e] at hob
    unfold Box at b9'
    rw [b9'] at hob; cases hob
    obtain ⟨_, arr, e2⟩ := o2.blk ha
    rw [e, b9'] at e2; cases e2
  · have g : ¬ L (.val k v) > 0 := g
    have e : sinkV L k n pos v = [] := by unfold sinkV; rw [if_pos (by omega)]
    rw [e, List.append_nil]; exact w
end Go.Proofs.Ytaefmhephoilmaa
