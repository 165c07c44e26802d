/- Contracts of package taint: Writes. -/
import Derived.Test.YtaefmhephoilmaaZTaintPlain3
import Derived.Test.YtaefmhephoilmaaProg
import Derived.KernelRfl
namespace Go.Proofs.Ytaefmhephoilmaa
open Go Go.VL

def outOf (n : Nat) (l : List InsD) : List Bool := (List.range n).map fun (k : Nat) => l.any fun i => decide (i.op = 4 ∧ i.arr = (k : Int))
def anyS (l : List InsD) : Bool := l.any fun i => decide (i.op = 6)
def insOfF (f : FuncD) : List InsD := f.blocks.flatMap BlockD.ins
def insOfP (p : ProgD) : List InsD := p.funcs.flatMap insOfF
def writesD (p : ProgD) : List Bool := (outOf p.arrays.length (insOfP p)).map (· || anyS (insOfP p))
theorem outOf_len (n : Nat) (l : List InsD) : (outOf n l).length = n := by simp [outOf]
theorem outOf_one {n : Nat} {l : List InsD} {i : InsD} : outOf n (l ++ [i]) = if i.op = 4 ∧ 0 ≤ i.arr ∧ i.arr.toNat < n then (outOf n l).set i.arr.toNat true else outOf n l := by
  apply List.ext_getElem?
  intro k
  have e1 : ∀ l, (outOf n l)[k]? = if k < n then some (l.any fun i => decide (i.op = 4 ∧ i.arr = (k : Int))) else none := by
    intro l
    unfold outOf
    rw [List.getElem?_map]
    by_cases h : k < n
    · rw [if_pos h, List.getElem?_range h]; rfl
    · rw [if_neg h, List.getElem?_eq_none (by simpa using h)]; rfl
  split
  · rename_i h
    rw [List.getElem?_set, e1, e1]
    by_cases e : i.arr.toNat = k
    · rw [if_pos e]
      have hk : k < n := by omega
      have : i.arr = (k : Int) := by omega
      simp [outOf_len, hk, h.1, this]
    · rw [if_neg e]
      have : ¬ i.arr = (k : Int) := by omega
      simp [this]
  · rename_i h
    rw [e1, e1]
    split
    · rename_i hk
      have : ¬ (i.op = 4 ∧ i.arr = (k : Int)) := fun x => h ⟨x.1, by omega, by omega⟩
      simp [this]
    · rfl
theorem anyS_one {l : List InsD} {i : InsD} : anyS (l ++ [i]) = (anyS l || decide (i.op = 6)) := by simp [anyS]

theorem c_Writes {h : V} {p : ProgD} {sa sf : Sl} {R : Value → V → Prop} (ha : isArrs h sa p.arrays) (hf : isFuncs h sf p.funcs) (hfew : p.arrays.length ≤ 1048576)
    (hR : ∀ s' h', Le h h' → OwnS h h' s' 4 1 ((writesD p).map Value.bool) → (∀ b, h b ≠ none → h' b = h b) → R (sV s') h') : ACalls Try.prog 18 [.agg ⟨[sV sa, sV sf, iV p.main]⟩] h R := by
  refine S18_ok _ _ _ _ _ (New_box fun r1 h1 hr1 l1 b1 => ⟨sa, b1.cell rfl, ?_⟩)
  refine MkSl_own (by rw [ha.len]; omega) (by omega) fun s15 h2 l2 o2 n2 f2 a2 => ⟨sf, (b1.le l2).cell rfl, ?_⟩
  rw [ha.len] at o2 n2
  have hrep : List.replicate p.arrays.length (Value.bool false) = (outOf p.arrays.length []).map Value.bool := by
    apply List.ext_getElem?
    intro k
    simp only [outOf, List.getElem?_map, List.getElem?_replicate]
    by_cases hk : k < p.arrays.length
    · rw [if_pos hk, List.getElem?_range hk]; rfl
    · rw [if_neg hk, List.getElem?_eq_none (by simpa using hk)]; rfl
  rw [hrep] at o2
  have l12 : Le h h1 := l1
  -- one instruction more
  refine Lp_count p.funcs.length (fun k st hh => Le h1 hh ∧ st = (anyS ((p.funcs.take k).flatMap insOfF), (k : Int), ()) ∧ OwnS h1 hh s15 4 1 ((outOf p.arrays.length ((p.funcs.take k).flatMap insOfF)).map Value.bool))
    ⟨l2, rfl, o2⟩ ?_
  rintro k _ h3 K hk ⟨l3, rfl, o3⟩ hK
  refine cond_dec (fun hlt => ?_) (fun hge => ?_)
  · have hk' : k < p.funcs.length := by have := hf.len; simp only at hlt; omega
    rw [flatMap_take_succ hk'] at hK
    generalize (p.funcs.take k).flatMap insOfF = c0 at *
    refine elem_func (hf.le mono_func l1) l3 hk' rfl rfl fun sb hsb r6 h5 l5 l5' hr6 b6 => ⟨sb, b6.cell rfl, ?_⟩
    have hr6' : h1 r6 = none := l3.nil hr6
    refine Lp_count p.funcs[k].blocks.length (fun j st hh => Le h1 hh ∧ st = (anyS (c0 ++ (p.funcs[k].blocks.take j).flatMap BlockD.ins), (j : Int), ()) ∧ OwnS h1 hh s15 4 1 ((outOf p.arrays.length (c0 ++ (p.funcs[k].blocks.take j).flatMap BlockD.ins)).map Value.bool))
      ⟨l5, by simp, by simpa using o3.le l5'⟩ ?_
    rintro j _ h6 K1 hj ⟨l6, rfl, o6⟩ hK1
    refine cond_dec (fun hlt => ?_) (fun hge => ?_)
    · have hj' : j < p.funcs[k].blocks.length := by have := hsb.len; simp only at hlt; omega
      rw [flatMap_take_succ hj', ← List.append_assoc] at hK1
      generalize c0 ++ (p.funcs[k].blocks.take j).flatMap BlockD.ins = c1 at *
      refine elem_block hsb l6 hj' rfl rfl fun q i w hq hi hw r8 h8 l8 l8' hr8 b8 => ⟨i, b8.cell rfl, ?_⟩
      refine Lp_count p.funcs[k].blocks[j].ins.length (fun m st hh => Le h1 hh ∧ st = (anyS (c1 ++ p.funcs[k].blocks[j].ins.take m), (m : Int), ()) ∧ OwnS h1 hh s15 4 1 ((outOf p.arrays.length (c1 ++ p.funcs[k].blocks[j].ins.take m)).map Value.bool))
        ⟨l8, by simp, by simpa using o6.le l8'⟩ ?_
      rintro m _ h9 K2 hm ⟨l9, rfl, o9⟩ hK2
      refine cond_dec (fun hlt => ?_) (fun hge => ?_)
      · have hm' : m < p.funcs[k].blocks[j].ins.length := by have := hi.len; simp only at hlt; omega
        rw [List.take_succ_eq_append_getElem hm', ← List.append_assoc] at hK2
        generalize c1 ++ p.funcs[k].blocks[j].ins.take m = c2 at *
        rw [outOf_one, anyS_one] at hK2
        refine elem_ins hi l9 hm' rfl rfl fun z hz r10 h11 l11 l11' hr10 b10 => ?_
        generalize p.funcs[k].blocks[j].ins[m] = ii at *
        have o11 := o9.le l11'
        refine Cut_i (fun st hh => h11 = hh ∧ st.1 = (anyS c2 || decide (ii.op = 6))) (fun J hJ => ?_) ?_
        · refine cond_b (fun hy => Wk_self (hJ _ _ ⟨rfl, ?_⟩)) (fun hn => ⟨_, b10.cell0, Wk_self (hJ _ _ ⟨rfl, ?_⟩)⟩)
          · have hy : anyS c2 = true := hy
            rw [hy]; rfl
          · have hn : anyS c2 = false := hn
            rw [hn]; simp; rfl
        · rintro ⟨st, u⟩ _ ⟨rfl, e⟩
          have e : st = _ := e
          subst e
          have no : ¬ (ii.op = 4 ∧ 0 ≤ ii.arr ∧ ii.arr.toNat < p.arrays.length) → Wk h11 fun h' => K2 (anyS c2 || decide (ii.op = 6), IntKind.wrap .i64 ((m : Int) + 1), ()) h' := fun hn =>
            Wk_self (hK2 _ _ hm' ⟨l11, by rw [wnat hm' hi.bd], by rw [if_neg hn]; exact o11⟩)
          refine ⟨_, b10.cell0, cond_eqi (fun e4 => ⟨_, b10.cell rfl, cond_dec (fun g0 => ⟨_, b10.cell rfl, cond_dec (fun g1 => ⟨_, b10.cell rfl, ?_⟩) (fun g1 => no ?_)⟩) (fun g0 => no ?_)⟩) (fun n4 => no ?_)⟩
          · have e4 : ii.op = 4 := e4
            have g0 : ii.arr ≥ 0 := g0
            have g1 : ii.arr < (s15.n : Int) := g1
            have hlt2 : ii.arr.toNat < p.arrays.length := by omega
            refine OwnS.set o11 l11 (i := ii.arr) (by omega) (by simpa [outOf_len] using hlt2) fun h13 l13 o13 f13 => ?_
            rw [bset] at o13
            refine Wk_self (hK2 _ _ hm' ⟨l13, by rw [wnat hm' hi.bd], by rw [if_pos ⟨e4, g0, hlt2⟩]; exact o13⟩)
          · have g1 : ¬ ii.arr < (s15.n : Int) := g1
            omega
          · have g0 : ¬ ii.arr ≥ 0 := g0
            omega
          · have n4 : ii.op ≠ 4 := n4
            exact fun x => n4 x.1
      · have : m = p.funcs[k].blocks[j].ins.length := by have := hi.len; simp only at hge; omega
        subst this
        rw [List.take_of_length_le (Nat.le_refl _)] at *
        exact Wk_self (hK1 _ _ hj' ⟨l9, by rw [wnat hj' hsb.bd], o9⟩)
    · have : j = p.funcs[k].blocks.length := by have := hsb.len; simp only at hge; omega
      subst this
      rw [List.take_of_length_le (Nat.le_refl _)] at *
      exact Wk_self (hK _ _ hk' ⟨l6, by rw [wnat hk' hf.bd]; rfl, o6⟩)
  · have : k = p.funcs.length := by have := hf.len; simp only at hge; omega
    subst this
    rw [List.take_of_length_le (Nat.le_refl _)] at *
    have ei : p.funcs.flatMap insOfF = (insOfP p) := rfl
    rw [ei] at *
    -- the last loop
    refine Lp_count p.arrays.length (fun m st hh => Le h1 hh ∧ st = ((m : Int), ()) ∧ OwnS h1 hh s15 4 1 ((((outOf p.arrays.length (insOfP p)).take m).map (· || anyS (insOfP p)) ++ (outOf p.arrays.length (insOfP p)).drop m).map Value.bool))
      ⟨l3, rfl, by simpa [insOfP] using o3⟩ ?_
    rintro m _ h22 K3 hm ⟨l22, rfl, o22⟩ hK3
    refine cond_dec (fun hlt => ?_) (fun hge => ?_)
    · have hm' : m < p.arrays.length := by simp only at hlt; omega
      have hmo : m < (outOf p.arrays.length (insOfP p)).length := by rw [outOf_len]; exact hm'
      have hml : (((outOf p.arrays.length (insOfP p)).take m).map (· || anyS (insOfP p))).length = m := by simp [outOf_len]; omega
      have hget : (((outOf p.arrays.length (insOfP p)).take m).map (· || anyS (insOfP p)) ++ (outOf p.arrays.length (insOfP p)).drop m)[m]? = some ((outOf p.arrays.length (insOfP p))[m]'hmo) := by
        rw [List.getElem?_append_right (by omega), hml, Nat.sub_self, List.getElem?_drop, Nat.add_zero, List.getElem?_eq_getElem hmo]
      have hset : ∀ b, (((outOf p.arrays.length (insOfP p)).take m).map (· || anyS (insOfP p)) ++ (outOf p.arrays.length (insOfP p)).drop m).set m b = ((outOf p.arrays.length (insOfP p)).take m).map (· || anyS (insOfP p)) ++ b :: (outOf p.arrays.length (insOfP p)).drop (m + 1) := by
        intro b
        rw [List.set_append_right _ _ (by omega), hml, Nat.sub_self, List.drop_eq_getElem_cons hmo, List.set_cons_zero]
      have hnext : ∀ b, b = ((outOf p.arrays.length (insOfP p))[m]'hmo || anyS (insOfP p)) → (((outOf p.arrays.length (insOfP p)).take m).map (· || anyS (insOfP p)) ++ (outOf p.arrays.length (insOfP p)).drop m).set m b = ((outOf p.arrays.length (insOfP p)).take (m + 1)).map (· || anyS (insOfP p)) ++ (outOf p.arrays.length (insOfP p)).drop (m + 1) := by
        intro b hb
        rw [hset, hb, List.take_succ_eq_append_getElem hmo, List.map_append, List.append_assoc]
        rfl
      have hlm : m < (((outOf p.arrays.length (insOfP p)).take m).map (· || anyS (insOfP p)) ++ (outOf p.arrays.length (insOfP p)).drop m).length := (List.getElem?_eq_some_iff.1 hget).1
      have bd : p.arrays.length ≤ 9223372036854775807 := by omega
      have sto : ∀ b, b = ((outOf p.arrays.length (insOfP p))[m]'hmo || anyS (insOfP p)) → Ix s15 (m : Int) 1 fun a => StL h22 a 0 [.bool b] fun h23 => Wk h23 fun h24 => K3 (IntKind.wrap .i64 ((m : Int) + 1), ()) h24 := by
        intro b hb
        refine OwnS.set o22 l22 (i := (m : Int)) (by omega) (by simpa using hlm) fun h23 l23 o23 f23 => ?_
        rw [bset, Int.toNat_natCast, hnext b hb] at o23
        exact Wk_self (hK3 _ _ hm' ⟨l23, by rw [wnat hm' bd], o23⟩)
      refine o22.bools.ixn hlm fun a hc => ⟨_, hc, ?_⟩
      have hg2 := (List.getElem?_eq_getElem hlm).symm.trans hget
      have hg2 := Option.some.inj hg2
      refine cond_b (fun hy => sto true ?_) (fun hn => sto _ ?_)
      · rw [hg2] at hy; rw [hy]; rfl
      · rw [hg2] at hn; rw [hn]; rfl
    · have : m = p.arrays.length := by simp only at hge; omega
      subst this
      rw [List.take_of_length_le (by rw [outOf_len]; exact Nat.le_refl _), List.drop_of_length_le (by rw [outOf_len]; exact Nat.le_refl _), List.append_nil] at o22
      refine Wk_self (hR s15 h22 (l1.trans l22) (o22.base l1) fun b hb => ?_)
      cases e : h b with
      | none => exact absurd e hb
      | some ob => exact (l1.trans l22) b ob e
end Go.Proofs.Ytaefmhephoilmaa

/- Contracts of package taint: what Of begins with. -/
namespace Go.Proofs.Ytaefmhephoilmaa
open Go Go.VL

theorem IterAt.mem {kd : Kd} {h : V} {it r : Nat} {m left : List (Int × kd.T)} (i : IterAt kd h it r m left) : ∀ p ∈ left, p ∈ m := by
  obtain ⟨es, clk, seen, _, _, _, hl⟩ := i
  intro p hp
  rw [hl] at hp
  obtain ⟨⟨p1, e1⟩, hp1, rfl⟩ := List.mem_map.1 hp
  exact (List.of_mem_zip (List.mem_filter.1 hp1).1).1
theorem unK_b {b : Bool} {f : Bool → Prop} (h : f b) : unK .bool (.bool b) f := h
/- what a map to truths says, also if there is none -/
def cutQ (h : V) (q : Option Nat) (f : Int → Bool) : Prop := match q with
  | none => ∀ v, f v = false
  | some r => ∃ o m, h r = some o ∧ MapRep .bool o m ∧ ∀ v, (mget m v).getD false = f v
def repCut (h : V) (a : Addr) (f : Int → Bool) : Prop := ∃ q, cellq h a = some (Value.map q) ∧ cutQ h q f
theorem cutQ_le {h h' : V} {q : Option Nat} {f : Int → Bool} (l : Le h h') (c : cutQ h q f) : cutQ h' q f := by
  cases q with
  | none => exact c
  | some r => obtain ⟨o, m, h1, h2⟩ := c; exact ⟨o, m, l _ _ h1, h2⟩
theorem mono_cut : Mono repCut := fun _ _ _ _ l ⟨q, h1, h2⟩ => ⟨q, cellq_le l h1, cutQ_le l h2⟩

theorem copy_map {h : V} {q : Option Nat} {f : Int → Bool} {r45 : Nat} {J : Unit → V → Prop} (hq : cutQ h q f) (h45 : h r45 = some (.map #[] 0)) (hne : ∀ r, q = some r → r ≠ r45)
    (hJ : ∀ h', (∀ b, b ≠ r45 → h b ≠ none → h' b = h b) → (∃ o m, h' r45 = some o ∧ MapRep .bool o m ∧ ∀ v, (mget m v).getD false = f v) → J () h') :
    Rng h q fun r54 h19 => Lp (σ := Unit) (fun K_1 _ h20 => Nxt h20 r54 (fun _ _ h21 => Ent h21 r54 fun k57 v57 => unK (.int .i64) k57 fun (x58 : Int) => unK .bool v57 fun (x59 : Bool) =>
      MUpd h21 (some r45) (.int .i64) (.int .i64 x58) (.bool x59) fun h22 => Wk h22 fun h23 => K_1 () h23) (Wk h20 fun h24 => J () h24)) () h19 := by
  cases q with
  | none =>
    refine Rng_nil fun it h3 hit l3 hi => Lp_inv (fun _ _ hh => h3 = hh) (n := 0) rfl ?_
    rintro _ _ _ K rfl hK
    refine Nxt_nil hi (Wk_self (hJ h3 (fun b _ hb => ?_) ⟨_, [], l3 _ _ h45, MapRep.empty _, fun v => by rw [mget_nil]; exact (hq v).symm⟩))
    cases e : h b with
    | none => exact absurd e hb
    | some o => exact l3 _ _ e
  | some r =>
    obtain ⟨o, m, hr, hm, hg⟩ := hq
    have hrr := hne r rfl
    refine Rng_map (kd := .bool) hr hm fun it h3 hit l3 f3 hI => ?_
    have hit45 : it ≠ r45 := fun e => by subst e; rw [hit] at h45; cases h45
    refine Lp_iter (kd := .bool) (m0 := m) (B := fun K s k v h5 => unK (.int .i64) k fun (x58 : Int) => unK .bool v fun (x59 : Bool) => MUpd h5 (some r45) (.int .i64) (.int .i64 x58) (.bool x59) fun h22 => Wk h22 fun h23 => K () h23)
      (fun m' left _ hh => m' = m ∧ (∀ b, b ≠ r45 → h b ≠ none → hh b = h b) ∧ ∃ o2 m2, hh r45 = some o2 ∧ MapRep .bool o2 m2 ∧ ∀ v, mget m2 v = if v ∈ mkeys left then none else mget m v)
      hI ⟨rfl, fun b _ hb => f3 b (fun e => by subst e; exact hb hit), _, [], l3 _ _ h45, MapRep.empty _, fun v => ?_⟩ ?_ ?_
    · rw [mget_nil]
      split
      · rfl
      · rename_i hv; exact (mget_none.2 hv).symm
    · rintro m' left _ hh h' p K hI1 ⟨rfl, fr, o2, m2, g1, g2, g3⟩ hp hf hI2 hK
      have hpm : (p.1, p.2) ∈ m' := IterAt.mem hI1 p hp
      refine unK_i (unK_b (b := p.2) ?_)
      refine MUpd_map (kd := .bool) (v := p.2) ((hf _ (fun e => hit45 e.symm)).trans g1) g2 fun o' ho' => ?_
      refine Wk_self (hK _ _ _ (hI2.frame (upd_ne hit45 _) (upd_ne hrr _)) ⟨rfl, fun b hb hbn => ?_, o', _, upd_self _ _ _, ho', fun v => ?_⟩)
      · rw [upd_ne hb, hf b (fun e => by subst e; exact hbn hit)]; exact fr b hb hbn
      · rw [mget_mset]
        by_cases e : p.1 = v
        · subst e
          have : ¬ (p.1 ∈ mkeys (left.filter fun q => decide (q.1 ≠ p.1))) := by rw [keys_filter]; exact fun h => h.2 rfl
          rw [if_pos rfl, if_neg this]
          exact ((mget_mem hm.nodup).2 hpm).symm
        · rw [if_neg e, g3 v]
          have : (v ∈ mkeys (left.filter fun q => decide (q.1 ≠ p.1))) ↔ v ∈ mkeys left := by rw [keys_filter]; exact ⟨fun h => h.1, fun h => ⟨h, fun x => e x.symm⟩⟩
          simp only [this]
    · rintro m' _ hh K hI1 ⟨rfl, fr, o2, m2, g1, g2, g3⟩
      exact Wk_self (hJ hh fr ⟨o2, m2, g1, g2, fun v => by rw [g3 v]; simp [mkeys, hg v]⟩)
end Go.Proofs.Ytaefmhephoilmaa

/- What a row reads of a program, as views have it. -/
namespace Go.Proofs.Ytaefmhephoilmaa
open Go Go.VL

noncomputable def fieldsT (t : TypeId) : Array Field := match Try.prog.underlying t with
  | some (.struct fs) => fs
  | _ => #[]
noncomputable def fieldK (t : TypeId) (j : Nat) : Option (TypeId × Nat) := ((fieldsT t)[j]?).map fun f => (f.type, f.offset)
section
variable {H : Type} {enc : TypeId × Value → H} {w : World} {base : Nat} {spare : Nat → Bool} {held : Bool}
abbrev RdT (enc : TypeId × Value → H) (w : World) (base : Nat) (spare : Nat → Bool) (held : Bool) (t : TypeId) (cs : List Value) : Prop := Rd enc Try.prog w base spare held t cs
theorem rd_fieldT {t u : TypeId} {j o c : Nat} {cs : List Value} (ht : Try.prog.underlying t = some (.struct (fieldsT t))) (hj : fieldK t j = some (u, o)) (hc : Try.prog.cellsOf u = c) (h : RdT enc w base spare held t cs) : RdT enc w base spare held u ((cs.drop o).take c) := by
  obtain ⟨_, h2⟩ := rd_field ht h
  obtain ⟨f, hf, e⟩ := Option.map_eq_some_iff.1 hj
  have := h2 j f hf
  cases e
  rw [hc] at this
  exact this
theorem len_T {t : TypeId} {n : Nat} {cs : List Value} (ht : Try.prog.underlying t = some (.struct (fieldsT t))) (hn : Try.prog.cellsOf t = n) (h : RdT enc w base spare held t cs) : cs.length = n := hn ▸ (rd_field ht h).1
theorem u3 : Try.prog.underlying 3 = some (.int .i64) := by kernel_rfl
theorem u2 : Try.prog.underlying 2 = some (.int .i64) := by kernel_rfl
theorem u49 : Try.prog.underlying 49 = some (.int .i64) := by kernel_rfl
theorem u51 : Try.prog.underlying 51 = some (.int .i64) := by kernel_rfl
theorem u57 : Try.prog.underlying 57 = some (.int .i64) := by kernel_rfl
theorem u58 : Try.prog.underlying 58 = some (.int .i64) := by kernel_rfl
theorem u64 : Try.prog.underlying 64 = some (.int .i64) := by kernel_rfl
theorem u9 : Try.prog.underlying 9 = some .string := by kernel_rfl
theorem u47 : Try.prog.underlying 47 = some (.slice 3) := by kernel_rfl
theorem u48 : Try.prog.underlying 48 = some (.slice 60) := by kernel_rfl
theorem u50 : Try.prog.underlying 50 = some (.slice 74) := by kernel_rfl
theorem u44 : Try.prog.underlying 44 = some (.slice 55) := by kernel_rfl
theorem u22 : Try.prog.underlying 22 = some (.slice 66) := by kernel_rfl
theorem u23 : Try.prog.underlying 23 = some (.slice 46) := by kernel_rfl
theorem u26 : Try.prog.underlying 26 = some (.slice 29) := by kernel_rfl
theorem u29 : Try.prog.underlying 29 = some (.map 3 4) := by kernel_rfl
theorem u74 : Try.prog.underlying 74 = some (.struct (fieldsT 74)) := by kernel_rfl
theorem u60 : Try.prog.underlying 60 = some (.struct (fieldsT 60)) := by kernel_rfl
theorem u55 : Try.prog.underlying 55 = some (.struct (fieldsT 55)) := by kernel_rfl
theorem u53 : Try.prog.underlying 53 = some (.struct (fieldsT 53)) := by kernel_rfl
theorem u46 : Try.prog.underlying 46 = some (.struct (fieldsT 46)) := by kernel_rfl
theorem u66 : Try.prog.underlying 66 = some (.struct (fieldsT 66)) := by kernel_rfl
theorem u25 : Try.prog.underlying 25 = some (.struct (fieldsT 25)) := by kernel_rfl

theorem rd_one {k : IntKind} {t : TypeId} {v : Value} (ht : Try.prog.underlying t = some (.int k)) (h : RdT enc w base spare held t [v]) : ∃ n, v = .int k n := by
  obtain ⟨n, e, _⟩ := rd_int ht h
  exact ⟨n, by cases e; rfl⟩
theorem rd_ints {cs : List Value} (h : RdT enc w base spare held 47 cs) : ∃ (s : Sl) (xs : List Int), cs = [sV s] ∧ isInts (V.of w) s xs :=
  rd_slice u47 (by kernel_rfl) (fun a cs' hat hl hr => by
    obtain ⟨n, rfl, _⟩ := rd_int u3 hr
    exact ⟨n, by have := (rd_at hat hl).1; rwa [Addr.add_z] at this⟩) h
theorem rd_edges {cs : List Value} (h : RdT enc w base spare held 50 cs) : ∃ (s : Sl) (xs : List EdgeD), cs = [sV s] ∧ isEdges (V.of w) s xs :=
  rd_slice u50 (by kernel_rfl) (fun a cs' hat hl hr => by
    have f0 := rd_fieldT (j := 0) (o := 0) u74 (by kernel_rfl) (by kernel_rfl : Try.prog.cellsOf 3 = 1) hr
    have f1 := rd_fieldT (j := 1) (o := 1) u74 (by kernel_rfl) (by kernel_rfl : Try.prog.cellsOf 47 = 1) hr
    have hc := rd_at hat hl
    match cs', hl with
    | [x, y], _ =>
      obtain ⟨n, rfl⟩ := rd_one u3 f0
      obtain ⟨s, xs, e, hs⟩ := rd_ints f1
      cases e
      exact ⟨⟨n, xs⟩, s, hs, hc⟩) h
theorem rd_inss {cs : List Value} (h : RdT enc w base spare held 48 cs) : ∃ (s : Sl) (xs : List InsD), cs = [sV s] ∧ isInss (V.of w) s xs :=
  rd_slice u48 (by kernel_rfl) (fun a cs' hat hl hr => by
    have f0 := rd_fieldT (j := 0) (o := 0) u60 (by kernel_rfl) (by kernel_rfl : Try.prog.cellsOf 57 = 1) hr
    have f1 := rd_fieldT (j := 1) (o := 1) u60 (by kernel_rfl) (by kernel_rfl : Try.prog.cellsOf 3 = 1) hr
    have f2 := rd_fieldT (j := 2) (o := 2) u60 (by kernel_rfl) (by kernel_rfl : Try.prog.cellsOf 47 = 1) hr
    have f3 := rd_fieldT (j := 3) (o := 3) u60 (by kernel_rfl) (by kernel_rfl : Try.prog.cellsOf 2 = 1) hr
    have f4 := rd_fieldT (j := 4) (o := 4) u60 (by kernel_rfl) (by kernel_rfl : Try.prog.cellsOf 58 = 1) hr
    have f5 := rd_fieldT (j := 5) (o := 5) u60 (by kernel_rfl) (by kernel_rfl : Try.prog.cellsOf 3 = 1) hr
    have f6 := rd_fieldT (j := 6) (o := 6) u60 (by kernel_rfl) (by kernel_rfl : Try.prog.cellsOf 3 = 1) hr
    have hc := rd_at hat hl
    match cs', hl with
    | [x0, x1, x2, x3, x4, x5, x6], _ =>
      obtain ⟨n0, rfl⟩ := rd_one u57 f0
      obtain ⟨n1, rfl⟩ := rd_one u3 f1
      obtain ⟨s, xs, e, hs⟩ := rd_ints f2
      obtain ⟨n3, rfl⟩ := rd_one u2 f3
      obtain ⟨n4, rfl⟩ := rd_one u58 f4
      obtain ⟨n5, rfl⟩ := rd_one u3 f5
      obtain ⟨n6, rfl⟩ := rd_one u3 f6
      cases e
      exact ⟨⟨n0, n1, xs, n3, n4, n5, n6⟩, s, hs, hc⟩) h
theorem rd_blocks {cs : List Value} (h : RdT enc w base spare held 44 cs) : ∃ (s : Sl) (xs : List BlockD), cs = [sV s] ∧ isBlocks (V.of w) s xs :=
  rd_slice u44 (by kernel_rfl) (fun a cs' hat hl hr => by
    have f0 := rd_fieldT (j := 0) (o := 0) u55 (by kernel_rfl) (by kernel_rfl : Try.prog.cellsOf 47 = 1) hr
    have f1 := rd_fieldT (j := 1) (o := 1) u55 (by kernel_rfl) (by kernel_rfl : Try.prog.cellsOf 48 = 1) hr
    have f2 := rd_fieldT (j := 2) (o := 2) u55 (by kernel_rfl) (by kernel_rfl : Try.prog.cellsOf 53 = 4) hr
    have hc := rd_at hat hl
    match cs', hl with
    | [x0, x1, x2, x3, x4, x5], _ =>
      obtain ⟨s0, ps, e0, hs0⟩ := rd_ints f0
      obtain ⟨s1, is, e1, hs1⟩ := rd_inss f1
      have g0 := rd_fieldT (j := 0) (o := 0) u53 (by kernel_rfl) (by kernel_rfl : Try.prog.cellsOf 49 = 1) f2
      have g1 := rd_fieldT (j := 1) (o := 1) u53 (by kernel_rfl) (by kernel_rfl : Try.prog.cellsOf 3 = 1) f2
      have g2 := rd_fieldT (j := 2) (o := 2) u53 (by kernel_rfl) (by kernel_rfl : Try.prog.cellsOf 50 = 1) f2
      have g3 := rd_fieldT (j := 3) (o := 3) u53 (by kernel_rfl) (by kernel_rfl : Try.prog.cellsOf 51 = 1) f2
      obtain ⟨n0, rfl⟩ := rd_one u49 g0
      obtain ⟨n1, rfl⟩ := rd_one u3 g1
      obtain ⟨s2, ws, e2, hs2⟩ := rd_edges g2
      obtain ⟨n3, rfl⟩ := rd_one u51 g3
      cases e0
      cases e1
      cases e2
      exact ⟨⟨ps, is, ⟨n0, n1, ws, n3⟩⟩, s0, s1, s2, hs0, hs1, hs2, hc⟩) h
theorem rd_funcs {cs : List Value} (h : RdT enc w base spare held 23 cs) : ∃ (s : Sl) (xs : List FuncD), cs = [sV s] ∧ isFuncs (V.of w) s xs :=
  rd_slice u23 (by kernel_rfl) (fun a cs' hat hl hr => by
    have f0 := rd_fieldT (j := 0) (o := 0) u46 (by kernel_rfl) (by kernel_rfl : Try.prog.cellsOf 9 = 1) hr
    have f1 := rd_fieldT (j := 1) (o := 1) u46 (by kernel_rfl) (by kernel_rfl : Try.prog.cellsOf 44 = 1) hr
    have hc := rd_at hat hl
    match cs', hl with
    | [x, y], _ =>
      obtain ⟨n, e0⟩ := rd_string u9 f0
      obtain ⟨s, xs, e, hs⟩ := rd_blocks f1
      cases e0
      cases e
      exact ⟨⟨n, xs⟩, s, hs, hc⟩) h
theorem rd_arrs {cs : List Value} (h : RdT enc w base spare held 22 cs) : ∃ (s : Sl) (xs : List ArrD), cs = [sV s] ∧ isArrs (V.of w) s xs :=
  rd_slice u22 (by kernel_rfl) (fun a cs' hat hl hr => by
    have f0 := rd_fieldT (j := 0) (o := 0) u66 (by kernel_rfl) (by kernel_rfl : Try.prog.cellsOf 9 = 1) hr
    have f1 := rd_fieldT (j := 1) (o := 1) u66 (by kernel_rfl) (by kernel_rfl : Try.prog.cellsOf 64 = 1) hr
    have f2 := rd_fieldT (j := 2) (o := 2) u66 (by kernel_rfl) (by kernel_rfl : Try.prog.cellsOf 3 = 1) hr
    have hc := rd_at hat hl
    match cs', hl with
    | [x, y, z], _ =>
      obtain ⟨n, e0⟩ := rd_string u9 f0
      obtain ⟨n1, rfl⟩ := rd_one u64 f1
      obtain ⟨n2, rfl⟩ := rd_one u3 f2
      cases e0
      exact ⟨⟨n, n1, n2⟩, hc⟩) h
theorem rd_prog {cs : List Value} (h : RdT enc w base spare held 25 cs) : ∃ (sa sf : Sl) (p : ProgD), cs = [sV sa, sV sf, iV p.main] ∧ isArrs (V.of w) sa p.arrays ∧ isFuncs (V.of w) sf p.funcs := by
  have f0 := rd_fieldT (j := 0) (o := 0) u25 (by kernel_rfl) (by kernel_rfl : Try.prog.cellsOf 22 = 1) h
  have f1 := rd_fieldT (j := 1) (o := 1) u25 (by kernel_rfl) (by kernel_rfl : Try.prog.cellsOf 23 = 1) h
  have f2 := rd_fieldT (j := 2) (o := 2) u25 (by kernel_rfl) (by kernel_rfl : Try.prog.cellsOf 3 = 1) h
  have hl := len_T u25 (by kernel_rfl : Try.prog.cellsOf 25 = 3) h
  match cs, hl with
  | [x, y, z], _ =>
    obtain ⟨sa, as_, e0, ha⟩ := rd_arrs f0
    obtain ⟨sf, fs, e1, hf⟩ := rd_funcs f1
    obtain ⟨n, rfl⟩ := rd_one u3 f2
    cases e0
    cases e1
    exact ⟨sa, sf, ⟨as_, fs, n⟩, rfl, ha, hf⟩
end
end Go.Proofs.Ytaefmhephoilmaa

/- Contracts of package taint: the parts of Of. -/
namespace Go.Proofs.Ytaefmhephoilmaa
open Go Go.VL

theorem own_ne {hA hB hh : V} {s s' : Sl} {T T' : TypeId} {xs xs' : List Value} (o : OwnS hA hh s T 1 xs) (o' : OwnS hB hh s' T' 1 xs') (hT : T ≠ T') {a a' : Addr} (ha : s.a = some a) (ha' : s'.a = some a') : a.block ≠ a'.block := by
  obtain ⟨_, arr, h1⟩ := o.blk ha
  obtain ⟨_, arr', h2⟩ := o'.blk ha'
  intro e
  rw [e, h2] at h1
  cases h1; exact hT rfl
theorem own_box {hA hh : V} {s : Sl} {T T' : TypeId} {xs vs : List Value} {r : Nat} (o : OwnS hA hh s T 1 xs) (b : Box hh r vs T') (hT : T ≠ T') {a : Addr} (ha : s.a = some a) : a.block ≠ r := by
  obtain ⟨_, arr, h1⟩ := o.blk ha
  intro e
  unfold Box at b
  rw [e, b] at h1
  cases h1; exact hT rfl
theorem Box_st {hh : V} {r i : Nat} {vs : List Value} {T : TypeId} {v : Value} {K : V → Prop} (b : Box hh r vs T) (hi : i < vs.length) (hK : ∀ h', Box h' r (vs.set i v) T → (∀ q, q ≠ r → h' q = hh q) → K h') : StL hh (Addr.add ⟨r, 0, none⟩ i) 0 [v] K := by
  rw [add_at, Nat.zero_add]
  refine StL_at [v] _ 0 hh (by simp; omega) b (fun _ _ => rfl) fun h' ⟨arr', h1, h2, h3⟩ hf => hK h' ?_ hf
  unfold Box
  rw [h1]
  congr 1
  congr 1
  apply Array.ext'
  rw [h3]
  simp only [Nat.add_zero, List.length_cons, List.length_nil, Nat.zero_add]
  rw [List.set_eq_take_append_cons_drop, if_pos hi]
  simp
def L0 (p : ProgD) : LabF := fun t => match t with
  | .arr i => match p.arrays[i]? with
    | some a => if a.hold = 2 then 2 else 0
    | none => 0
  | _ => 0
structure LeastL (p : ProgD) (cut : CutF) (wr : List Bool) (L : LabF) : Prop where
  ge : LeL (L0 p) L
  le2 : ∀ t, L t ≤ 2
  closed : Closed (progCons p cut wr) L
  least : ∀ M, LeL (L0 p) M → Closed (progCons p cut wr) M → LeL L M

theorem imax_mono {a b c d : Int} (h : a ≤ c) (h' : b ≤ d) : imax a b ≤ imax c d := by unfold imax; split <;> split <;> omega
theorem imax_bd {a b c : Int} (h : a ≤ c) (h' : b ≤ c) : imax a b ≤ c := by unfold imax; split <;> omega
theorem valsOf_mono {f : Nat} {args : List Int} {L M : LabF} (h : LeL L M) : valsOf f args L ≤ valsOf f args M := by
  unfold valsOf
  suffices ∀ (a b : Int), a ≤ b → args.foldl (fun a v => imax a (L (.val f v))) a ≤ args.foldl (fun a v => imax a (M (.val f v))) b from this 0 0 (Int.le_refl _)
  induction args with
  | nil => exact fun a b h => h
  | cons v args ih =>
    intro a b hab
    exact ih _ _ (imax_mono hab (h _))
theorem valsOf_bd {f : Nat} {args : List Int} {L : LabF} (h : ∀ t, L t ≤ 2) : valsOf f args L ≤ 2 := by
  unfold valsOf
  suffices ∀ a : Int, a ≤ 2 → args.foldl (fun a v => imax a (L (.val f v))) a ≤ 2 from this 0 (by omega)
  induction args with
  | nil => exact fun a h => h
  | cons v args ih =>
    intro a ha
    exact ih _ (imax_bd ha (h _))
theorem staysD_bd {a : Int} (h : a ≤ 2) : staysD a ≤ 2 := by unfold staysD; split <;> omega
theorem cutS_mono {cut : CutF} {f : Nat} {v a b : Int} (h : a ≤ b) : cutS cut f v a ≤ cutS cut f v b := by unfold cutS; split; exact staysD_mono h; exact h
theorem cutS_bd {cut : CutF} {f : Nat} {v a : Int} (h : a ≤ 2) : cutS cut f v a ≤ 2 := by unfold cutS; split; exact staysD_bd h; exact h
theorem mayD_bd {wr : List Bool} {i : InsD} : mayD wr i ≤ 2 := by unfold mayD; repeat (split; · omega); omega

def Con.ok (c : Con) : Prop := c.mono ∧ c.bd
theorem parCons_ok {cut : CutF} {g : Nat} {ps : List Int} {src : Nat → LabF → Int} (hm : ∀ j L M, LeL L M → src j L ≤ src j M) (hb : ∀ j L, (∀ t, L t ≤ 2) → src j L ≤ 2) (k : Nat) : ∀ c ∈ parCons cut g ps src k, c.ok := by
  intro c hc
  obtain ⟨j, _, rfl⟩ := List.mem_map.1 hc
  exact ⟨fun L M h => cutS_mono (hm j L M h), fun L h => cutS_bd (hb j L h)⟩
theorem insCons_ok {p : ProgD} {cut : CutF} {wr : List Bool} {f : Nat} {i : InsD} : ∀ c ∈ insCons p cut wr f i, c.ok := by
  intro c hc
  unfold insCons at hc
  split at hc
  · rw [List.mem_singleton.1 hc]
    exact ⟨fun L M h => Int.le_refl _, fun L h => cutS_bd (by omega)⟩
  split at hc
  · rw [List.mem_singleton.1 hc]
    exact ⟨fun L M h => cutS_mono (valsOf_mono h), fun L h => cutS_bd (valsOf_bd h)⟩
  split at hc
  · rw [List.mem_singleton.1 hc]
    exact ⟨fun L M h => cutS_mono (imax_mono (imax_mono (h _) (valsOf_mono h)) (Int.le_refl _)), fun L h => cutS_bd (imax_bd (imax_bd (h _) (valsOf_bd h)) mayD_bd)⟩
  split at hc
  · rw [List.mem_singleton.1 hc]
    exact ⟨fun L M h => staysD_mono (valsOf_mono h), fun L h => staysD_bd (valsOf_bd h)⟩
  split at hc
  · rw [List.mem_singleton.1 hc]
    exact ⟨fun L M h => staysD_mono (h _), fun L h => staysD_bd (h _)⟩
  split at hc
  · rcases List.mem_append.1 hc with g | g
    · exact parCons_ok (src := fun j L => staysD (L (.val f (i.args.getD j 0)))) (fun j L M h => staysD_mono (h _)) (fun j L h => staysD_bd (h _)) _ c g
    · rw [List.mem_singleton.1 g]
      exact ⟨fun L M h => cutS_mono (h _), fun L h => cutS_bd (h _)⟩
  · cases hc
theorem blockCons_ok {p : ProgD} {cut : CutF} {wr : List Bool} {f : Nat} {b : BlockD} : ∀ c ∈ blockCons p cut wr f b, c.ok := by
  intro c hc
  unfold blockCons at hc
  rcases List.mem_append.1 hc with g | g
  · rcases List.mem_append.1 g with g | g
    · obtain ⟨i, _, g⟩ := List.mem_flatMap.1 g
      exact insCons_ok c g
    · obtain ⟨w, _, g⟩ := List.mem_flatMap.1 g
      unfold wayCons at g
      split at g
      · exact parCons_ok (src := fun j L => L (.val f (w.args.getD j 0))) (fun j L M h => h _) (fun j L h => h _) _ c g
      · cases g
  · unfold endCons at g
    split at g
    · rw [List.mem_singleton.1 g]
      exact ⟨fun L M h => staysD_mono (h _), fun L h => staysD_bd (h _)⟩
    · cases g
theorem progCons_ok {p : ProgD} {cut : CutF} {wr : List Bool} : ∀ c ∈ progCons p cut wr, c.ok := by
  intro c hc
  obtain ⟨f, _, g⟩ := List.mem_flatMap.1 hc
  obtain ⟨n, _, g⟩ := List.mem_flatMap.1 g
  split at g
  · split at g
    · exact blockCons_ok c g
    · cases g
  · cases g
end Go.Proofs.Ytaefmhephoilmaa

/- Contracts of package taint: Of, first part: what it begins with. -/
namespace Go.Proofs.Ytaefmhephoilmaa
open Go Go.VL

structure Pre (hB hh : V) (p : ProgD) (cut : CutF) (r : Nat) (sa sf vs cs ws : Sl) (ids cl : List Nat) : Prop where
  le : Le hB hh
  newr : hB r = none
  box : Box hh r [sV sa, sV sf, iV p.main, sV vs, .slice none 0 0, .slice none 0 0, sV cs, sV ws, .bool false] 78
  ov : OwnS hB hh vs 56 1 (ids.map fun q => Value.map (some q))
  oc : OwnS hB hh cs 29 1 (cl.map fun q => Value.map (some q))
  len : ids.length = cl.length
  nd : ids.Nodup
  dis : ∀ q ∈ ids, q ∉ cl
  mi : ∀ q ∈ ids, hB q = none ∧ hh q = some (.map #[] 0)
  mc : ∀ (f : Nat) q, cl[f]? = some q → hB q = none ∧ ∃ o m, hh q = some o ∧ MapRep .bool o m ∧ ∀ v, (mget m v).getD false = cut f v
theorem isMap_of {kd : Kd} {o : Obj} {m : List (Int × kd.T)} (h : MapRep kd o m) : ∃ es clk, o = .map es clk := by obtain ⟨es, clk, e, _⟩ := h.ex; exact ⟨es, clk, e⟩

/- one function more: its map of labels, its map of what is cut -/
theorem of_more {hB h8 : V} {p : ProgD} {cut : CutF} {r : Nat} {sa sf vs cs ws : Sl} {ids cl : List Nat} {A : Nat → (Unit → V → Prop) → V → Prop} {K : V → Prop} (k : Pre hB h8 p cut r sa sf vs cs ws ids cl) (hfew : ids.length < 1024)
    (hA : ∀ (r45 : Nat) h13 J, h13 r45 = some (.map #[] 0) → hB r45 = none → Le hB h13 → (∀ h', (∀ b, b ≠ r45 → h13 b ≠ none → h' b = h13 b) → (∃ o m, h' r45 = some o ∧ MapRep .bool o m ∧ ∀ v, (mget m v).getD false = cut ids.length v) → J () h') → A r45 J h13)
    (hK : ∀ h' vs' cs' ids' cl', Pre hB h' p cut r sa sf vs' cs' ws ids' cl' → ids'.length = ids.length + 1 → K h') :
    Ld h8 (Addr.add (Addr.add ⟨r, 0, none⟩ 3) 0) .sl fun (x38 : Sl) =>
    New h8 (.map #[] 0) fun r39 h9 =>
    New h9 (.cells #[(.map ((some r39)))] 56) fun r40 h10 =>
    App h10 x38 ⟨(some ⟨r40, 0, none⟩), 1, 1⟩ 56 1 8 [(.map none)] fun s41 h11 =>
    StL h11 (Addr.add (Addr.add ⟨r, 0, none⟩ 3) 0) 0 [sV s41] fun h12 =>
    New h12 (.map #[] 0) fun r45 h13 =>
    Cut (σ := (Unit)) (fun _ h14 =>
    Ld h14 (Addr.add (Addr.add ⟨r, 0, none⟩ 3) 3) .sl fun (x68 : Sl) =>
    New h14 (.cells #[(.map ((some r45)))] 29) fun r70 h15 =>
    App h15 x68 ⟨(some ⟨r70, 0, none⟩), 1, 1⟩ 29 1 8 [(.map none)] fun s71 h16 =>
    StL h16 (Addr.add (Addr.add ⟨r, 0, none⟩ 3) 3) 0 [sV s71] fun h17 =>
    Wk h17 fun h18 => K h18) fun J => A r45 J h13 := by
  refine ⟨vs, by rw [Addr.add_add]; exact k.box.cell rfl, fun r39 hr39 => ?_⟩
  have l9 := le_upd hr39 (.map #[] 0)
  have m39 : (h8.upd r39 (.map #[] 0)) r39 = some (.map #[] 0) := upd_self _ _ _
  generalize h8.upd r39 (.map #[] 0) = h9 at *
  refine New_box fun r40 h10 hr40 l10 b40 => ?_
  have l810 := l9.trans l10
  have nv := k.ov.1
  simp only [List.length_map, Nat.mul_one] at nv
  have nc := k.oc.1
  simp only [List.length_map, Nat.mul_one] at nc
  have hlen := k.len
  refine App_one (k.le.trans l810) (k.ov.le l810) b40 rfl (by omega) (by omega) fun s41 h11 l11 o11 n11 f11 d11 => ?_
  have box10 := k.box.le l810
  have ov10 := k.ov.le l810
  have oc10 := k.oc.le l810
  have box11 : Box h11 r [sV sa, sV sf, iV p.main, sV vs, .slice none 0 0, .slice none 0 0, sV cs, sV ws, .bool false] 78 := by
    unfold Box
    rw [f11 r (fun a ha e => own_box ov10 box10 (by decide) ha e.symm) (by unfold Box at box10; rw [box10]; simp)]
    exact box10
  have oc11 : OwnS hB h11 cs 29 1 (cl.map fun q => Value.map (some q)) := oc10.frame fun a ob ha hob => by
    rw [f11 _ (fun a' ha' e => own_ne ov10 oc10 (by decide) ha' ha e.symm) (by rw [hob]; simp)]; exact hob
  have map11 : ∀ q es clk, h10 q = some (.map es clk) → h11 q = some (.map es clk) := fun q es clk hq => by
    rw [f11 q (fun a ha e => by obtain ⟨_, arr, h⟩ := ov10.blk ha; rw [← e, hq] at h; cases h) (by rw [hq]; simp)]; exact hq
  rw [Addr.add_add]
  refine Box_st (i := 3) box11 (by simp) fun h12 box12 f12 => ?_
  have box12 : Box h12 r [sV sa, sV sf, iV p.main, sV s41, .slice none 0 0, .slice none 0 0, sV cs, sV ws, .bool false] 78 := box12
  have le12 : Le hB h12 := fun q o hq => by
    rw [f12 q (fun e => by subst e; rw [k.newr] at hq; cases hq)]; exact l11 q o hq
  have ov12 : OwnS hB h12 s41 56 1 (ids.map (fun q => Value.map (some q)) ++ [.map (some r39)]) := o11.frame fun a ob ha hob => (f12 _ (own_box o11 box11 (by decide) ha)).trans hob
  have oc12 : OwnS hB h12 cs 29 1 (cl.map fun q => Value.map (some q)) := oc11.frame fun a ob ha hob => (f12 _ (own_box oc11 box11 (by decide) ha)).trans hob
  have map12 : ∀ q es clk, h10 q = some (.map es clk) → h12 q = some (.map es clk) := fun q es clk hq => by
    rw [f12 q (fun e => by unfold Box at box10; rw [e, box10] at hq; cases hq)]; exact map11 q es clk hq
  intro r45 hr45
  have l13 := le_upd hr45 (.map #[] 0)
  have m45 : (h12.upd r45 (.map #[] 0)) r45 = some (.map #[] 0) := upd_self _ _ _
  generalize h12.upd r45 (.map #[] 0) = h13 at *
  have hB45 : hB r45 = none := le12.nil hr45
  refine Cut_i (fun _ h14 => (∀ b, b ≠ r45 → h13 b ≠ none → h14 b = h13 b) ∧ ∃ o m, h14 r45 = some o ∧ MapRep .bool o m ∧ ∀ v, (mget m v).getD false = cut ids.length v) (fun J hJ => ?_) ?_
  · exact hA r45 h13 J m45 hB45 (le12.trans l13) fun h' f' x => hJ () h' ⟨f', x⟩
  · rintro _ h14 ⟨f14, o45, mm, ho45, hm45, hg45⟩
    have map14 : ∀ q es clk, h10 q = some (.map es clk) → h14 q = some (.map es clk) := fun q es clk hq => by
      have := map12 q es clk hq
      rw [f14 q (fun e => by rw [e] at this; rw [this] at hr45; cases hr45) (by rw [l13 _ _ this]; simp)]
      exact l13 _ _ this
    have keep14 : ∀ q o, h12 q = some o → h14 q = some o := fun q o hq => by
      rw [f14 q (fun e => by rw [e, hr45] at hq; cases hq) (by rw [l13 _ _ hq]; simp)]; exact l13 _ _ hq
    have l14 : Le h12 h14 := keep14
    refine ⟨cs, by rw [Addr.add_add]; exact (box12.le l14).cell rfl, New_box fun r70 h15 hr70 l15 b70 => ?_⟩
    have l1215 := l14.trans l15
    have ov15 := ov12.le l1215
    have oc15 := oc12.le l1215
    have box15 := box12.le l1215
    refine App_one (le12.trans l1215) oc15 b70 rfl (by omega) (by omega) fun s71 h16 l16 o16 n16 f16 d16 => ?_
    have box16 : Box h16 r [sV sa, sV sf, iV p.main, sV s41, .slice none 0 0, .slice none 0 0, sV cs, sV ws, .bool false] 78 := by
      unfold Box
      rw [f16 r (fun a ha e => own_box oc15 box15 (by decide) ha e.symm) (by unfold Box at box15; rw [box15]; simp)]
      exact box15
    have ov16 : OwnS hB h16 s41 56 1 (ids.map (fun q => Value.map (some q)) ++ [.map (some r39)]) := ov15.frame fun a ob ha hob => by
      rw [f16 _ (fun a' ha' e => own_ne oc15 ov15 (by decide) ha' ha e.symm) (by rw [hob]; simp)]; exact hob
    have map16 : ∀ q es clk, h14 q = some (.map es clk) → h16 q = some (.map es clk) := fun q es clk hq => by
      have := l15 _ _ hq
      rw [f16 q (fun a ha e => by obtain ⟨_, arr, h⟩ := oc15.blk ha; rw [← e, this] at h; cases h) (by rw [this]; simp)]; exact this
    rw [Addr.add_add]
    refine Box_st (i := 6) box16 (by simp) fun h17 box17 f17 => ?_
    have map17 : ∀ q es clk, h14 q = some (.map es clk) → h17 q = some (.map es clk) := fun q es clk hq => by
      have := map16 q es clk hq
      rw [f17 q (fun e => by unfold Box at box16; rw [e, box16] at this; cases this)]; exact this
    have old : ∀ q es clk, h8 q = some (.map es clk) → h17 q = some (.map es clk) := fun q es clk hq => map17 _ _ _ (map14 _ _ _ (l810 _ _ hq))
    have h39 : h17 r39 = some (.map #[] 0) := map17 _ _ _ (map14 _ _ _ (l10 _ _ m39))
    have n39 : hB r39 = none := k.le.nil hr39
    have ids_ne : ∀ q ∈ ids, q ≠ r39 := fun q hq e => by have := (k.mi q hq).2; rw [e, hr39] at this; cases this
    have cl_ne : ∀ q ∈ cl, q ≠ r39 ∧ q ≠ r45 := fun q hq => by
      obtain ⟨f, hf, e⟩ := List.getElem_of_mem hq
      obtain ⟨_, o, m, h1, h2, _⟩ := k.mc f q (by rw [List.getElem?_eq_getElem hf, e])
      obtain ⟨es, clk, rfl⟩ := isMap_of h2
      refine ⟨fun e => (by rw [e, hr39] at h1; cases h1), fun e => ?_⟩
      have := map12 _ _ _ (l810 _ _ h1)
      rw [e, hr45] at this; cases this
    have ids45 : ∀ q ∈ ids ++ [r39], q ≠ r45 := fun q hq e => by
      have : ∃ es clk, h10 q = some (.map es clk) := by
        rcases List.mem_append.1 hq with g | g
        · exact ⟨_, _, l810 _ _ (k.mi q g).2⟩
        · rw [List.mem_singleton.1 g]; exact ⟨_, _, l10 _ _ m39⟩
      obtain ⟨es, clk, h⟩ := this
      have := map12 _ _ _ h
      rw [e, hr45] at this; cases this
    refine Wk_self (hK h17 s41 s71 (ids ++ [r39]) (cl ++ [r45]) ⟨fun q o hq => ?_, k.newr, box17, ?_, ?_, by simp [k.len], ?_, ?_, ?_, ?_⟩ (by simp))
    · rw [f17 q (fun e => by subst e; rw [k.newr] at hq; cases hq)]; exact l16 q o hq
    · have := ov16.frame (h' := h17) fun a ob ha hob => (f17 _ (own_box ov16 box16 (by decide) ha)).trans hob
      simpa using this
    · have := o16.frame (h' := h17) fun a ob ha hob => (f17 _ (own_box o16 box16 (by decide) ha)).trans hob
      simpa using this
    · rw [List.nodup_append]
      refine ⟨k.nd, by simp, fun a ha b hb => ?_⟩
      rw [List.mem_singleton.1 hb]; exact ids_ne a ha
    · intro q hq hc
      rcases List.mem_append.1 hc with g | g
      · rcases List.mem_append.1 hq with g' | g'
        · exact k.dis q g' g
        · rw [List.mem_singleton.1 g'] at g; exact (cl_ne _ g).1 rfl
      · exact ids45 q hq (List.mem_singleton.1 g)
    · intro q hq
      rcases List.mem_append.1 hq with g | g
      · exact ⟨(k.mi q g).1, old _ _ _ (k.mi q g).2⟩
      · rw [List.mem_singleton.1 g]; exact ⟨n39, h39⟩
    · intro f q hq
      rcases Nat.lt_or_ge f cl.length with g | g
      · rw [List.getElem?_append_left g] at hq
        obtain ⟨h0, o, m, h1, h2, h3⟩ := k.mc f q hq
        obtain ⟨es, clk, rfl⟩ := isMap_of h2
        exact ⟨h0, _, m, old _ _ _ h1, h2, h3⟩
      · rw [List.getElem?_append_right g] at hq
        have e : f = cl.length := by
          have := (List.getElem?_eq_some_iff.1 hq).1
          simp at this; omega
        subst e
        simp at hq
        subst hq
        obtain ⟨es, clk, rfl⟩ := isMap_of hm45
        exact ⟨hB45, _, mm, map17 _ _ _ ho45, hm45, fun v => by rw [← k.len]; exact hg45 v⟩
end Go.Proofs.Ytaefmhephoilmaa

/- Contracts of package taint: Of, last part: round after round. -/
namespace Go.Proofs.Ytaefmhephoilmaa
open Go Go.VL

section
variable {hC hh : V} {p : ProgD} {r r2 : Nat} {sa sf vs ar rs cs ws : Sl} {ids : List Nat} {L : LabF} {tu : Bool} {cut : CutF} {wr : List Bool}
/- a slice of one's own that stays -/
theorem SolW.growS {h44 : V} {x : Sl} {T : TypeId} {xs : List Value} (k : SolW hC hh p r sa sf vs ar rs cs ws ids L tu) (o : OwnS hh h44 x T 1 xs) (l : Le hh h44) : ∃ hD, Le hC hD ∧ SolW hD h44 p r sa sf vs ar rs cs ws ids L tu ∧ OwnS hC hD x T 1 xs := by
  obtain ⟨h1, h2, h3, h4⟩ := o
  rcases h4 with h4 | ⟨b, off, arr, ha, hb, hr, hz, ht⟩
  · exact ⟨hC, Le.refl _, k.view l, h1, h2, h3, .inl h4⟩
  · obtain ⟨g1, g2⟩ := k.grow hb l hr
    exact ⟨_, g2, g1, h1, h2, h3, .inr ⟨b, off, arr, ha, k.le.nil hb, upd_self _ _ _, hz, ht⟩⟩
noncomputable def blkF (p : ProgD) (cut : CutF) (wr : List Bool) (f : Nat) (n : Nat) : List Con := if rchB (FuncD.at p f).blocks n = true then (match (FuncD.at p f).blocks[n]? with | some b => blockCons p cut wr f b | none => []) else []
theorem of_main (k0 : SolW hC hh p r sa sf vs ar rs cs ws ids (L0 p) true) (c : SolC hC p cut wr sa sf vs cs ws ids) (ok : CheckOk p) (few : ∀ f ∈ p.funcs, f.blocks.length ≤ 1048576) (b2 : Box hC r2 [sV sa, sV sf, iV p.main] 25) {X : V → Prop}
    (hX : ∀ hh L, SolW hC hh p r sa sf vs ar rs cs ws ids L false → LeastL p cut wr L → X hh) :
  Lp (σ := (Unit)) (fun K_3 _ h39 =>
  Ld h39 (Addr.add (⟨r, 0, none⟩) 8) .bool fun (x113 : Bool) =>
  cond x113
  (StL h39 (Addr.add (⟨r, 0, none⟩) 8) 0 [(.bool false)] fun h40 =>
  Ld h40 (Addr.add (⟨r2, 0, none⟩) 1) .sl fun (x118 : Sl) =>
  Lp (σ := (Int × Unit)) (fun K_4 s_6 h41 =>
  cond (decide (s_6.1 < (((x118.n : Nat) : Int))))
  (Ix x118 s_6.1 2 fun a123 =>
  LdA h41 a123 [.str, .sl] fun (x124 : ((ByteArray) × (Sl) × Unit)) =>
  New h41 (.cells #[(.string (⟨#[]⟩)), (.slice none 0 0)] 46) fun r15 h42 =>
  StL h42 (⟨r15, 0, none⟩) 0 [(.string x124.1), (.slice x124.2.1.a x124.2.1.n x124.2.1.c)] fun h43 =>
  LdA h43 (⟨r15, 0, none⟩) [.str, .sl] fun (x125 : ((ByteArray) × (Sl) × Unit)) =>
  CallK Try.prog 19 [(.agg ⟨[(.string x125.1), (.slice x125.2.1.a x125.2.1.n x125.2.1.c)]⟩)] h43 (.un (.one .sl)) fun (x126 : Sl) h44 =>
  Lp (σ := (Int × Unit)) (fun K_5 s_7 h45 =>
  cond (decide (s_7.1 < (((x126.n : Nat) : Int))))
  (Ix x126 s_7.1 1 fun a131 =>
  Ld h45 a131 .bool fun (x132 : Bool) =>
  cond x132
  (Ld h45 (Addr.add (⟨r15, 0, none⟩) 1) .sl fun (x137 : Sl) =>
  Ix x137 s_7.1 6 fun a139 =>
  LdA h45 a139 [.sl, .sl, (.int .i64), (.int .i64), .sl, (.int .i64)] fun (x140 : ((Sl) × (Sl) × (Int) × (Int) × (Sl) × (Int) × Unit)) =>
  CallK Try.prog 20 [(.pointer (some (⟨r, 0, none⟩))), (.int .i64 s_6.1), (.agg ⟨[(.slice x140.1.a x140.1.n x140.1.c), (.slice x140.2.1.a x140.2.1.n x140.2.1.c), (.int .i64 x140.2.2.1), (.int .i64 x140.2.2.2.1), (.slice x140.2.2.2.2.1.a x140.2.2.2.2.1.n x140.2.2.2.2.1.c), (.int .i64 x140.2.2.2.2.2.1)]⟩)] h45 (.tup []) fun (_ : (Unit)) h46 =>
  Wk h46 fun h47 => K_5 (IntKind.wrap .i64 (s_7.1 + ((1 : Int))), ()) h47)
  (Wk h45 fun h48 => K_5 (IntKind.wrap .i64 (s_7.1 + ((1 : Int))), ()) h48))
  (Wk h45 fun h49 => K_4 (IntKind.wrap .i64 (s_6.1 + ((1 : Int))), ()) h49))
  ((0 : Int), ()) h44)
  (Wk h41 fun h50 => K_3 (()) h50))
  ((0 : Int), ()) h40)
  (X h39)) () hh := by
  have ok0 : ∀ c ∈ progCons p cut wr, c.ok := progCons_ok
  have l02 : ∀ t, L0 p t ≤ 2 := by
    intro t
    unfold L0
    repeat' split
    all_goals omega
  refine Lp_inv (fun n _ hh => ∃ L tu, SolW hC hh p r sa sf vs ar rs cs ws ids L tu ∧ LeL (L0 p) L ∧ (∀ t, L t ≤ 2) ∧ (∀ M, LeL (L0 p) M → Closed (progCons p cut wr) M → LeL L M) ∧ (tu = true → muC (progCons p cut wr) L + 1 ≤ n) ∧ (tu = false → Closed (progCons p cut wr) L))
    ⟨_, _, k0, LeL.refl _, l02, fun M h _ => h, fun _ => Nat.le_refl _, fun e => by cases e⟩ ?_
  rintro n _ h39 K ⟨L, tu, k, lge, l2, lleast, hmu, hcl⟩ hK
  refine ⟨tu, k.box.cell rfl, cond_b (fun ht => ?_) (fun ht => ?_)⟩
  · have hmu := hmu ht
    refine k.turn (b := false) fun h40 k4 _ => ⟨sf, (b2.le k4.le).cell rfl, ?_⟩
    refine Lp_count p.funcs.length (fun f st hh => st = ((f : Int), ()) ∧ SolW hC hh p r sa sf vs ar rs cs ws ids (runC ((List.range f).flatMap (funcCons p cut wr)) (L, false)).1 (runC ((List.range f).flatMap (funcCons p cut wr)) (L, false)).2) ⟨rfl, k4⟩ ?_
    rintro f _ h41 K4 hf ⟨rfl, k5⟩ hK4
    refine cond_dec (fun hl => ?_) (fun hge => ?_)
    · have hf' : f < p.funcs.length := by have := c.funcs.len; simp only at hl; omega
      have hfm : p.funcs[f] ∈ p.funcs := List.getElem_mem hf'
      rw [List.range_succ, List.flatMap_append, show [f].flatMap (funcCons p cut wr) = funcCons p cut wr f by simp] at hK4
      generalize (List.range f).flatMap (funcCons p cut wr) = cs0 at *
      refine elem_func c.funcs k5.le hf' rfl rfl fun sb hsb r15 h43 l43 l43' hr15 b15 => ⟨(p.funcs[f].name, sb, ()), b15.cells, ?_⟩
      obtain ⟨k6, lD⟩ := k5.grow hr15 l43' b15
      have bD : Box (hC.upd r15 (.cells ⟨funcV p.funcs[f] sb⟩ 46)) r15 (funcV p.funcs[f] sb) 46 := upd_self _ _ _
      have cD := c.le lD
      have hsD := hsb.le mono_block lD
      generalize hC.upd r15 (.cells ⟨funcV p.funcs[f] sb⟩ 46) = hD at *
      refine c_Reach (hsD.le mono_block k6.le) (few _ hfm) fun x126 h44 out l44 o44 outl hout => ⟨_, rfl, ?_⟩
      obtain ⟨hE, lE, k7, oE⟩ := k6.growS o44 l44
      have cE := cD.le lE
      have bE := bD.le lE
      have hsE := hsD.le mono_block lE
      have xE := oE.bools
      have lCE := lD.trans lE
      have fat := FuncD.at_eq hf'
      refine Lp_count p.funcs[f].blocks.length (fun n st hh => st = ((n : Int), ()) ∧ SolW hE hh p r sa sf vs ar rs cs ws ids (runC (cs0 ++ (List.range n).flatMap (blkF p cut wr f)) (L, false)).1 (runC (cs0 ++ (List.range n).flatMap (blkF p cut wr f)) (L, false)).2) ⟨rfl, by simpa using k7⟩ ?_
      rintro m _ h45 K5 hm ⟨rfl, k8⟩ hK5
      refine cond_dec (fun hl => ?_) (fun hge => ?_)
      · have hm' : m < p.funcs[f].blocks.length := by have := xE.len; simp only at hl; omega
        have hmo : m < out.length := by omega
        rw [List.range_succ, List.flatMap_append, show [m].flatMap (blkF p cut wr f) = blkF p cut wr f m by simp, ← List.append_assoc] at hK5
        generalize cs0 ++ (List.range m).flatMap (blkF p cut wr f) = cs1 at *
        refine (xE.le mono_bool k8.le).ixn hmo fun a ha => ⟨_, ha, cond_b (fun hy => ⟨sb, (bE.le k8.le).cell rfl, ?_⟩) (fun hn => ?_)⟩
        · have hr : Rch p.funcs[f].blocks m := (hout m).1 (by rw [List.getElem?_eq_getElem hmo]; exact congrArg some hy)
          have heq : blkF p cut wr f m = blockCons p cut wr f p.funcs[f].blocks[m] := by
            unfold blkF
            rw [fat, if_pos (rchB_iff.2 hr), List.getElem?_eq_getElem hm']
          rw [heq] at hK5
          refine hsE.ixn hm' fun a ⟨q, i, w, hq, hi, hw, hc⟩ => ⟨(q, i, _, _, w, _, ()), cellsAt_le k8.le hc, ?_⟩
          refine c_block k8 cE hf' ((ok.funcs _ hfm).2.2.2.1 _ (List.getElem_mem hm')) hi hw fun h46 k9 => ⟨(), rfl, Wk_self (hK5 _ _ hm' ⟨by rw [wnat hm' hsE.bd], ?_⟩)⟩
          rw [runC_append]
          exact k9
        · have hr : ¬ Rch p.funcs[f].blocks m := fun h => by
            have := (hout m).2 h
            rw [List.getElem?_eq_getElem hmo] at this
            have hn : out[m] = false := hn
            rw [hn] at this; cases this
          have heq : blkF p cut wr f m = [] := by
            unfold blkF
            rw [fat, if_neg (fun e => hr (rchB_iff.1 e))]
          rw [heq, List.append_nil] at hK5
          exact Wk_self (hK5 _ _ hm' ⟨by rw [wnat hm' hsE.bd], k8⟩)
      · have : m = p.funcs[f].blocks.length := by have := xE.len; simp only at hge; omega
        subst this
        refine Wk_self (hK4 _ _ hf' ⟨by rw [wnat hf' c.funcs.bd], ?_⟩)
        have heq : (List.range p.funcs[f].blocks.length).flatMap (blkF p cut wr f) = funcCons p cut wr f := by
          rw [← fat]
          rfl
        rw [heq] at k8
        exact k8.shrink lCE
    · have : f = p.funcs.length := by have := c.funcs.len; simp only at hge; omega
      subst this
      have ep : (List.range p.funcs.length).flatMap (funcCons p cut wr) = progCons p cut wr := rfl
      rw [ep] at k5
      have hge' := runC_ge (progCons p cut wr) (L, false)
      cases ht2 : (runC (progCons p cut wr) (L, false)).2 with
      | true =>
        have hlt := runC_mu (all := progCons p cut wr) (progCons p cut wr) (L, false) (fun _ h => h) (fun c h => (ok0 c h).2) l2 rfl ht2
        refine Wk_self (hK (muC (progCons p cut wr) (runC (progCons p cut wr) (L, false)).1 + 1) _ _ (by have : muC (progCons p cut wr) (runC (progCons p cut wr) (L, false)).1 < muC (progCons p cut wr) L := hlt; omega) ⟨_, _, k5, lge.trans hge', runC_bd _ _ (fun c h => (ok0 c h).2) l2, fun M h1 h2 => runC_le _ _ (fun c h => (ok0 c h).1) h2 (lleast M h1 h2), fun _ => Nat.le_refl _, fun e => by rw [ht2] at e; cases e⟩)
      | false =>
        obtain ⟨_, e2, e3⟩ := runC_false _ _ ht2
        refine Wk_self (hK 0 _ _ (by omega) ⟨_, _, k5, lge.trans hge', runC_bd _ _ (fun c h => (ok0 c h).2) l2, fun M h1 h2 => runC_le _ _ (fun c h => (ok0 c h).1) h2 (lleast M h1 h2), fun e => (by rw [ht2] at e; cases e), fun _ => by rw [e2]; exact e3⟩)
  · have ht : tu = false := ht
    subst ht
    exact hX h39 L k ⟨lge, l2, hcl rfl, lleast⟩
end
end Go.Proofs.Ytaefmhephoilmaa

/- Contracts of package taint: Of. -/
namespace Go.Proofs.Ytaefmhephoilmaa
open Go Go.VL

def repVals (h : V) (a : Addr) (g : Int → Int) : Prop := ∃ q o m, cellq h a = some (.map (some q)) ∧ h q = some o ∧ MapRep (.int .i64) o m ∧ ∀ v, (mget m v).getD (0 : Int) = g v
theorem mono_vals : Mono repVals := fun _ _ _ _ l ⟨q, o, m, h1, h2, h3⟩ => ⟨q, o, m, cellq_le l h1, l _ _ h2, h3⟩
structure LabW (h : V) (p : ProgD) (vs ar rs cs : Sl) (L : LabF) : Prop where
  vals : isSl repVals 1 h vs ((List.range p.funcs.length).map fun f v => L (.val f v))
  arrs : isInts h ar ((List.range p.arrays.length).map fun i => L (.arr i))
  rets : isInts h rs ((List.range p.funcs.length).map fun i => L (.ret i))
  cut : cs.n = p.funcs.length
def cutOf (l : List (Int → Bool)) : CutF := fun f v => (l.getD f fun _ => false) v
def V.dels (h : V) (l : List Nat) : V := fun b => if b ∈ l then none else h b
theorem dels_in {h : V} {l : List Nat} {b : Nat} (hb : b ∈ l) : V.dels h l b = none := by simp [V.dels, hb]
theorem dels_out {h : V} {l : List Nat} {b : Nat} (hb : b ∉ l) : V.dels h l b = h b := by simp [V.dels, hb]
def labA (a : ArrD) : Int := if a.hold = 2 then 2 else 0
theorem few_B {p : ProgD} (few : FewOk p) : ∀ f ∈ p.funcs, fewB f.blocks := fun f hf => ⟨by have := (few.all f hf).blocks; omega, fun b hb => by have := ((few.all f hf).all b hb).params; have := ((few.all f hf).all b hb).ins; omega⟩

theorem c_Of {h : V} {p : ProgD} {sa sf pc : Sl} {cutIn : List (Int → Bool)} {R : Value → V → Prop} (ha : isArrs h sa p.arrays) (hf : isFuncs h sf p.funcs) (hc : isSl repCut 1 h pc cutIn) (few : FewOk p)
    (hR1 : ¬ CheckOk p → R (.tuple ⟨[.agg ⟨[.slice none 0 0, .slice none 0 0, .slice none 0 0, .slice none 0 0]⟩, iV 40]⟩) h)
    (hR2 : CheckOk p → ∀ h' vs ar rs cs L, Le h h' → LabW h' p vs ar rs cs L → LeastL p (cutOf cutIn) (writesD p) L → R (.tuple ⟨[.agg ⟨[sV vs, sV ar, sV rs, sV cs]⟩, iV 0]⟩) h') :
    ACalls Try.prog 9 [.agg ⟨[sV sa, sV sf, iV p.main]⟩, sV pc] h R := by
  refine S9_ok _ _ _ _ _ _ (New_box fun r2 h1 hr2 l1 b2 => New_box fun r4 h2 hr4 l2 b4 => ⟨(sa, sf, p.main, ()), (b2.le l2).cells, ?_⟩)
  have l02 := l1.trans l2
  refine c_Check (ha.le mono_arr l02) (hf.le mono_func l02) (few_B few) fun n hn0 hn => ⟨_, rfl, cond_nei (fun hne => ?_) (fun heq => ?_)⟩
  · have hne : n ≠ 0 := hne
    refine StL_box (h := h1) b4 rfl l2 hr4 fun h4 l4 b4' f4 => ⟨(⟨none, 0, 0⟩, ⟨none, 0, 0⟩, ⟨none, 0, 0⟩, ⟨none, 0, 0⟩, ()), b4'.cells, Wk_le (l1.trans l4) (hR1 fun ok => hne (hn.2 ok))⟩
  have heq : n = 0 := heq
  have ok := hn.1 heq
  refine ⟨(sa, sf, p.main, ()), (b2.le l2).cells, (sa, sf, p.main, ()), (b2.le l2).cells, c_Writes (ha.le mono_arr l02) (hf.le mono_func l02) (by have := few.arrays; omega) fun ws h6 l6 o6 f6 => ⟨_, rfl, l6, New_box fun r h7 hr l7 b => ⟨sf, ((b2.le l2).le (l6.trans l7)).cell rfl, ?_⟩⟩⟩
  have nf := hf.len
  have na := ha.len
  have hfew5 := few.funcs
  have l06 := l02.trans l6
  have b2' := (b2.le l2).le l6
  refine Lp_count p.funcs.length (fun k st hh => st = ((k : Int), ()) ∧ ∃ vs cs ids cl, Pre h6 hh p (cutOf cutIn) r sa sf vs cs ws ids cl ∧ ids.length = k)
    ⟨rfl, ⟨none, 0, 0⟩, ⟨none, 0, 0⟩, [], [], ⟨l7, hr, b, OwnS_nil _ _ _ _, OwnS_nil _ _ _ _, rfl, List.nodup_nil, by simp, by simp, by simp⟩, rfl⟩ ?_
  rintro k _ h8 K hk ⟨rfl, vs, cs, ids, cl, k8, hlen⟩ hK
  refine cond_dec (fun hlt => ?_) (fun hge => ?_)
  · have hk' : k < p.funcs.length := by simp only at hlt; omega
    refine of_more k8 (by omega) (fun r45 h13 J m45 n45 l13 hJ => ?_) (fun h' vs' cs' ids' cl' k' hl => hK _ _ hk' ⟨by rw [wnat hk' hf.bd], vs', cs', ids', cl', k', by omega⟩)
    subst hlen
    refine cond_dec (fun hlt => ?_) (fun hge => ?_)
    · have hkc : ids.length < cutIn.length := by have := hc.len; simp only at hlt; omega
      refine hc.ixn hkc fun a ⟨q, hq, hcq⟩ => ⟨q, cellq_le (l06.trans l13) hq, copy_map (cutQ_le (l06.trans l13) hcq) m45 (fun x hx e => ?_) fun h' f' hm => hJ h' f' ?_⟩
      · subst hx e
        obtain ⟨o, m, g1, g2, g3⟩ := hcq
        have := l06 _ _ g1
        rw [n45] at this; cases this
      · obtain ⟨o, m, g1, g2, g3⟩ := hm
        refine ⟨o, m, g1, g2, fun v => ?_⟩
        rw [g3]; unfold cutOf; rw [getD_lt hkc]
    · refine Wk_self (hJ h13 (fun _ _ _ => rfl) ⟨_, [], m45, MapRep.empty _, fun v => ?_⟩)
      have : cutIn.length ≤ ids.length := by have := hc.len; simp only at hge; omega
      rw [mget_nil]
      unfold cutOf
      rw [List.getD_eq_getElem?_getD, List.getElem?_eq_none this]; rfl
  have : k = p.funcs.length := by simp only at hge; omega
  subst this
  have hlc := k8.len
  refine ⟨sf, (b2'.le k8.le).cell rfl, ?_⟩
  refine MkSl_own (by omega) (by omega) fun s80 h26 l26 o26 n26 f26 ⟨a80, ha80⟩ => ?_
  rw [nf] at o26 n26
  have box26 := k8.box.le l26
  rw [Addr.add_add]
  refine Box_st (i := 5) box26 (by simp) fun h27 box27 f27 => ?_
  have box27 : Box h27 r [sV sa, sV sf, iV p.main, sV vs, .slice none 0 0, sV s80, sV cs, sV ws, .bool false] 78 := box27
  have keep27 : ∀ q, q ≠ r → ∀ o, h8 q = some o → h27 q = some o := fun q hq o ho => by rw [f27 q hq]; exact l26 _ _ ho
  have le27 : Le h6 h27 := fun q o hq => keep27 q (fun e => by subst e; rw [k8.newr] at hq; cases hq) o (k8.le _ _ hq)
  refine ⟨sa, (b2'.le le27).cell rfl, ?_⟩
  -- what stays: all but the solver itself
  have o27 : OwnS h8 h27 s80 42 1 (List.replicate p.funcs.length (iV 0)) := o26.frame fun a ob ha' hob => (f27 _ (own_box o26 box26 (by decide) ha')).trans hob
  obtain ⟨n80, arr80, h80⟩ := o27.blk ha80
  have b80r : a80.block ≠ r := own_box o27 box27 (by decide) ha80
  have lD6 : Le h6 (V.del h27 r) := fun q o hq => by
    rw [del_ne (fun e => by subst e; rw [k8.newr] at hq; cases hq)]; exact le27 _ _ hq
  have lDh := l06.trans lD6
  refine Lp_count p.arrays.length (fun k st hh => st = ((k : Int), ()) ∧ ∃ ar, Le (V.del h27 r) hh ∧ Box hh r [sV sa, sV sf, iV p.main, sV vs, sV ar, sV s80, sV cs, sV ws, .bool false] 78 ∧ OwnS (V.del h27 r) hh ar 42 1 (((p.arrays.take k).map labA).map (Value.int .i64)))
    ⟨rfl, ⟨none, 0, 0⟩, del_le _ _, box27, OwnS_nil _ _ _ _⟩ ?_
  rintro k _ h28 K2 hk ⟨rfl, ar, l28, box28, o28⟩ hK2
  have few10 := few.arrays
  refine cond_dec (fun hlt => ?_) (fun hge => ?_)
  · have hk' : k < p.arrays.length := by have := ha.len; simp only at hlt; omega
    refine elem_arr ha (lDh.trans l28) hk' rfl rfl fun r12 h30 l30 l30' hr12 b12 => ?_
    refine Cut_i (fun st hh => h30 = hh ∧ st.1 = labA p.arrays[k]) (fun J hJ => ?_) ?_
    · refine ⟨_, b12.cell rfl, cond_eqi (fun e => Wk_self (hJ _ _ ⟨rfl, ?_⟩)) (fun e => Wk_self (hJ _ _ ⟨rfl, ?_⟩))⟩
      · have e : p.arrays[k].hold = 2 := e
        unfold labA; rw [if_pos e]
      · have e : ¬ p.arrays[k].hold = 2 := e
        unfold labA; rw [if_neg e]
    · rintro ⟨lab, u⟩ _ ⟨rfl, e⟩
      have e : lab = _ := e
      subst e
      refine ⟨ar, by rw [Addr.add_add]; exact (box28.le l30').cell rfl, New_box fun r101 h32 hr101 l32 b101 => ?_⟩
      have l2832 := l30'.trans l32
      have o32 := o28.le l2832
      have box32 := box28.le l2832
      have nar := o28.1
      simp only [List.length_map, List.length_take, Nat.mul_one] at nar
      refine App_one (l28.trans l2832) o32 b101 rfl (by omega) (by omega) fun s102 h33 l33 o33 n33 f33 d33 => ?_
      have box33 : Box h33 r [sV sa, sV sf, iV p.main, sV vs, sV ar, sV s80, sV cs, sV ws, .bool false] 78 := by
        unfold Box
        rw [f33 r (fun a ha' e => own_box o32 box32 (by decide) ha' e.symm) (by unfold Box at box32; rw [box32]; simp)]
        exact box32
      rw [Addr.add_add]
      refine Box_st (i := 4) box33 (by simp) fun h34 box34 f34 => ?_
      refine Wk_self (hK2 _ _ hk' ⟨by rw [wnat hk' ha.bd], s102, fun q o hq => ?_, box34, ?_⟩)
      · rw [f34 q (fun e => by subst e; rw [del_self] at hq; cases hq)]; exact l33 _ _ hq
      · have := o33.frame (h' := h34) fun a ob ha' hob => (f34 _ (own_box o33 box33 (by decide) ha')).trans hob
        rw [List.take_succ_eq_append_getElem hk', List.map_append, List.map_append]
        exact this
  · have : k = p.arrays.length := by have := ha.len; simp only at hge; omega
    subst this
    rw [List.take_of_length_le (Nat.le_refl _)] at o28
    -- the base of the rounds: all but what they may turn
    have idsD : ∀ q ∈ ids, V.del h27 r q = some (.map #[] 0) := fun q hq => by
      obtain ⟨_, h1⟩ := k8.mi q hq
      have ne : q ≠ r := fun e => by subst e; have := k8.box; unfold Box at this; rw [h1] at this; cases this
      rw [del_ne ne]; exact keep27 q ne _ h1
    have out : ∀ q o, h8 q = some o → q ≠ r → q ∉ ids → V.dels h27 (r :: a80.block :: ids) q = some o := fun q o ho h1 h2 => by
      rw [dels_out]
      · exact keep27 q h1 o ho
      · simp only [List.mem_cons, not_or]
        exact ⟨h1, fun e => (by rw [e, n80] at ho; cases ho), h2⟩
    have lC6 : Le h6 (V.dels h27 (r :: a80.block :: ids)) := fun q o hq => out q o (k8.le _ _ hq) (fun e => by subst e; rw [k8.newr] at hq; cases hq) fun hm => by rw [(k8.mi q hm).1] at hq; cases hq
    have lCD : Le (V.dels h27 (r :: a80.block :: ids)) (V.del h27 r) := fun q o hq => by
      by_cases hm : q ∈ r :: a80.block :: ids
      · rw [dels_in hm] at hq; cases hq
      · rw [dels_out hm] at hq
        rw [del_ne (fun e => hm (by rw [e]; simp))]; exact hq
    have r4h6 : h6 r4 = some (.cells #[.slice none 0 0, .slice none 0 0, .slice none 0 0, .slice none 0 0] 33) := l6 _ _ b4
    -- slices and maps that stay, without the place of the result
    have slC : ∀ (s : Sl) (T : TypeId) (xs : List Nat), OwnS h6 h8 s T 1 (xs.map fun q => Value.map (some q)) → T ≠ 78 → isSl repMap 1 (V.del (V.dels h27 (r :: a80.block :: ids)) r4) s xs := fun s T xs o hT => by
      refine (OwnS.frame (h' := V.del (V.dels h27 (r :: a80.block :: ids)) r4) o fun a ob ha' hob => ?_).sl fun _ _ _ h => h
      obtain ⟨g1, arr, g2⟩ := o.blk ha'
      rw [del_ne (fun e => by rw [e, r4h6] at g1; cases g1)]
      refine out _ _ hob (own_box o k8.box hT ha') fun hm => ?_
      rw [(k8.mi _ hm).2] at g2; cases g2
    have lC4 : Le h1 (V.del (V.dels h27 (r :: a80.block :: ids)) r4) := fun q o hq => by
      rw [del_ne (fun e => by rw [e, hr4] at hq; cases hq)]
      exact lC6 _ _ (l6 _ _ (l2 _ _ hq))
    have cC : SolC (V.del (V.dels h27 (r :: a80.block :: ids)) r4) p (cutOf cutIn) (writesD p) sa sf vs cs ws ids := by
      refine ⟨ha.le mono_arr (l1.trans lC4), hf.le mono_func (l1.trans lC4), slC vs 56 ids k8.ov (by decide), hlen, k8.nd, ⟨cl, slC cs 29 cl k8.oc (by decide), by omega, fun f q hq => ?_⟩, ?_⟩
      · obtain ⟨g0, o, m, g1, g2, g3⟩ := k8.mc f q hq
        refine ⟨o, m, ?_, g2, g3⟩
        rw [del_ne (fun e => by rw [e, r4h6] at g0; cases g0)]
        refine out q o g1 (fun e => ?_) fun hm => k8.dis q hm (List.mem_of_getElem? hq)
        obtain ⟨es, clk, rfl⟩ := isMap_of g2
        have := k8.box
        unfold Box at this
        rw [← e, g1] at this; cases this
      · refine (OwnS.frame (h' := V.del (V.dels h27 (r :: a80.block :: ids)) r4) o6 fun a ob ha' hob => ?_).bools
        obtain ⟨g1, arr, g2⟩ := o6.blk ha'
        rw [del_ne (fun e => by rw [e, show h2 r4 = _ from b4] at g1; cases g1)]
        exact lC6 _ _ hob
    generalize hCdef : V.dels h27 (r :: a80.block :: ids) = hC at *
    have nC : ∀ q ∈ r :: a80.block :: ids, hC q = none := fun q hq => by rw [← hCdef]; exact dels_in hq
    have ar80 : ∀ a, ar.a = some a → a.block ≠ a80.block := fun a ha' e => by
      obtain ⟨g1, arr, g2⟩ := o28.blk ha'
      rw [e, del_ne b80r, h80] at g1; cases g1
    have kS : SolW hC h28 p r sa sf vs ar s80 cs ws ids (L0 p) false := by
      refine ⟨lCD.trans l28, box28, nC r (by simp), fun f q hq => ?_, ⟨p.arrays.map labA, OwnS.rebase o28 fun a ha' => ?_, by simp, fun i x hx => ?_⟩, ⟨List.replicate p.funcs.length 0, ?_, by simp, fun i x hx => ?_⟩, fun a b ha' hb' e => ?_⟩
      · have hm : q ∈ ids := List.mem_of_getElem? hq
        exact ⟨nC q (by simp [hm]), _, [], l28 _ _ (idsD q hm), MapRep.empty _, fun v => by rw [mget_nil]; rfl⟩
      · exact lCD.nil (o28.blk ha').1
      · rw [List.getElem?_map] at hx
        cases hpa : p.arrays[i]? with
        | none => rw [hpa] at hx; cases hx
        | some y =>
          rw [hpa] at hx
          cases hx
          unfold L0
          simp only [hpa, labA]
      · have : OwnS h8 h28 s80 42 1 (List.replicate p.funcs.length (iV 0)) := o27.frame fun a ob ha' hob => l28 _ _ (by rw [ha80] at ha'; cases ha'; rw [del_ne b80r]; exact hob)
        rw [List.map_replicate]
        exact OwnS.rebase this fun a ha' => by rw [ha80] at ha'; cases ha'; exact nC _ (by simp)
      · rw [List.getElem?_replicate] at hx
        split at hx
        · cases hx; rfl
        · cases hx
      · rw [ha80] at hb'
        cases hb'
        exact ar80 a ha' e
    refine kS.turn (b := true) fun h38 k38 _ => ?_
    refine of_main k38 (cC.le (del_le _ _)) ok (fun f hf' => by have := (few.all f hf').blocks; omega) (b2'.le lC6) fun h39 L k39 hL => ?_
    have b4' : Box h39 r4 [.slice none 0 0, .slice none 0 0, .slice none 0 0, .slice none 0 0] 33 := k39.le _ _ (lC6 _ _ r4h6)
    refine ⟨(vs, ar, s80, cs, ()), ?_, ?_⟩
    · refine cellsAt_of fun n v hv => ?_
      rw [Addr.add_add]
      refine k39.box.cell ?_
      rw [Nat.zero_add]
      match n, hv with
      | 0, hv => exact hv
      | 1, hv => exact hv
      | 2, hv => exact hv
      | 3, hv => exact hv
    · refine StL_box (h := V.del h39 r4) b4' rfl (del_le _ _) (del_self _ _) fun h51 l51 b51 f51 => ⟨(vs, ar, s80, cs, ()), b51.cells, Wk_self (hR2 ok h51 vs ar s80 cs L (fun q o hq => ?_) ⟨?_, ?_, ?_, ?_⟩ hL)⟩
      · have hq1 := l1 _ _ hq
        have ne : q ≠ r4 := fun e => by rw [e, hr4] at hq1; cases hq1
        rw [f51 q ne]
        exact k39.le _ _ (lC6 _ _ (l6 _ _ (l2 _ _ hq1)))
      · have l4 : Le (V.del hC r4) h51 := fun q o hq => by
          have ne : q ≠ r4 := fun e => by rw [e, del_self] at hq; cases hq
          rw [f51 q ne]
          rw [del_ne ne] at hq
          exact k39.le _ _ hq
        obtain ⟨v1, v2, v3, v4⟩ := cC.vals.le mono_map l4
        refine ⟨by simpa [hlen] using v1, v2, v3, fun i hi => ?_⟩
        have hi' : i < ids.length := by simpa [hlen] using hi
        obtain ⟨a, g1, g2⟩ := v4 i hi'
        refine ⟨a, g1, ids[i], ?_⟩
        obtain ⟨_, o, m, m1, m2, m3⟩ := k39.maps i _ (List.getElem?_eq_getElem hi')
        obtain ⟨es, clk, rfl⟩ := isMap_of m2
        refine ⟨_, m, g2, ?_, m2, fun v => ?_⟩
        · rw [f51 _ (fun e => ?_)]
          · exact m1
          · unfold Box at b4'
            rw [← e, m1] at b4'; cases b4'
        · rw [m3]; simp
      · obtain ⟨l, g1, g2, g3⟩ := k39.arrs
        have e : l = (List.range p.arrays.length).map fun i => L (.arr i) := by
          apply List.ext_getElem?
          intro i
          rw [List.getElem?_map]
          by_cases hi : i < p.arrays.length
          · rw [List.getElem?_range hi, List.getElem?_eq_getElem (by omega)]
            exact congrArg some (g3 i _ (List.getElem?_eq_getElem (by omega)))
          · rw [List.getElem?_eq_none (by omega), List.getElem?_eq_none (by simpa using hi)]; rfl
        rw [← e]
        exact (OwnS.frame (h' := h51) g1 fun a ob ha' hob => (f51 _ (own_box g1 b4' (by decide) ha')).trans hob).ints
      · obtain ⟨l, g1, g2, g3⟩ := k39.rets
        have e : l = (List.range p.funcs.length).map fun i => L (.ret i) := by
          apply List.ext_getElem?
          intro i
          rw [List.getElem?_map]
          by_cases hi : i < p.funcs.length
          · rw [List.getElem?_range hi, List.getElem?_eq_getElem (by omega)]
            exact congrArg some (g3 i _ (List.getElem?_eq_getElem (by omega)))
          · rw [List.getElem?_eq_none (by omega), List.getElem?_eq_none (by simpa using hi)]; rfl
        rw [← e]
        exact (OwnS.frame (h' := h51) g1 fun a ob ha' hob => (f51 _ (own_box g1 b4' (by decide) ha')).trans hob).ints
      · have := k8.oc.1
        simp at this
        omega
end Go.Proofs.Ytaefmhephoilmaa

/- Contracts: head, the document's example. -/
namespace Go.Proofs.Ytaefmhephoilmaa
open Go Go.VL

theorem Box.from {h : V} {r : Nat} {cs vs : List Value} {T : TypeId} (b : Box h r cs T) (i : Nat) (hv : ∀ (j : Nat) v, vs[j]? = some v → cs[i + j]? = some v) : cellsAt h (Addr.add ⟨r, 0, none⟩ i) 0 vs :=
  cellsAt_of fun j v hj => by rw [Addr.add_add, Nat.zero_add]; exact b.cell (hv j v hj)
def hI1 : InsD := ⟨3, 1, [], 0, 0, 0, 0⟩
def hI2 : InsD := ⟨2, 2, [1, 1], 0, 1, 0, 0⟩
def hBl : BlockD := ⟨[], [hI1, hI2], ⟨3, 2, [], 0⟩⟩
def hP : ProgD := ⟨[⟨⟨#[115]⟩, 2, 0⟩], [⟨⟨#[]⟩, [hBl]⟩], 0⟩
theorem hRch : Rch [hBl] 0 := .zero (by decide)
theorem hKnown : knownOk [hBl] := by
  have h1 : roundF [hBl] 1 ⟨[none], []⟩ = (⟨[some 0], [fun _ => false, afterD (fun _ => false) hBl]⟩, true) := by
    show blockF [hBl] 0 (⟨[none], []⟩, false) = _
    unfold blockF
    rw [if_pos (rchB_iff.2 hRch)]
    rfl
  have h2 : roundF [hBl] 1 ⟨[some 0], [fun _ => false, afterD (fun _ => false) hBl]⟩ = (⟨[some 0], [fun _ => false, afterD (fun _ => false) hBl, afterD (fun _ => false) hBl]⟩, false) := by
    show blockF [hBl] 0 (⟨[some 0], _⟩, false) = _
    unfold blockF
    rw [if_pos (rchB_iff.2 hRch)]
    rfl
  have u : usedD (fun _ => false) hBl = true := by decide
  refine ⟨⟨⟨[some 0], [fun _ => false, afterD (fun _ => false) hBl, afterD (fun _ => false) hBl]⟩, ?_, ?_⟩, [some 0], fun _ _ => false, rfl, fun _ _ _ => rfl, ?_, ?_⟩
  · refine KRun.go (by show (roundF [hBl] 1 ⟨[none], []⟩).2 = true; rw [h1]) ?_
    show KRun _ (roundF [hBl] 1 ⟨[none], []⟩).1 _
    rw [h1]
    have := KRun.stop (bs := [hBl]) (st := ⟨[some 0], [fun _ => false, afterD (fun _ => false) hBl]⟩) (by show (roundF [hBl] 1 _).2 = false; rw [h2])
    have e : (roundF [hBl] [hBl].length ⟨[some 0], [fun _ => false, afterD (fun _ => false) hBl]⟩).1 = ⟨[some 0], [fun _ => false, afterD (fun _ => false) hBl, afterD (fun _ => false) hBl]⟩ := by
      show (roundF [hBl] 1 _).1 = _
      rw [h2]
    rw [e] at this
    exact this
  · intro b h bk hb hbk
    match b, hb, hbk with
    | 0, hb, hbk => cases hb; cases hbk; exact u
  · intro b bk _ hbk
    match b, hbk with
    | 0, hbk => cases hbk; exact ⟨fun _ => ⟨0, rfl⟩, fun r _ w hw => by simp [hBl] at hw⟩
  · intro b r bk hb hbk
    match b, hb, hbk with
    | 0, hb, hbk => cases hbk; exact u
theorem hOk : CheckOk hP := by
  refine ⟨fun a ha => ?_, by decide, by decide, fun f hf => ?_, fun f hf => ?_⟩
  · rw [List.mem_singleton.1 ha]; exact ⟨by decide, by decide, by decide, by decide⟩
  · cases hf; rfl
  · rw [List.mem_singleton.1 hf]
    refine ⟨by simp, by decide, by decide, fun b hb => ?_, hKnown⟩
    rw [List.mem_singleton.1 hb]
    refine ⟨by decide, fun i hi => ?_⟩
    rcases List.mem_cons.1 hi with e | e
    · subst e; decide
    · rw [List.mem_singleton.1 e]; decide
theorem hFew : FewOk hP := by
  refine ⟨by decide, by decide, fun f hf => ?_⟩
  rw [List.mem_singleton.1 hf]
  refine ⟨by decide, by decide, fun b hb => ?_⟩
  rw [List.mem_singleton.1 hb]
  refine ⟨by decide, by decide, by decide, fun i hi => ?_, fun w hw => by simp [hBl] at hw⟩
  rcases List.mem_cons.1 hi with e | e
  · subst e; decide
  · rw [List.mem_singleton.1 e]; decide
theorem hLab {L : LabF} {wr : List Bool} (h : LeastL hP (cutOf []) wr L) : L (.val 0 1) = 2 ∧ L (.val 0 2) = 2 ∧ L (.ret 0) = 2 := by
  have ha : 2 ≤ L (.arr 0) := h.ge (.arr 0)
  have hm : ∀ c ∈ blockCons hP (cutOf []) wr 0 hBl, c ∈ progCons hP (cutOf []) wr := by
    intro c hc
    refine List.mem_flatMap.2 ⟨0, by decide, List.mem_flatMap.2 ⟨0, by decide, ?_⟩⟩
    have e : (FuncD.at hP 0).blocks = [hBl] := rfl
    rw [e, if_pos (rchB_iff.2 hRch)]
    exact hc
  have c1 := h.closed _ (hm ⟨.val 0 1, fun L => cutS (cutOf []) 0 1 (imax (imax (L (.arr 0)) (valsOf 0 [] L)) (mayD wr hI1))⟩ (by simp [blockCons, hBl, insCons, hI1]))
  have c2 := h.closed _ (hm ⟨.val 0 2, fun L => cutS (cutOf []) 0 2 (valsOf 0 [1, 1] L)⟩ (by simp [blockCons, hBl, insCons, hI1, hI2]))
  have c3 := h.closed _ (hm ⟨.ret 0, fun L => staysD (L (.val 0 2))⟩ (by simp [blockCons, hBl, endCons]))
  have k : ∀ v x, cutS (cutOf []) 0 v x = x := fun v x => by unfold cutS; rw [if_neg (by simp [cutOf])]
  simp only [k] at c1 c2
  have b1 := h.le2 (.val 0 1)
  have b2 := h.le2 (.val 0 2)
  have b3 := h.le2 (.ret 0)
  have e1 : L (.val 0 1) = 2 := by
    have : L (.arr 0) ≤ imax (imax (L (.arr 0)) (valsOf 0 [] L)) (mayD wr hI1) := by unfold imax; split <;> split <;> omega
    omega
  have e2 : L (.val 0 2) = 2 := by
    have : 2 ≤ valsOf 0 [1, 1] L := by simp [valsOf, imax, e1]
    omega
  refine ⟨e1, e2, ?_⟩
  simp only [e2] at c3
  have : staysD 2 = 2 := by decide
  omega
end Go.Proofs.Ytaefmhephoilmaa

/- Contracts: head, its walk. -/
namespace Go.Proofs.Ytaefmhephoilmaa
open Go Go.VL

theorem isSl_one {α : Type} {rep : V → Addr → α → Prop} {sz : Nat} {h : V} {r : Nat} {x : α} (hx : rep h ⟨r, 0, none⟩ x) : isSl rep sz h ⟨some ⟨r, 0, none⟩, 1, 1⟩ [x] := by
  refine ⟨rfl, Nat.le_refl _, by show (1 : Nat) ≤ _; omega, fun k hk => ⟨_, rfl, ?_⟩⟩
  have e : k = 0 := by simp at hk; omega
  subst e
  rw [Nat.zero_mul, add_at]
  exact hx
theorem c_head {h : V} {R : Value → V → Prop} (hR : ∀ h', Le h h' → R (.bool true) h') : ACalls Try.prog 7 [] h R := by
  refine S7_ok _ _ (New_box fun r5 h1 hr5 l1 b5 => New_box fun r7 h2 hr7 l2 b7 => New_box fun r9 h3 hr9 l3 b9 => New_box fun r12 h4 hr12 l4 b12 => New_box fun r14 h5 hr14 l5 b14 => New_box fun r1 h6 hr1 l6 b1 => ?_)
  refine StL_box (h := h5) b1 rfl l6 hr1 fun h7 l7 b1' f7 => ⟨(⟨some ⟨r5, 0, none⟩, 1, 1⟩, ⟨some ⟨r14, 0, none⟩, 1, 1⟩, 0, ()), b1'.cells, ?_⟩
  have l47 := l5.trans l7
  have l37 := l4.trans l47
  have l27 := l3.trans l37
  have l17 := l2.trans l27
  have ha : isArrs h7 ⟨some ⟨r5, 0, none⟩, 1, 1⟩ hP.arrays := isSl_one (rep := repArr) (cellsAt_le l17 b5.cells)
  have h11 : isInts h7 ⟨some ⟨r7, 0, none⟩, 2, 2⟩ [1, 1] := by
    refine ⟨rfl, Nat.le_refl _, by show (2 : Nat) ≤ _; omega, fun k hk => ⟨_, rfl, ?_⟩⟩
    match k, hk with
    | 0, _ => exact (b7.le l27).cell rfl
    | 1, _ => exact (b7.le l27).cell rfl
  have hi : isInss h7 ⟨some ⟨r9, 0, none⟩, 2, 2⟩ [hI1, hI2] := by
    refine ⟨rfl, Nat.le_refl _, by show (2 : Nat) ≤ _; omega, fun k hk => ⟨_, rfl, ?_⟩⟩
    match k, hk with
    | 0, _ =>
      refine ⟨⟨none, 0, 0⟩, isSl_nil _ _ _, Box.from (b9.le l37) 0 fun j v hv => ?_⟩
      match j, hv with
      | 0, hv => exact hv
      | 1, hv => exact hv
      | 2, hv => exact hv
      | 3, hv => exact hv
      | 4, hv => exact hv
      | 5, hv => exact hv
      | 6, hv => exact hv
    | 1, _ =>
      refine ⟨⟨some ⟨r7, 0, none⟩, 2, 2⟩, h11, Box.from (b9.le l37) 7 fun j v hv => ?_⟩
      match j, hv with
      | 0, hv => exact hv
      | 1, hv => exact hv
      | 2, hv => exact hv
      | 3, hv => exact hv
      | 4, hv => exact hv
      | 5, hv => exact hv
      | 6, hv => exact hv
  have hb : isBlocks h7 ⟨some ⟨r12, 0, none⟩, 1, 1⟩ [hBl] := isSl_one (rep := repBlock) ⟨⟨none, 0, 0⟩, _, ⟨none, 0, 0⟩, isSl_nil _ _ _, hi, isSl_nil _ _ _, (b12.le l47).cells⟩
  have hf : isFuncs h7 ⟨some ⟨r14, 0, none⟩, 1, 1⟩ hP.funcs := isSl_one (rep := repFunc) ⟨_, hb, (b14.le l7).cells⟩
  have l07 := l1.trans l17
  refine c_Of (p := hP) (cutIn := []) (pc := ⟨none, 0, 0⟩) ha hf (isSl_nil _ _ _) hFew (fun hn => absurd hOk hn) fun _ h8 vs ar rs cs L l8 lab hL => ⟨((vs, ar, rs, cs, ()), 0, ()), rfl, ?_⟩
  refine New_box fun r2 h9 hr2 l9 b2 => StL_box (h := h8) b2 rfl l9 hr2 fun h10 l10 b2' f10 => ?_
  obtain ⟨e1, e2, e3⟩ := hLab hL
  have hv := lab.vals.le mono_vals l10
  have hrt := lab.rets.le mono_int l10
  have nv : vs.n = 1 := hv.len
  have nr : rs.n = 1 := hrt.len
  have na : ar.n = 1 := lab.arrs.len
  refine cond_eqi (fun _ => ⟨vs, b2'.cell rfl, cond_eqi (fun _ => ⟨vs, b2'.cell rfl, ?_⟩) (fun n => absurd (by show (vs.n : Int) = 1; omega) n)⟩) (fun n => absurd rfl n)
  refine hv.ix (i := 0) (by omega) (by rw [List.length_map, List.length_range]; exact Nat.zero_lt_one) fun a ⟨q, o, m, g1, g2, g3, g4⟩ => ⟨some q, g1, Look_map g2 g3 ?_⟩
  have k1 : (mget m 1).getD (0 : Int) = 2 := by rw [g4]; exact e1
  have k2 : (mget m 2).getD (0 : Int) = 2 := by rw [g4]; exact e2
  rw [k1]
  refine cond_eqi (fun _ => ⟨vs, b2'.cell rfl, ?_⟩) (fun n => absurd rfl n)
  refine hv.ix (i := 0) (by omega) (by rw [List.length_map, List.length_range]; exact Nat.zero_lt_one) fun a ⟨q, o, m, g1, g2, g3, g4⟩ => ⟨some q, g1, Look_map g2 g3 ?_⟩
  have k2 : (mget m 2).getD (0 : Int) = 2 := by rw [g4]; exact e2
  rw [k2]
  refine cond_eqi (fun _ => ⟨rs, b2'.cell rfl, cond_eqi (fun _ => ⟨rs, b2'.cell rfl, ?_⟩) (fun n => absurd (by show (rs.n : Int) = 1; omega) n)⟩) (fun n => absurd rfl n)
  refine hrt.ix (i := 0) (by omega) (by rw [List.length_map, List.length_range]; exact Nat.zero_lt_one) fun a ha' => ⟨_, ha', ?_⟩
  refine cond_eqi (fun _ => ⟨ar, b2'.cell rfl, Wk_self ?_⟩) (fun n => absurd e3 n)
  have : ((ar.n : Int) == 1) = true := by rw [na]; rfl
  rw [this]
  exact hR h10 ((l07.trans l8).trans l10)
end Go.Proofs.Ytaefmhephoilmaa

/- Plain: constraints without their cut; what more cut does. -/
namespace Go.Proofs.Ytaefmhephoilmaa
open Go Go.VL

def mkC (cut : CutF) (r : Con) : Con := ⟨r.tgt, fun L => match r.tgt with
  | .val g v => cutS cut g v (r.src L)
  | _ => staysD (r.src L)⟩
def parRaw (g : Nat) (ps : List Int) (src : Nat → LabF → Int) (k : Nat) : List Con := (List.range k).map fun j => ⟨.val g (ps.getD j 0), src j⟩
def insRaw (p : ProgD) (wr : List Bool) (f : Nat) (i : InsD) : List Con :=
  if i.op = 1 then [⟨.val f i.dst, fun _ => 0⟩]
  else if i.op = 2 then [⟨.val f i.dst, fun L => valsOf f i.args L⟩]
  else if i.op = 3 ∨ i.op = 5 then [⟨.val f i.dst, fun L => imax (imax (L (.arr i.arr.toNat)) (valsOf f i.args L)) (mayD wr i)⟩]
  else if i.op = 4 then [⟨.arr i.arr.toNat, fun L => valsOf f i.args L⟩]
  else if i.op = 6 then [⟨.arr i.arr.toNat, fun L => L (.val f (i.args.getD 1 0))⟩]
  else if i.op = 7 then parRaw i.fn.toNat (FuncD.at p i.fn.toNat).params (fun j L => staysD (L (.val f (i.args.getD j 0)))) (FuncD.at p i.fn.toNat).params.length ++ [⟨.val f i.dst, fun L => L (.ret i.fn.toNat)⟩]
  else []
def wayRaw (p : ProgD) (f : Nat) (w : EdgeD) : List Con := match (FuncD.at p f).blocks[w.to.toNat]? with
  | some b => parRaw f b.params (fun j L => L (.val f (w.args.getD j 0))) b.params.length
  | none => []
def endRaw (f : Nat) (e : EndD) : List Con := if e.kind = 3 then [⟨.ret f, fun L => L (.val f e.val)⟩] else []
def blockRaw (p : ProgD) (wr : List Bool) (f : Nat) (b : BlockD) : List Con := b.ins.flatMap (insRaw p wr f) ++ b.e.ways.flatMap (wayRaw p f) ++ endRaw f b.e
noncomputable def funcRaw (p : ProgD) (wr : List Bool) (f : Nat) : List Con :=
  (List.range (FuncD.at p f).blocks.length).flatMap fun n => if rchB (FuncD.at p f).blocks n = true then (match (FuncD.at p f).blocks[n]? with | some b => blockRaw p wr f b | none => []) else []
noncomputable def progRaw (p : ProgD) (wr : List Bool) : List Con := (List.range p.funcs.length).flatMap (funcRaw p wr)
theorem parCons_raw {cut : CutF} {g : Nat} {ps : List Int} {src : Nat → LabF → Int} {k : Nat} : parCons cut g ps src k = (parRaw g ps src k).map (mkC cut) := by
  unfold parCons parRaw
  rw [List.map_map]
  rfl
theorem insCons_raw {p : ProgD} {cut : CutF} {wr : List Bool} {f : Nat} {i : InsD} : insCons p cut wr f i = (insRaw p wr f i).map (mkC cut) := by
  unfold insCons insRaw
  split
  · rfl
  split
  · rfl
  split
  · rfl
  split
  · rfl
  split
  · rfl
  split
  · rw [List.map_append, parCons_raw]; rfl
  · rfl
theorem wayCons_raw {p : ProgD} {cut : CutF} {f : Nat} {w : EdgeD} : wayCons p cut f w = (wayRaw p f w).map (mkC cut) := by
  unfold wayCons wayRaw
  cases (FuncD.at p f).blocks[w.to.toNat]? with
  | some b => exact parCons_raw
  | none => rfl
theorem endCons_raw {cut : CutF} {f : Nat} {e : EndD} : endCons f e = (endRaw f e).map (mkC cut) := by
  unfold endCons endRaw
  split <;> rfl
theorem blockCons_raw {p : ProgD} {cut : CutF} {wr : List Bool} {f : Nat} {b : BlockD} : blockCons p cut wr f b = (blockRaw p wr f b).map (mkC cut) := by
  unfold blockCons blockRaw
  rw [List.map_append, List.map_append, List.map_flatMap, List.map_flatMap, ← endCons_raw]
  congr 2
  · congr 1; funext i; exact insCons_raw
  · congr 1; funext w; exact wayCons_raw
theorem progCons_raw {p : ProgD} {cut : CutF} {wr : List Bool} : progCons p cut wr = (progRaw p wr).map (mkC cut) := by
  unfold progCons progRaw
  rw [List.map_flatMap]
  congr 1
  funext f
  unfold funcCons funcRaw
  rw [List.map_flatMap]
  congr 1
  funext n
  split
  · cases (FuncD.at p f).blocks[n]? with
    | some b => exact blockCons_raw
    | none => rfl
  · rfl
theorem staysD_le (x : Int) : staysD x ≤ x := by unfold staysD; split <;> omega
theorem cutS_le {a b : CutF} (h : ∀ f v, a f v = true → b f v = true) (f : Nat) (v x : Int) : cutS b f v x ≤ cutS a f v x := by
  unfold cutS
  by_cases ha : a f v = true
  · rw [if_pos ha, if_pos (h f v ha)]; exact Int.le_refl _
  · rw [if_neg ha]
    split
    · exact staysD_le x
    · exact Int.le_refl _
theorem mkC_le {a b : CutF} (h : ∀ f v, a f v = true → b f v = true) (r : Con) (L : LabF) : (mkC b r).src L ≤ (mkC a r).src L := by
  obtain ⟨t, s⟩ := r
  cases t with
  | val g v => exact cutS_le h g v _
  | arr i => exact Int.le_refl _
  | ret f => exact Int.le_refl _
/- more cut, less labels -/
theorem more_cut {p : ProgD} {wr : List Bool} {a b : CutF} {A B : LabF} (hA : LeastL p a wr A) (hB : LeastL p b wr B) (h : ∀ f v, a f v = true → b f v = true) : LeL B A := by
  refine hB.least A hA.ge fun c hc => ?_
  rw [progCons_raw] at hc
  obtain ⟨r, hr, rfl⟩ := List.mem_map.1 hc
  have := hA.closed (mkC a r) (by rw [progCons_raw]; exact List.mem_map.2 ⟨r, hr, rfl⟩)
  exact Int.le_trans (mkC_le h r A) this
/- what raw constraints are like -/
structure RawOk (r : Con) : Prop where
  mono : r.mono
  bd : r.bd
  two : ∀ L N : LabF, (∀ t, N t < 2 → L t ≤ 1) → r.src N < 2 → r.src L ≤ 1
theorem valsOf_two {f : Nat} {args : List Int} {L N : LabF} (h : ∀ t, N t < 2 → L t ≤ 1) (hv : valsOf f args N < 2) : valsOf f args L ≤ 1 := by
  unfold valsOf at *
  suffices ∀ (a b : Int), a ≤ 1 → args.foldl (fun a v => imax a (N (.val f v))) b < 2 → args.foldl (fun a v => imax a (L (.val f v))) a ≤ 1 from this 0 0 (by omega) hv
  have grow : ∀ (l : List Int) (b : Int), b ≤ l.foldl (fun a v => imax a (N (.val f v))) b := by
    intro l
    induction l with
    | nil => exact fun b => Int.le_refl _
    | cons v l ih =>
      intro b
      refine Int.le_trans ?_ (ih (imax b (N (.val f v))))
      unfold imax; split <;> omega
  clear hv
  induction args with
  | nil => exact fun a b h _ => h
  | cons v args ih =>
    intro a b ha hb
    have h1 := grow args (imax b (N (.val f v)))
    have h2 : imax b (N (.val f v)) < 2 := Int.lt_of_le_of_lt h1 hb
    have h3 : N (.val f v) < 2 := by unfold imax at h2; split at h2 <;> omega
    exact ih _ _ (imax_bd ha (h _ h3)) hb
theorem staysD_two {a b : Int} (h : b < 2 → a ≤ 1) (hb : staysD b < 2) : staysD a ≤ 1 := by
  have : b < 2 := by unfold staysD at hb; split at hb <;> omega
  exact Int.le_trans (staysD_le a) (h this)
theorem parRaw_ok {g : Nat} {ps : List Int} {src : Nat → LabF → Int} (h : ∀ j, RawOk ⟨.val g 0, src j⟩) (k : Nat) : ∀ c ∈ parRaw g ps src k, RawOk c := by
  intro c hc
  obtain ⟨j, _, rfl⟩ := List.mem_map.1 hc
  exact ⟨(h j).mono, (h j).bd, (h j).two⟩
theorem mayD_one {wr : List Bool} {i : InsD} : mayD wr i ≤ 1 := by unfold mayD; repeat (split; · omega); omega
theorem insRaw_ok {p : ProgD} {wr : List Bool} {f : Nat} {i : InsD} : ∀ c ∈ insRaw p wr f i, RawOk c := by
  intro c hc
  unfold insRaw at hc
  split at hc
  · rw [List.mem_singleton.1 hc]
    exact ⟨fun L M h => Int.le_refl _, fun L h => by show (0 : Int) ≤ 2; omega, fun L N _ _ => by show (0 : Int) ≤ 1; omega⟩
  split at hc
  · rw [List.mem_singleton.1 hc]
    exact ⟨fun L M h => valsOf_mono h, fun L h => valsOf_bd h, fun L N h hv => valsOf_two h hv⟩
  split at hc
  · rw [List.mem_singleton.1 hc]
    refine ⟨fun L M h => imax_mono (imax_mono (h _) (valsOf_mono h)) (Int.le_refl _), fun L h => imax_bd (imax_bd (h _) (valsOf_bd h)) mayD_bd, fun L N h hv => ?_⟩
    have hv : imax (imax (N (.arr i.arr.toNat)) (valsOf f i.args N)) (mayD wr i) < 2 := hv
    have h1 : N (.arr i.arr.toNat) < 2 ∧ valsOf f i.args N < 2 := by
      unfold imax at hv
      split at hv <;> split at hv <;> omega
    exact imax_bd (imax_bd (h _ h1.1) (valsOf_two h h1.2)) mayD_one
  split at hc
  · rw [List.mem_singleton.1 hc]
    exact ⟨fun L M h => valsOf_mono h, fun L h => valsOf_bd h, fun L N h hv => valsOf_two h hv⟩
  split at hc
  · rw [List.mem_singleton.1 hc]
    exact ⟨fun L M h => h _, fun L h => h _, fun L N h hv => h _ hv⟩
  split at hc
  · rcases List.mem_append.1 hc with g | g
    · exact parRaw_ok (src := fun j L => staysD (L (.val f (i.args.getD j 0)))) (fun j => ⟨fun L M h => staysD_mono (h _), fun L h => staysD_bd (h _), fun L N h hv => staysD_two (h _) hv⟩) _ c g
    · rw [List.mem_singleton.1 g]
      exact ⟨fun L M h => h _, fun L h => h _, fun L N h hv => h _ hv⟩
  · cases hc
theorem progRaw_ok {p : ProgD} {wr : List Bool} : ∀ c ∈ progRaw p wr, RawOk c := by
  intro c hc
  obtain ⟨f, _, g⟩ := List.mem_flatMap.1 hc
  obtain ⟨n, _, g⟩ := List.mem_flatMap.1 g
  split at g
  · split at g
    · rename_i b _
      unfold blockRaw at g
      rcases List.mem_append.1 g with g | g
      · rcases List.mem_append.1 g with g | g
        · obtain ⟨i, _, g⟩ := List.mem_flatMap.1 g
          exact insRaw_ok c g
        · obtain ⟨w, _, g⟩ := List.mem_flatMap.1 g
          unfold wayRaw at g
          split at g
          · exact parRaw_ok (src := fun j L => L (.val f (w.args.getD j 0))) (fun j => ⟨fun L M h => h _, fun L h => h _, fun L N h hv => h _ hv⟩) _ c g
          · cases g
      · unfold endRaw at g
        split at g
        · rw [List.mem_singleton.1 g]
          exact ⟨fun L M h => h _, fun L h => h _, fun L N h hv => h _ hv⟩
        · cases g
    · cases g
  · cases g
end Go.Proofs.Ytaefmhephoilmaa

/- Plain: what is secret is so whatever is cut; with all cut nothing is transient. -/
namespace Go.Proofs.Ytaefmhephoilmaa
open Go Go.VL

theorem staysD_idem (x : Int) : staysD (staysD x) = staysD x := by unfold staysD; split <;> simp_all
theorem staysD_one {x : Int} (h : x ≤ 1) : staysD x ≤ 0 := by unfold staysD; split <;> omega
theorem L0_cases (p : ProgD) (t : Tgt) : L0 p t = 0 ∨ (L0 p t = 2 ∧ ∃ i, t = .arr i) := by
  cases t with
  | val f v => exact .inl rfl
  | ret f => exact .inl rfl
  | arr i =>
    unfold L0
    simp only
    split
    · split
      · exact .inr ⟨rfl, i, rfl⟩
      · exact .inl rfl
    · exact .inl rfl
def secM (D : LabF) : LabF := fun t => match t with
  | .val f v => if D (.val f v) = 2 then 2 else 1
  | .arr i => if D (.arr i) = 2 then 2 else 0
  | .ret f => if D (.ret f) = 2 then 2 else 0
theorem same_two {p : ProgD} {wr : List Bool} {a d : CutF} {A D : LabF} (hA : LeastL p a wr A) (hD : LeastL p d wr D) : ∀ t, A t = 2 → D t = 2 := by
  have hM2 : ∀ t, secM D t ≤ 2 := by intro t; cases t <;> (unfold secM; simp only; split <;> omega)
  have hM1 : ∀ t, D t < 2 → secM D t ≤ 1 := by
    intro t ht
    cases t <;> (unfold secM; simp only; rw [if_neg (by omega)]; omega)
  have hup : LeL (L0 p) (secM D) := by
    intro t
    rcases L0_cases p t with e | ⟨e, i, rfl⟩
    · rw [e]; cases t <;> (unfold secM; simp only; split <;> omega)
    · have := hD.ge (.arr i)
      have h2 := hD.le2 (.arr i)
      unfold secM; simp only
      rw [if_pos (by omega), e]
      exact Int.le_refl _
  have hcl : Closed (progCons p a wr) (secM D) := by
    intro c hc
    rw [progCons_raw] at hc
    obtain ⟨r, hr, rfl⟩ := List.mem_map.1 hc
    have ok := progRaw_ok r hr
    have hd := hD.closed (mkC d r) (by rw [progCons_raw]; exact List.mem_map.2 ⟨r, hr, rfl⟩)
    have b1 := ok.bd _ hM2
    have t2 := ok.two (secM D) D hM1
    obtain ⟨t, s⟩ := r
    simp only at b1 t2
    have hs : s D ≤ 2 := ok.bd D hD.le2
    cases t with
    | val g v =>
      have hd : cutS d g v (s D) ≤ D (.val g v) := hd
      show cutS a g v (s (secM D)) ≤ if D (.val g v) = 2 then 2 else 1
      have hle : cutS a g v (s (secM D)) ≤ s (secM D) := by unfold cutS; split; exact staysD_le _; exact Int.le_refl _
      by_cases h : s D < 2
      · have := t2 h
        split <;> omega
      · have e : s D = 2 := by omega
        rw [e] at hd
        have : cutS d g v 2 = 2 := by unfold cutS; split <;> rfl
        have h2 := hD.le2 (.val g v)
        rw [if_pos (by omega)]
        omega
    | arr i =>
      have hd : staysD (s D) ≤ D (.arr i) := hd
      show staysD (s (secM D)) ≤ if D (.arr i) = 2 then 2 else 0
      by_cases h : s D < 2
      · have := staysD_one (t2 h)
        split <;> omega
      · have e : s D = 2 := by omega
        rw [e] at hd
        have : staysD 2 = 2 := rfl
        have h2 := hD.le2 (.arr i)
        rw [if_pos (by omega)]
        exact staysD_bd b1
    | ret i =>
      have hd : staysD (s D) ≤ D (.ret i) := hd
      show staysD (s (secM D)) ≤ if D (.ret i) = 2 then 2 else 0
      by_cases h : s D < 2
      · have := staysD_one (t2 h)
        split <;> omega
      · have e : s D = 2 := by omega
        rw [e] at hd
        have : staysD 2 = 2 := rfl
        have h2 := hD.le2 (.ret i)
        rw [if_pos (by omega)]
        exact staysD_bd b1
  intro t ht
  have h1 := hA.least _ hup hcl t
  have h2 := hD.le2 t
  apply Classical.byContradiction
  intro hn
  have := hM1 t (by omega)
  omega
theorem no_one {p : ProgD} {wr : List Bool} {d : CutF} {D : LabF} (hD : LeastL p d wr D) (hall : ∀ r ∈ progRaw p wr, ∀ g v, r.tgt = .val g v → d g v = true) : ∀ t, D t ≠ 1 := by
  have hle : LeL (fun t => staysD (D t)) D := fun t => staysD_le _
  have hup : LeL (L0 p) (fun t => staysD (D t)) := by
    intro t
    rcases L0_cases p t with e | ⟨e, i, rfl⟩
    · have := hD.ge t
      rw [e] at this ⊢
      exact staysD_mono (a := 0) this
    · have := hD.ge (.arr i)
      rw [e] at this ⊢
      exact staysD_mono (a := 2) this
  have hcl : Closed (progCons p d wr) (fun t => staysD (D t)) := by
    intro c hc
    rw [progCons_raw] at hc
    obtain ⟨r, hr, rfl⟩ := List.mem_map.1 hc
    have ok := progRaw_ok r hr
    have ha := hall r hr
    have hd := hD.closed (mkC d r) (by rw [progCons_raw]; exact List.mem_map.2 ⟨r, hr, rfl⟩)
    have hm := ok.mono _ _ hle
    obtain ⟨t, s⟩ := r
    simp only at hm ha
    have key : staysD (s D) ≤ D t → staysD (s fun t => staysD (D t)) ≤ staysD (D t) := fun h => by
      have h1 := staysD_mono h
      rw [staysD_idem] at h1
      exact Int.le_trans (staysD_mono hm) h1
    cases t with
    | val g v =>
      have hc := ha g v rfl
      have hd : cutS d g v (s D) ≤ D (.val g v) := hd
      show cutS d g v (s fun t => staysD (D t)) ≤ staysD (D (.val g v))
      unfold cutS at hd ⊢
      rw [if_pos hc] at hd ⊢
      exact key hd
    | arr i => exact key hd
    | ret i => exact key hd
  intro t ht
  have h1 : D t ≤ staysD (D t) := hD.least _ hup hcl t
  rw [ht] at h1
  have : staysD 1 = 0 := rfl
  omega
end Go.Proofs.Ytaefmhephoilmaa

/- Plain: where no array is closed nothing is secret; where nothing comes from memory nothing is transient. -/
namespace Go.Proofs.Ytaefmhephoilmaa
open Go Go.VL

theorem valsOf_le {f : Nat} {args : List Int} {L : LabF} {m : Int} (h0 : 0 ≤ m) (h : ∀ t, L t ≤ m) : valsOf f args L ≤ m := by
  unfold valsOf
  suffices ∀ a : Int, a ≤ m → args.foldl (fun a v => imax a (L (.val f v))) a ≤ m from this 0 h0
  induction args with
  | nil => exact fun a h => h
  | cons v args ih => exact fun a ha => ih _ (imax_bd ha (h _))
theorem parRaw_le {g : Nat} {ps : List Int} {src : Nat → LabF → Int} {L : LabF} {m : Int} (h : ∀ j, src j L ≤ m) (k : Nat) : ∀ c ∈ parRaw g ps src k, c.src L ≤ m := by
  intro c hc
  obtain ⟨j, _, rfl⟩ := List.mem_map.1 hc
  exact h j
theorem raw_le {p : ProgD} {wr : List Bool} {m : Int} (h0 : 0 ≤ m) (hm : 1 ≤ m ∨ ∀ i ∈ insOfP p, ¬ (i.op = 3 ∨ i.op = 5)) {L : LabF} (h : ∀ t, L t ≤ m) : ∀ c ∈ progRaw p wr, c.src L ≤ m := by
  intro c hc
  obtain ⟨f, hf, g⟩ := List.mem_flatMap.1 hc
  obtain ⟨n, _, g⟩ := List.mem_flatMap.1 g
  split at g
  · split at g
    · rename_i b hb
      unfold blockRaw at g
      rcases List.mem_append.1 g with g | g
      · rcases List.mem_append.1 g with g | g
        · obtain ⟨i, hi, hc⟩ := List.mem_flatMap.1 g
          have hin : i ∈ insOfP p := by
            have hf : f < p.funcs.length := by simpa using hf
            rw [FuncD.at_eq hf] at hb
            exact List.mem_flatMap.2 ⟨_, List.getElem_mem hf, List.mem_flatMap.2 ⟨b, List.mem_of_getElem? hb, hi⟩⟩
          unfold insRaw at hc
          split at hc
          · rw [List.mem_singleton.1 hc]; exact h0
          split at hc
          · rw [List.mem_singleton.1 hc]; exact valsOf_le h0 h
          split at hc
          · rename_i e
            rw [List.mem_singleton.1 hc]
            rcases hm with hm | hm
            · exact imax_bd (imax_bd (h _) (valsOf_le h0 h)) (Int.le_trans mayD_one hm)
            · exact absurd e (hm i hin)
          split at hc
          · rw [List.mem_singleton.1 hc]; exact valsOf_le h0 h
          split at hc
          · rw [List.mem_singleton.1 hc]; exact h _
          split at hc
          · rcases List.mem_append.1 hc with g | g
            · exact parRaw_le (fun j => Int.le_trans (staysD_le _) (h _)) _ c g
            · rw [List.mem_singleton.1 g]; exact h _
          · cases hc
        · obtain ⟨w, _, g⟩ := List.mem_flatMap.1 g
          unfold wayRaw at g
          split at g
          · exact parRaw_le (fun j => h _) _ c g
          · cases g
      · unfold endRaw at g
        split at g
        · rw [List.mem_singleton.1 g]; exact h _
        · cases g
    · cases g
  · cases g
def flatM (m : Int) : LabF := fun t => match t with
  | .val _ _ => m
  | _ => 0
theorem plain_le {p : ProgD} {cut : CutF} {wr : List Bool} {L : LabF} {m : Int} (hL : LeastL p cut wr L) (hh : ∀ a ∈ p.arrays, a.hold ≠ 2) (h0 : 0 ≤ m) (h1 : m ≤ 1) (hm : 1 ≤ m ∨ ∀ i ∈ insOfP p, ¬ (i.op = 3 ∨ i.op = 5)) : LeL L (flatM m) := by
  have hb : ∀ t, flatM m t ≤ m := by intro t; cases t <;> simp [flatM, h0]
  refine hL.least _ (fun t => ?_) (fun c hc => ?_)
  · rcases L0_cases p t with e | ⟨e, i, rfl⟩
    · rw [e]; cases t <;> simp [flatM, h0]
    · exfalso
      unfold L0 at e
      simp only at e
      split at e
      · rename_i a ha
        rw [if_neg (hh a (List.mem_of_getElem? ha))] at e; cases e
      · cases e
  · rw [progCons_raw] at hc
    obtain ⟨r, hr, rfl⟩ := List.mem_map.1 hc
    have hs := raw_le h0 hm hb r hr
    obtain ⟨t, s⟩ := r
    have hs : s (flatM m) ≤ m := hs
    cases t with
    | val g v =>
      show cutS cut g v (s (flatM m)) ≤ m
      unfold cutS
      split
      · exact Int.le_trans (staysD_le _) hs
      · exact hs
    | arr i => exact staysD_one (by omega)
    | ret i => exact staysD_one (by omega)
/- a program whose arrays are open -/
def openA (a : ArrD) : ArrD := { a with hold := 1 }
def openP (p : ProgD) : ProgD := { p with arrays := p.arrays.map openA }
theorem right_open {p : ProgD} {i : InsD} : rightD (openP p) i = rightD p i := by
  have e : (openP p).arrays[i.arr.toNat]? = (p.arrays[i.arr.toNat]?).map openA := List.getElem?_map
  unfold rightD
  rw [e]
  cases p.arrays[i.arr.toNat]? <;> rfl
theorem ok_open {p : ProgD} (ok : CheckOk p) : CheckOk (openP p) := by
  refine ⟨fun a ha => ?_, ok.main0, ok.main1, ok.main2, fun f hf => ?_⟩
  · obtain ⟨b, hb, rfl⟩ := List.mem_map.1 ha
    obtain ⟨h1, h2, _, _⟩ := ok.arrs b hb
    exact ⟨h1, h2, by show (0 : Int) ≤ 1; omega, by show (1 : Int) ≤ 2; omega⟩
  · obtain ⟨h1, h2, h3, h4, h5⟩ := ok.funcs f hf
    exact ⟨h1, h2, h3, fun b hb => ⟨(h4 b hb).1, fun i hi => by rw [right_open]; exact (h4 b hb).2 i hi⟩, h5⟩
theorem few_open {p : ProgD} (few : FewOk p) : FewOk (openP p) := ⟨by show (p.arrays.map openA).length ≤ 10; rw [List.length_map]; exact few.arrays, few.funcs, few.all⟩
def memB (l : List InsD) : Bool := l.any fun i => decide (i.op = 5 ∨ i.op = 3)
theorem memB_app (l l' : List InsD) : memB (l ++ l') = (memB l || memB l') := List.any_append
theorem memB_one (l : List InsD) (i : InsD) : memB (l ++ [i]) = (memB l || decide (i.op = 5 ∨ i.op = 3)) := by rw [memB_app]; simp [memB]
theorem no_secret {p : ProgD} {wr : List Bool} {L : LabF} (hL : LeastL (openP p) (cutOf []) wr L) : (∀ f v, L (.val f v) ≠ 2) ∧ (∀ f v, L (.val f v) = 1 → memB (insOfP p) = true) ∧ (∀ f, L (.ret f) = 0) ∧ ∀ i, L (.arr i) = 0 := by
  have hh : ∀ a ∈ (openP p).arrays, a.hold ≠ 2 := fun a ha => by
    obtain ⟨b, _, rfl⟩ := List.mem_map.1 ha
    show (1 : Int) ≠ 2
    omega
  have ge0 : ∀ t, 0 ≤ L t := fun t => by
    have := hL.ge t
    rcases L0_cases (openP p) t with e | ⟨e, _⟩ <;> omega
  have h1 := plain_le hL hh (m := 1) (by omega) (by omega) (.inl (by omega))
  refine ⟨fun f v e => ?_, fun f v e => ?_, fun f => ?_, fun i => ?_⟩
  · have := h1 (.val f v)
    rw [e] at this
    have : (2 : Int) ≤ 1 := this
    omega
  · apply Classical.byContradiction
    intro hn
    have h2 := plain_le hL hh (m := 0) (by omega) (by omega) (.inr fun i hi e => hn (List.any_eq_true.2 ⟨i, hi, by simpa using e.symm⟩)) (.val f v)
    rw [e] at h2
    have : (1 : Int) ≤ 0 := h2
    omega
  · have h2 : L (.ret f) ≤ 0 := h1 (.ret f)
    have := ge0 (.ret f)
    omega
  · have h2 : L (.arr i) ≤ 0 := h1 (.arr i)
    have := ge0 (.arr i)
    omega
end Go.Proofs.Ytaefmhephoilmaa

/- Own slices of structs: elements, fields, stores. -/
namespace Go.VL
open Go

section
variable {α : Type} {enc : α → List Value} {sz : Nat}
theorem flat_len (he : ∀ x, (enc x).length = sz) : ∀ l : List α, (l.flatMap enc).length = l.length * sz
  | [] => by simp
  | x :: l => by rw [List.flatMap_cons, List.length_append, he, flat_len he l, List.length_cons, Nat.add_mul]; omega
theorem flat_get (he : ∀ x, (enc x).length = sz) : ∀ {l : List α} {k j : Nat} (hk : k < l.length), j < sz → (l.flatMap enc)[k * sz + j]? = (enc l[k])[j]?
  | [], k, j, hk, _ => by simp at hk
  | x :: l, 0, j, hk, hj => by
    rw [List.flatMap_cons, Nat.zero_mul, Nat.zero_add, List.getElem?_append_left (by rw [he]; exact hj)]; rfl
  | x :: l, k + 1, j, hk, hj => by
    rw [List.flatMap_cons, List.getElem?_append_right (by rw [he, Nat.add_mul]; omega), he, show (k + 1) * sz + j - sz = k * sz + j by rw [Nat.add_mul]; omega]
    exact flat_get he (by simpa using hk) hj
def repEnc (enc : α → List Value) (h : V) (a : Addr) (x : α) : Prop := cellsAt h a 0 (enc x)
theorem mono_enc : Mono (repEnc enc) := fun _ _ _ _ l h => cellsAt_le l h
theorem OwnS.slN {h0 h : V} {s : Sl} {T : TypeId} {l : List α} (he : ∀ x, (enc x).length = sz) (hz : 0 < sz) (o : OwnS h0 h s T sz (l.flatMap enc)) : isSl (repEnc enc) sz h s l := by
  have h1 : s.n = l.length := by
    have := o.1; rw [flat_len he] at this; exact (Nat.eq_of_mul_eq_mul_right hz this).symm
  refine ⟨h1, o.2.1, by have := o.2.2.1; omega, fun k hk => ?_⟩
  have h2 : ∃ v, (l.flatMap enc)[k * sz]? = some v := by
    have := flat_get he hk (j := 0) hz
    rw [Nat.add_zero] at this
    rw [this, List.getElem?_eq_getElem (by rw [he]; exact hz)]
    exact ⟨_, rfl⟩
  obtain ⟨v, hv⟩ := h2
  obtain ⟨a, ha, _⟩ := o.cell hv
  refine ⟨a, ha, cellsAt_of fun j w hw => ?_⟩
  have hj : j < sz := by have := (List.getElem?_eq_some_iff.1 hw).1; rwa [he] at this
  obtain ⟨a', ha', hc⟩ := o.cell ((flat_get he hk hj).trans hw)
  rw [ha] at ha'; cases ha'
  rw [Nat.zero_add, Addr.add_add]; exact hc
theorem flat_set (he : ∀ x, (enc x).length = sz) : ∀ {l : List α} {i : Nat} {x : α}, i < l.length → (l.set i x).flatMap enc = (l.flatMap enc).take (i * sz) ++ enc x ++ (l.flatMap enc).drop (i * sz + sz)
  | [], i, x, hi => by simp at hi
  | y :: l, 0, x, hi => by
    simp only [List.set_cons_zero, List.flatMap_cons, Nat.zero_mul, List.take_zero, List.nil_append, Nat.zero_add]
    rw [List.drop_append_of_le_length (by rw [he]; exact Nat.le_refl _), List.drop_of_length_le (by rw [he]; exact Nat.le_refl _), List.nil_append]
  | y :: l, i + 1, x, hi => by
    have ih := flat_set he (l := l) (i := i) (x := x) (by simpa using hi)
    simp only [List.set_cons_succ, List.flatMap_cons]
    rw [ih, show (i + 1) * sz = (enc y).length + i * sz by rw [he, Nat.add_mul]; omega, List.take_append, show (enc y).length + i * sz + sz = (enc y).length + (i * sz + sz) by omega, List.drop_append, List.take_of_length_le (show (enc y).length ≤ (enc y).length + i * sz by omega), List.drop_of_length_le (show (enc y).length ≤ (enc y).length + (i * sz + sz) by omega)]
    simp
/- a store of some of an element's cells -/
theorem OwnS.setN {h0 h : V} {s : Sl} {T : TypeId} {l : List α} {K : V → Prop} {i : Nat} {d : Nat} {vs : List Value} (x : α) (he : ∀ x, (enc x).length = sz) (o : OwnS h0 h s T sz (l.flatMap enc)) (hle : Le h0 h) (hi : i < l.length)
    (hx : enc x = (enc l[i]).take d ++ vs ++ (enc l[i]).drop (d + vs.length)) (hd : d + vs.length ≤ sz) (hz : 0 < sz)
    (hk : ∀ h', Le h0 h' → OwnS h0 h' s T sz ((l.set i x).flatMap enc) → (∀ b, (∀ a, s.a = some a → b ≠ a.block) → h' b = h b) → K h') : Ix s (i : Int) sz fun a => StL h (a.add d) 0 vs K := by
  have hsn : s.n = l.length := by
    have := o.1; rw [flat_len he] at this; exact (Nat.eq_of_mul_eq_mul_right hz this).symm
  have hfl := flat_len he l
  obtain ⟨h1, h2, h3, h4⟩ := o
  have him : i * sz + sz ≤ s.n * sz := by
    have : (i + 1) * sz ≤ s.n * sz := Nat.mul_le_mul_right _ (by omega)
    rw [Nat.add_mul] at this; omega
  rcases h4 with ⟨ha, hc⟩ | ⟨r, off, arr, ha, hr0, hr, hsz, ht⟩
  · omega
  · refine ⟨_, ha, by omega, by omega, ?_⟩
    have hcm : s.n * sz ≤ s.c * sz := Nat.mul_le_mul_right _ h2
    show StL h (Addr.add (Addr.add ⟨r, off, none⟩ ((i : Int).toNat * sz)) d) 0 vs K
    rw [add_at, add_at, Int.toNat_natCast]
    refine StL_at (h := h) vs arr 0 h (by omega) hr (fun _ _ => rfl) ?_
    rintro h' ⟨arr', hr', hs', he'⟩ hF
    refine hk h' (fun b y hb => (hF b (fun e => by subst e; rw [hr0] at hb; cases hb)).trans (hle _ _ hb)) ⟨by rw [flat_len he, List.length_set, hsn], h2, h3, .inr ⟨r, off, arr', ha, hr0, hr', by rw [hs']; exact hsz, ?_⟩⟩ (fun b hb => hF b (hb _ ha))
    rw [flat_set he hi, hx]
    -- what the element's cells were
    have helt : enc l[i] = ((l.flatMap enc).drop (i * sz)).take sz := by
      apply List.ext_getElem?
      intro j
      by_cases hj : j < sz
      · rw [List.getElem?_take_of_lt hj, List.getElem?_drop, flat_get he hi hj]
      · rw [List.getElem?_take_eq_none (by omega), List.getElem?_eq_none (by rw [he]; omega)]
    rw [he', helt]
    simp only [Nat.add_zero]
    rw [← ht]
    apply List.ext_getElem?
    intro j
    rcases Nat.lt_or_ge j (s.n * sz) with hj | hj
    case inr =>
      rw [List.getElem?_take_eq_none (by omega), List.getElem?_eq_none]
      simp only [List.length_append, List.length_take, List.length_drop, Array.length_toList]
      omega
    rw [List.getElem?_take_of_lt hj, List.getElem?_drop]
    have hal : arr.toList.length = arr.size := Array.length_toList
    by_cases c1 : j < i * sz + d
    · rw [List.append_assoc, List.getElem?_append_left (by rw [List.length_take]; omega), List.getElem?_take_of_lt (by omega)]
      by_cases c0 : j < i * sz
      · rw [List.append_assoc, List.getElem?_append_left (by simp only [List.length_take, List.length_drop]; omega), List.getElem?_take_of_lt c0, List.getElem?_take_of_lt hj, List.getElem?_drop]
      · have e0 : (List.take (i * sz) (List.take (s.n * sz) (List.drop off arr.toList))).length = i * sz := by simp only [List.length_take, List.length_drop]; omega
        rw [List.append_assoc, List.getElem?_append_right (by rw [e0]; omega), e0, List.append_assoc, List.append_assoc, List.getElem?_append_left (by simp only [List.length_take, List.length_drop]; omega)]
        rw [List.getElem?_take_of_lt (by omega), List.getElem?_take_of_lt (by omega), List.getElem?_drop, List.getElem?_take_of_lt (by omega), List.getElem?_drop]
        congr 1; omega
    · have e1 : (List.take (off + (i * sz + d)) arr.toList).length = off + (i * sz + d) := by rw [List.length_take]; omega
      have e0 : (List.take (i * sz) (List.take (s.n * sz) (List.drop off arr.toList))).length = i * sz := by simp only [List.length_take, List.length_drop]; omega
      have e2 : (List.take d (List.take sz (List.drop (i * sz) (List.take (s.n * sz) (List.drop off arr.toList))))).length = d := by simp only [List.length_take, List.length_drop]; omega
      have eo : off + i * sz + d = off + (i * sz + d) := by omega
      rw [eo, List.append_assoc, List.getElem?_append_right (by rw [e1]; omega), e1, show off + j - (off + (i * sz + d)) = j - (i * sz + d) by omega]
      conv => rhs; rw [List.append_assoc, List.getElem?_append_right (by rw [e0]; omega), e0, List.append_assoc, List.append_assoc, List.getElem?_append_right (by rw [e2]; omega), e2, show j - i * sz - d = j - (i * sz + d) by omega]
      by_cases c2 : j - (i * sz + d) < vs.length
      · rw [List.getElem?_append_left c2, List.getElem?_append_left c2]
      · rw [List.getElem?_append_right (by omega), List.getElem?_drop]
        conv => rhs; rw [List.getElem?_append_right (by omega)]
        have e3 : (List.drop (d + vs.length) (List.take sz (List.drop (i * sz) (List.take (s.n * sz) (List.drop off arr.toList))))).length = sz - (d + vs.length) := by simp only [List.length_take, List.length_drop]; omega
        by_cases c3 : j < i * sz + sz
        · rw [List.getElem?_append_left (by rw [e3]; omega), List.getElem?_drop, List.getElem?_take_of_lt (by omega), List.getElem?_drop, List.getElem?_take_of_lt (by omega), List.getElem?_drop]
          congr 1; omega
        · rw [List.getElem?_append_right (by rw [e3]; omega), e3, List.getElem?_drop, List.getElem?_take_of_lt (by omega), List.getElem?_drop]
          congr 1; omega
theorem OwnS.rebaseN {h0 h1 h : V} {s : Sl} {T : TypeId} {sz : Nat} {cs : List Value} (o : OwnS h0 h s T sz cs) (hn : ∀ a, s.a = some a → h1 a.block = none) : OwnS h1 h s T sz cs := by
  obtain ⟨a1, a2, a3, a4⟩ := o
  refine ⟨a1, a2, a3, a4.imp id ?_⟩
  rintro ⟨r, off, arr, a, b, c, d⟩
  exact ⟨r, off, arr, a, hn _ a, c, d⟩
/- one struct more -/
theorem App_enc {h0 h : V} {s : Sl} {T : TypeId} {bytes r : Nat} {x : α} {zero : List Value} {l : List α} {K : Sl → V → Prop} {t : TypeId} (he : ∀ x, (enc x).length = sz) (hz : 0 < sz) (hle : Le h0 h) (o : OwnS h0 h s T sz (l.flatMap enc)) (b : Box h r (enc x) t) (h1 : (enc x).all oneCell = true) (hzl : zero.length = sz) (hpos : 0 < bytes) (hb : (l.length + 1) * bytes ≤ 140737488355328)
    (hk : ∀ s' h', Le h0 h' → OwnS h0 h' s' T sz ((l ++ [x]).flatMap enc) → s'.n = l.length + 1 → (∀ b, (∀ a, s.a = some a → b ≠ a.block) → h b ≠ none → h' b = h b) → (∀ a', s'.a = some a' → (∃ a, s.a = some a ∧ a'.block = a.block) ∨ h a'.block = none) → K s' h') : App h s ⟨some ⟨r, 0, none⟩, 1, 1⟩ T sz bytes zero K := by
  have hsn : s.n = l.length := by
    have := o.1; rw [flat_len he] at this; exact (Nat.eq_of_mul_eq_mul_right hz this).symm
  refine App_own hle o ⟨by rw [he]; simp, fun a ha => by cases ha; exact b.cells⟩ (fun ha => by cases ha) h1 hzl hpos (by rw [hsn]; exact hb) fun s' h' l' o' n' f' d' => hk s' h' l' (by simpa using o') (by rw [n', hsn]) f' d'
end
/- the beginning of a slice, no longer than it may be -/
theorem Slc_one {α : Type} {rep : V → Addr → α → Prop} {h : V} {s : Sl} {x : α} {l : List α} {K : Sl → Prop} (hs : isSl rep 1 h s (x :: l)) (hk : ∀ s', isSl rep 1 h s' [x] → K s') : Slc s none (some 1) (some 1) 1 K := by
  obtain ⟨h1, h2, h3, h4⟩ := hs
  simp only [List.length_cons] at h1
  refine ⟨by simp, by simp, by simp, by simp; omega, hk _ ⟨rfl, by simp, by simp, fun k hk' => ?_⟩⟩
  have e : k = 0 := by simp at hk'; omega
  subst e
  obtain ⟨a, ha, hr⟩ := h4 0 (by simp)
  refine ⟨a.add 0, ?_, ?_⟩
  · simp [ha]
  · rw [Addr.add_add]
    simpa using hr
end Go.VL

/- Own slices that lie apart; what is new in a view; views without a slice's block. -/
namespace Go.VL
open Go

def neB (s t : Sl) : Prop := ∀ a b, s.a = some a → t.a = some b → a.block ≠ b.block
theorem neB.symm {s t : Sl} (h : neB s t) : neB t s := fun a b ha hb e => h b a hb ha e.symm
def V.sub (h' h : V) : V := fun b => match h b with | none => h' b | some _ => none
def V.ex (h : V) (s : Sl) : V := fun b => match s.a with | some a => if b = a.block then none else h b | none => h b
theorem V.sub_le (h' h : V) : Le (V.sub h' h) h' := fun b o hb => by
  unfold V.sub at hb
  cases hx : h b with
  | none => rw [hx] at hb; exact hb
  | some x => rw [hx] at hb; cases hb
theorem V.sub_in {h' h : V} {b : Nat} (hb : h b = none) : V.sub h' h b = h' b := by unfold V.sub; rw [hb]
theorem V.sub_mono {h' h'' h : V} (l : Le h' h'') : Le (V.sub h' h) (V.sub h'' h) := fun b o hb => by
  unfold V.sub at hb ⊢
  cases hx : h b with
  | none => rw [hx] at hb; exact l _ _ hb
  | some x => rw [hx] at hb; cases hb
theorem V.ex_le (h : V) (s : Sl) : Le (V.ex h s) h := fun b o hb => by
  unfold V.ex at hb
  cases hx : s.a with
  | none => rw [hx] at hb; exact hb
  | some a =>
    rw [hx] at hb
    by_cases e : b = a.block
    · simp only [if_pos e] at hb; cases hb
    · simp only [if_neg e] at hb; exact hb
theorem V.ex_in {h : V} {s : Sl} {b : Nat} (hb : ∀ a, s.a = some a → b ≠ a.block) : V.ex h s b = h b := by
  unfold V.ex
  cases hx : s.a with
  | none => rfl
  | some a => exact if_neg (hb a hx)
theorem V.ex_out {h : V} {s : Sl} {b : Nat} {o : Obj} (hb : V.ex h s b = some o) : ∀ a, s.a = some a → b ≠ a.block := fun a ha e => by
  unfold V.ex at hb
  rw [ha] at hb
  simp only [if_pos e] at hb
  cases hb
theorem V.ex_mono {h h' : V} {s : Sl} (l : Le h h') : Le (V.ex h s) (V.ex h' s) := fun b o hb => by
  have hn := V.ex_out hb
  rw [V.ex_in hn] at hb ⊢
  exact l _ _ hb
theorem V.ex_set {h h' : V} {s : Sl} (f : ∀ b, (∀ a, s.a = some a → b ≠ a.block) → h' b = h b) : Le (V.ex h s) (V.ex h' s) := fun b o hb => by
  have hn := V.ex_out hb
  rw [V.ex_in hn] at hb ⊢
  rw [f b hn]; exact hb
theorem OwnS.ne {h0 h1 h2 : V} {s t : Sl} {T T' : TypeId} {sz sz' : Nat} {cs cs' : List Value} (o : OwnS h0 h1 s T sz cs) (o' : OwnS h1 h2 t T' sz' cs') : neB s t := fun a b ha hb e => by
  obtain ⟨_, arr, h⟩ := o.blk ha
  rw [e, (o'.blk hb).1] at h; cases h
theorem OwnS.exs {h0 h : V} {s x : Sl} {T : TypeId} {sz : Nat} {cs : List Value} (o : OwnS h0 h s T sz cs) (hn : neB s x) : OwnS h0 (V.ex h x) s T sz cs :=
  o.frame fun a ob ha hob => by rw [V.ex_in fun b hb => hn a b ha hb]; exact hob
theorem OwnS.subs {h0 h : V} {s : Sl} {T : TypeId} {sz : Nat} {cs : List Value} (o : OwnS h0 h s T sz cs) : OwnS h0 (V.sub h h0) s T sz cs :=
  o.frame fun a ob ha hob => by rw [V.sub_in (o.blk ha).1]; exact hob
theorem OwnS.off {h0 h h' : V} {s x : Sl} {T : TypeId} {sz : Nat} {cs : List Value} (o : OwnS h0 h s T sz cs) (hn : neB s x) (f : ∀ b, (∀ a, x.a = some a → b ≠ a.block) → h' b = h b) : OwnS h0 h' s T sz cs :=
  o.frame fun a ob ha hob => (f _ fun b hb => hn a b ha hb).trans hob
theorem cellq_ex {h : V} {s : Sl} {a : Addr} (hn : ∀ b, s.a = some b → b.block ≠ a.block) : cellq (V.ex h s) a = cellq h a := by
  unfold cellq
  rw [V.ex_in fun b hb e => hn b hb e.symm]
/- a slice that came in, as what its elements' cells are -/
theorem isSl_enc {α β : Type} {rep : V → Addr → α → Prop} {Q : α → β → Prop} {enc : β → List Value} {sz : Nat} {h : V} (he : ∀ x, (enc x).length = sz) (hr : ∀ a x, rep h a x → ∃ y, Q x y ∧ cellsAt h a 0 (enc y)) {s : Sl} : ∀ {xs : List α}, isSl rep sz h s xs →
    ∃ ys : List β, ys.length = xs.length ∧ (∀ (k : Nat) x y, xs[k]? = some x → ys[k]? = some y → Q x y) ∧ slCells h s sz (ys.flatMap enc) ∧ (s.a = none → s.n = 0) := by
  intro xs hs
  obtain ⟨h1, h2, h3, h4⟩ := hs
  have key : ∀ n, n ≤ xs.length → ∃ ys : List β, ys.length = n ∧ (∀ (k : Nat) x y, xs[k]? = some x → ys[k]? = some y → Q x y) ∧ ∀ (k : Nat) y, ys[k]? = some y → ∃ a, s.a = some a ∧ cellsAt h (a.add (k * sz)) 0 (enc y) := by
    intro n
    induction n with
    | zero => intro _; exact ⟨[], rfl, by simp, by simp⟩
    | succ n ih =>
      intro hn
      obtain ⟨ys, e1, e2, e3⟩ := ih (by omega)
      obtain ⟨a, ha, hra⟩ := h4 n (by omega)
      obtain ⟨y, hy1, hy2⟩ := hr _ _ hra
      refine ⟨ys ++ [y], by simp [e1], fun k x z hx hz => ?_, fun k z hz => ?_⟩
      · rcases Nat.lt_or_ge k ys.length with g | g
        · rw [List.getElem?_append_left g] at hz; exact e2 k x z hx hz
        · rw [List.getElem?_append_right g] at hz
          have : k = ys.length := by have := (List.getElem?_eq_some_iff.1 hz).1; simp at this; omega
          subst this
          rw [e1, List.getElem?_eq_getElem (by omega)] at hx
          simp at hz; cases hx; subst hz; exact hy1
      · rcases Nat.lt_or_ge k ys.length with g | g
        · rw [List.getElem?_append_left g] at hz; exact e3 k z hz
        · rw [List.getElem?_append_right g] at hz
          have : k = ys.length := by have := (List.getElem?_eq_some_iff.1 hz).1; simp at this; omega
          subst this
          simp at hz; subst hz
          exact ⟨a, ha, by rw [e1]; exact hy2⟩
  obtain ⟨ys, e1, e2, e3⟩ := key xs.length (Nat.le_refl _)
  refine ⟨ys, e1, e2, ⟨by rw [flat_len he, h1, e1], fun a ha => cellsAt_of fun j v hv => ?_⟩, fun ha => ?_⟩
  · have hj : j < ys.length * sz := by have := (List.getElem?_eq_some_iff.1 hv).1; rwa [flat_len he] at this
    have hz : 0 < sz := by
      rcases Nat.eq_zero_or_pos sz with e | e
      · subst e; omega
      · exact e
    have hk : j / sz < ys.length := Nat.div_lt_of_lt_mul (by rw [Nat.mul_comm]; exact hj)
    have hm : j % sz < sz := Nat.mod_lt _ hz
    have ej : j = j / sz * sz + j % sz := (Nat.div_add_mod' j sz).symm
    rw [ej, flat_get he hk hm] at hv
    obtain ⟨a', ha', hc⟩ := e3 _ _ (List.getElem?_eq_getElem hk)
    rw [ha] at ha'; cases ha'
    have := cellsAt_get hc _ _ hv
    rw [Nat.zero_add, Addr.add_add] at this
    rw [Nat.zero_add, ej]; exact this
  · rcases Nat.eq_zero_or_pos s.n with g | g
    · exact g
    · obtain ⟨a, ha', _⟩ := h4 0 (by omega)
      rw [ha] at ha'; cases ha'
/- slices.Clone -/
theorem clone_own {α : Type} {enc : α → List Value} {sz bytes : Nat} {T : TypeId} {zero : List Value} {h : V} {s : Sl} {ys : List α} {R : Value → V → Prop} (he : ∀ x, (enc x).length = sz) (hz : 0 < sz) (hc : slCells h s sz (ys.flatMap enc)) (h0 : s.a = none → s.n = 0) (h1 : ∀ x, (enc x).all oneCell = true) (hzl : zero.length = sz) (hpos : 0 < bytes) (hb : ys.length * bytes ≤ 140737488355328)
    (hR : ∀ s' h', Le h h' → OwnS h h' s' T sz (ys.flatMap enc) → R (sV s') h') :
    cond (Option.isNone s.a) (Wk h fun h1 => R (.slice none 0 0) h1) (New h (.cells #[] T) fun r5 h2 => App h2 ⟨some ⟨r5, 0, none⟩, 0, 0⟩ s T sz bytes zero fun s7 h3 => Wk h3 fun h4 => R (.slice s7.a s7.n s7.c) h4) := by
  have hn : s.n = ys.length := by have := hc.1; rw [flat_len he] at this; exact (Nat.eq_of_mul_eq_mul_right hz this).symm
  refine cond_b (fun hnn => ?_) (fun hnn => ?_)
  · have ha : s.a = none := by simpa using hnn
    have : ys = [] := List.eq_nil_of_length_eq_zero (by rw [← hn, h0 ha])
    subst this
    exact Wk_self (hR ⟨none, 0, 0⟩ _ (Le.refl _) (OwnS_nil _ _ _ _))
  · refine New_box fun r5 h2 hr l2 b5 => ?_
    have o : OwnS h h2 ⟨some ⟨r5, 0, none⟩, 0, 0⟩ T sz [] := ⟨by simp, Nat.le_refl _, Nat.zero_le _, .inr ⟨r5, 0, #[], rfl, hr, b5, by simp, by simp⟩⟩
    have hc2 : slCells h2 s sz (ys.flatMap enc) := ⟨hc.1, fun a ha => cellsAt_le l2 (hc.2 a ha)⟩
    refine App_own l2 o hc2 h0 ?_ hzl hpos (by show (0 + s.n) * bytes ≤ _; rw [hn, Nat.zero_add]; exact hb) fun s' h' l' o' _ f _ => Wk_self (hR s' h' l' (by simpa using o'))
    rw [List.all_flatMap]
    exact List.all_eq_true.2 fun x _ => h1 x
theorem ex_step {h h' : V} {x : Sl} (l : Le (V.ex h x) (V.ex h' x)) {b : Nat} {o : Obj} (hb : h b = some o) (hn : ∀ a, x.a = some a → b ≠ a.block) : h' b = some o := by
  have := l b o (by rw [V.ex_in hn]; exact hb)
  rwa [V.ex_in hn] at this
theorem Box.st {hh : V} {r i : Nat} {vs : List Value} {T : TypeId} {v : Value} {K : V → Prop} (b : Box hh r vs T) (hi : i < vs.length) (hK : ∀ h', Box h' r (vs.set i v) T → (∀ q, q ≠ r → h' q = hh q) → K h') : StL hh (Addr.add ⟨r, 0, none⟩ i) 0 [v] K := by
  have e : Addr.add (Addr.add ⟨r, 0, none⟩ i) 0 = ⟨r, i, none⟩ := by rw [Addr.add_z, add_at, Nat.zero_add]
  unfold StL
  rw [e]
  refine ⟨⟨_, _, 0, 0, b, rfl, by simpa using hi, by simp⟩, ?_⟩
  unfold StL
  refine hK _ ?_ (fun q hq => setc_ne (a := ⟨r, i, none⟩) hq v)
  unfold Box
  have := setc_self (h := hh) (a := ⟨r, i, none⟩) b v
  rw [this]
  simp
theorem OwnS.nbox {h0 h : V} {s : Sl} {T : TypeId} {sz : Nat} {cs : List Value} {r : Nat} {o' : Obj} (o : OwnS h0 h s T sz cs) (hr : h0 r = some o') {a : Addr} (ha : s.a = some a) : a.block ≠ r := fun e => by
  have := (o.blk ha).1
  rw [e, hr] at this; cases this
theorem OwnS.offb {h0 h h' : V} {s : Sl} {r : Nat} {T : TypeId} {sz : Nat} {cs : List Value} (o : OwnS h0 h s T sz cs) (hn : ∀ a, s.a = some a → a.block ≠ r) (f : ∀ b, b ≠ r → h' b = h b) : OwnS h0 h' s T sz cs :=
  o.frame fun a ob ha hob => (f _ (hn a ha)).trans hob
theorem add2 {h h4 : V} {r1 r2 : Nat} {o1 o2 : Obj} (l : Le h h4) (n1 : h r1 = none) (n2 : h r2 = none) (b1 : h4 r1 = some o1) (b2 : h4 r2 = some o2) : ∃ hB, Le h hB ∧ Le hB h4 ∧ hB r1 = some o1 ∧ hB r2 = some o2 ∧ ∀ b, hB b ≠ none → h b ≠ none ∨ b = r1 ∨ b = r2 := by
  refine ⟨fun b => if b = r1 then some o1 else if b = r2 then some o2 else h b, fun b o hb => ?_, fun b o hb => ?_, by simp, ?_, fun b hb => ?_⟩
  · have e1 : b ≠ r1 := fun e => by rw [e, n1] at hb; cases hb
    have e2 : b ≠ r2 := fun e => by rw [e, n2] at hb; cases hb
    simp only [if_neg e1, if_neg e2]; exact hb
  · by_cases e1 : b = r1
    · simp only [if_pos e1] at hb; cases hb; rw [e1]; exact b1
    · by_cases e2 : b = r2
      · simp only [if_neg e1, if_pos e2] at hb; cases hb; rw [e2]; exact b2
      · simp only [if_neg e1, if_neg e2] at hb; exact l _ _ hb
  · by_cases e : r2 = r1
    · simp only [if_pos e]; rw [← b1, ← b2, e]
    · simp only [if_neg e, if_true]
  · by_cases e1 : b = r1
    · exact .inr (.inl e1)
    · by_cases e2 : b = r2
      · exact .inr (.inr e2)
      · simp only [if_neg e1, if_neg e2] at hb; exact .inl hb
end Go.VL

/- What functions of the program ask of a view of memory: printed by shal.py. -/
namespace Go.Proofs.Ytaefmhephoilmaa
open Go Go.VL
set_option maxRecDepth 100000
/- palings/taint.Known -/
def an16 : An := (.two .nil (.two (.one (.cut [(3, (.one .bool))] .nil (.two (.two .nil .nil) (.two .nil (.two (.two .nil .nil) .nil))))) (.two .nil .nil)))
def S16 (p0_0 : Int) (p0_1 : Int) (p0_2 : Sl) (p0_3 : Int) (p0_4 : Int) (p0_5 : Int) (p0_6 : Int) (h : V) (R : Value → V → Prop) : Prop :=
  New h (.cells #[(.int .i64 p0_0), (.int .i64 p0_1), (.slice p0_2.a p0_2.n p0_2.c), (.int .i64 p0_3), (.int .i64 p0_4), (.int .i64 p0_5), (.int .i64 p0_6)] 60) fun r1 h1 =>
  Cut (σ := (Bool × Unit)) (fun s h2 =>
  cond s.1
  (Ld h2 (Addr.add (⟨r1, 0, none⟩) 2) .sl fun (x19 : Sl) =>
  Slc x19 none (some ((1 : Int))) (some ((1 : Int))) 1 fun s20 =>
  Wk h2 fun h3 => R (.slice s20.a s20.n s20.c) h3)
  (Ld h2 (Addr.add (⟨r1, 0, none⟩) 0) (.int .i64) fun (x23 : Int) =>
  cond (x23 == ((2 : Int)))
  (Ld h2 (Addr.add (⟨r1, 0, none⟩) 4) (.int .i64) fun (x27 : Int) =>
  CallK Try.prog 34 [(.int .i64 x27)] h2 (.un (.one .bool)) fun (x28 : Bool) h4 =>
  cond x28
  (Ld h4 (Addr.add (⟨r1, 0, none⟩) 2) .sl fun (x31 : Sl) =>
  App h4 ⟨none, 0, 0⟩ x31 3 1 8 [(.int .i64 ((0 : Int)))] fun s32 h5 =>
  Wk h5 fun h6 => R (.slice s32.a s32.n s32.c) h6)
  (Wk h4 fun h7 => R (.slice none 0 0) h7))
  (Wk h2 fun h8 => R (.slice none 0 0) h8))) fun J =>
  Ld h1 (Addr.add (⟨r1, 0, none⟩) 0) (.int .i64) fun (x5 : Int) =>
  cond (x5 == ((5 : Int)))
  (Ld h1 (Addr.add (⟨r1, 0, none⟩) 2) .sl fun (x14 : Sl) =>
  Wk h1 fun h9 => J (decide ((((x14.n : Nat) : Int)) > ((0 : Int))), ()) h9)
  (Ld h1 (Addr.add (⟨r1, 0, none⟩) 0) (.int .i64) fun (x9 : Int) =>
  cond (x9 == ((6 : Int)))
  (Ld h1 (Addr.add (⟨r1, 0, none⟩) 2) .sl fun (x14_1 : Sl) =>
  Wk h1 fun h10 => J (decide ((((x14_1.n : Nat) : Int)) > ((0 : Int))), ()) h10)
  (Wk h1 fun h11 => J (false, ()) h11))
theorem S16_eq (p0_0 : Int) (p0_1 : Int) (p0_2 : Sl) (p0_3 : Int) (p0_4 : Int) (p0_5 : Int) (p0_6 : Int) (h : V) (R : Value → V → Prop) : ABody Try.prog an16 Try.f16 [(.agg ⟨[(.int .i64 p0_0), (.int .i64 p0_1), (.slice p0_2.a p0_2.n p0_2.c), (.int .i64 p0_3), (.int .i64 p0_4), (.int .i64 p0_5), (.int .i64 p0_6)]⟩)] h R = S16 p0_0 p0_1 p0_2 p0_3 p0_4 p0_5 p0_6 h R := by kernel_rfl
theorem S16_ok (p0_0 : Int) (p0_1 : Int) (p0_2 : Sl) (p0_3 : Int) (p0_4 : Int) (p0_5 : Int) (p0_6 : Int) (h : V) (R : Value → V → Prop) (hk : S16 p0_0 p0_1 p0_2 p0_3 p0_4 p0_5 p0_6 h R) : ACalls Try.prog 16 [(.agg ⟨[(.int .i64 p0_0), (.int .i64 p0_1), (.slice p0_2.a p0_2.n p0_2.c), (.int .i64 p0_3), (.int .i64 p0_4), (.int .i64 p0_5), (.int .i64 p0_6)]⟩)] h R :=
  ABody_sound mixed Try.func16 Try.call16 (by kernel_rfl) (by kernel_rfl) (an := an16) (by rw [S16_eq]; exact hk)

/- palings/taint.Sinks -/
def an17 : An := (.two .nil (.two .nil (.two (.two .nil (.one (.loop [(5, (.one .sl)), (18, (.one (.int .i64)))] (.two .nil (.two (.two .nil .nil) (.two (.one (.two .nil (.two (.two .nil (.two (.two .nil .nil) .nil)) (.two .nil (.one (.loop [(5, (.one .sl)), (31, (.one (.int .i64)))] (.two .nil (.two (.two .nil .nil) (.two (.one (.two .nil (.two (.two .nil (.one (.loop [(5, (.one .sl)), (39, (.one (.int .i64)))] (.two .nil (.two (.two .nil .nil) (.two (.one (.two .nil (.two .nil (.one (.loop [(5, (.one .sl)), (47, (.one (.int .i64)))] (.two .nil (.two (.two .nil .nil) (.two (.one (.two .nil (.two .nil (.two .nil (.two .nil .nil))))) .nil)))))))) .nil)))))) (.cut [(86, (.one .bool))] (.perm [0, 1, 2, 3, 4, 5, 6, 7, 8, 9, 10, 11, 12, 13, 14, 15] []) (.two (.perm [0, 1, 2, 3, 4, 5, 6, 7, 8, 9, 10, 11, 12, 13, 14, 15, 16, 17, 18, 19, 20, 21] []) .nil))))) .nil))))))))) .nil)))))) (.two .nil .nil))))
def S17 (p0_0 : Sl) (p0_1 : Sl) (p0_2 : Int) (p1_0 : Sl) (p1_1 : Sl) (p1_2 : Sl) (p1_3 : Sl) (h : V) (R : Value → V → Prop) : Prop :=
  New h (.cells #[(.slice p0_0.a p0_0.n p0_0.c), (.slice p0_1.a p0_1.n p0_1.c), (.int .i64 p0_2)] 25) fun r2 h1 =>
  New h1 (.cells #[(.slice p1_0.a p1_0.n p1_0.c), (.slice p1_1.a p1_1.n p1_1.c), (.slice p1_2.a p1_2.n p1_2.c), (.slice p1_3.a p1_3.n p1_3.c)] 33) fun r3 h2 =>
  Ld h2 (Addr.add (⟨r2, 0, none⟩) 1) .sl fun (x16 : Sl) =>
  Lp (σ := (Sl × Int × Unit)) (fun K s h3 =>
  cond (decide (s.2.1 < (((x16.n : Nat) : Int))))
  (Ix x16 s.2.1 2 fun a21 =>
  LdA h3 a21 [.str, .sl] fun (x22 : ((ByteArray) × (Sl) × Unit)) =>
  New h3 (.cells #[(.string (⟨#[]⟩)), (.slice none 0 0)] 46) fun r7 h4 =>
  StL h4 (⟨r7, 0, none⟩) 0 [(.string x22.1), (.slice x22.2.1.a x22.2.1.n x22.2.1.c)] fun h5 =>
  Ld h5 (Addr.add (⟨r3, 0, none⟩) 0) .sl fun (x25 : Sl) =>
  cond (decide (s.2.1 ≥ (((x25.n : Nat) : Int))))
  (Wk h5 fun h6 => R (.slice none 0 0) h6)
  (Ld h5 (Addr.add (⟨r7, 0, none⟩) 1) .sl fun (x29 : Sl) =>
  Lp (σ := (Sl × Int × Unit)) (fun K_1 s_1 h7 =>
  cond (decide (s_1.2.1 < (((x29.n : Nat) : Int))))
  (Ix x29 s_1.2.1 6 fun a34 =>
  LdA h7 a34 [.sl, .sl, (.int .i64), (.int .i64), .sl, (.int .i64)] fun (x35 : ((Sl) × (Sl) × (Int) × (Int) × (Sl) × (Int) × Unit)) =>
  New h7 (.cells #[(.slice none 0 0), (.slice none 0 0), (.int .i64 ((0 : Int))), (.int .i64 ((0 : Int))), (.slice none 0 0), (.int .i64 ((0 : Int)))] 55) fun r9 h8 =>
  StL h8 (⟨r9, 0, none⟩) 0 [(.slice x35.1.a x35.1.n x35.1.c), (.slice x35.2.1.a x35.2.1.n x35.2.1.c), (.int .i64 x35.2.2.1), (.int .i64 x35.2.2.2.1), (.slice x35.2.2.2.2.1.a x35.2.2.2.2.1.n x35.2.2.2.2.1.c), (.int .i64 x35.2.2.2.2.2.1)] fun h9 =>
  Ld h9 (Addr.add (⟨r9, 0, none⟩) 1) .sl fun (x37 : Sl) =>
  Lp (σ := (Sl × Int × Unit)) (fun K_2 s_2 h10 =>
  cond (decide (s_2.2.1 < (((x37.n : Nat) : Int))))
  (Ix x37 s_2.2.1 7 fun a42 =>
  LdA h10 a42 [(.int .i64), (.int .i64), .sl, (.int .i64), (.int .i64), (.int .i64), (.int .i64)] fun (x43 : ((Int) × (Int) × (Sl) × (Int) × (Int) × (Int) × (Int) × Unit)) =>
  New h10 (.cells #[(.int .i64 ((0 : Int))), (.int .i64 ((0 : Int))), (.slice none 0 0), (.int .i64 ((0 : Int))), (.int .i64 ((0 : Int))), (.int .i64 ((0 : Int))), (.int .i64 ((0 : Int)))] 60) fun r11 h11 =>
  StL h11 (⟨r11, 0, none⟩) 0 [(.int .i64 x43.1), (.int .i64 x43.2.1), (.slice x43.2.2.1.a x43.2.2.1.n x43.2.2.1.c), (.int .i64 x43.2.2.2.1), (.int .i64 x43.2.2.2.2.1), (.int .i64 x43.2.2.2.2.2.1), (.int .i64 x43.2.2.2.2.2.2.1)] fun h12 =>
  LdA h12 (⟨r11, 0, none⟩) [(.int .i64), (.int .i64), .sl, (.int .i64), (.int .i64), (.int .i64), (.int .i64)] fun (x44 : ((Int) × (Int) × (Sl) × (Int) × (Int) × (Int) × (Int) × Unit)) =>
  CallK Try.prog 16 [(.agg ⟨[(.int .i64 x44.1), (.int .i64 x44.2.1), (.slice x44.2.2.1.a x44.2.2.1.n x44.2.2.1.c), (.int .i64 x44.2.2.2.1), (.int .i64 x44.2.2.2.2.1), (.int .i64 x44.2.2.2.2.2.1), (.int .i64 x44.2.2.2.2.2.2.1)]⟩)] h12 (.un (.one .sl)) fun (x45 : Sl) h13 =>
  Lp (σ := (Sl × Int × Unit)) (fun K_3 s_3 h14 =>
  cond (decide (s_3.2.1 < (((x45.n : Nat) : Int))))
  (Ix x45 s_3.2.1 1 fun a49 =>
  Ld h14 a49 (.int .i64) fun (x50 : Int) =>
  Ld h14 (Addr.add (⟨r3, 0, none⟩) 0) .sl fun (x52 : Sl) =>
  Ix x52 s.2.1 1 fun a54 =>
  Ld h14 a54 .mp fun (x55 : Option Nat) =>
  Look h14 x55 (.int .i64) (.int .i64 x50) (.one (.int .i64)) ((0 : Int)) fun (x57 : Int) _ =>
  cond (x57 != ((0 : Int)))
  (New h14 (.cells #[(.int .i64 s.2.1), (.int .i64 s_1.2.1), (.int .i64 s_2.2.1), (.int .i64 x50), (.int .i64 x57)] 69) fun r67 h15 =>
  App h15 s_3.1 ⟨(some ⟨r67, 0, none⟩), 1, 1⟩ 69 5 40 [(.int .i64 ((0 : Int))), (.int .i64 ((0 : Int))), (.int .i64 ((0 : Int))), (.int .i64 ((0 : Int))), (.int .i64 ((0 : Int)))] fun s68 h16 =>
  Wk h16 fun h17 => K_3 (s68, IntKind.wrap .i64 (s_3.2.1 + ((1 : Int))), ()) h17)
  (Wk h14 fun h18 => K_3 (s_3.1, IntKind.wrap .i64 (s_3.2.1 + ((1 : Int))), ()) h18))
  (Wk h14 fun h19 => K_2 (s_3.1, IntKind.wrap .i64 (s_2.2.1 + ((1 : Int))), ()) h19))
  (s_2.1, (0 : Int), ()) h13)
  (Cut (σ := (Bool × Unit)) (fun s_4 h20 =>
  cond s_4.1
  (Ld h20 (Addr.add (⟨r9, 0, none⟩) 1) .sl fun (x91 : Sl) =>
  Ld h20 (Addr.add (Addr.add (⟨r9, 0, none⟩) 2) 1) (.int .i64) fun (x95 : Int) =>
  Ld h20 (Addr.add (⟨r3, 0, none⟩) 0) .sl fun (x97 : Sl) =>
  Ix x97 s.2.1 1 fun a99 =>
  Ld h20 a99 .mp fun (x100 : Option Nat) =>
  Ld h20 (Addr.add (Addr.add (⟨r9, 0, none⟩) 2) 1) (.int .i64) fun (x103 : Int) =>
  Look h20 x100 (.int .i64) (.int .i64 x103) (.one (.int .i64)) ((0 : Int)) fun (x104 : Int) _ =>
  New h20 (.cells #[(.int .i64 s.2.1), (.int .i64 s_1.2.1), (.int .i64 (((x91.n : Nat) : Int))), (.int .i64 x95), (.int .i64 x104)] 69) fun r106 h21 =>
  App h21 s_2.1 ⟨(some ⟨r106, 0, none⟩), 1, 1⟩ 69 5 40 [(.int .i64 ((0 : Int))), (.int .i64 ((0 : Int))), (.int .i64 ((0 : Int))), (.int .i64 ((0 : Int))), (.int .i64 ((0 : Int)))] fun s107 h22 =>
  Wk h22 fun h23 => K_1 (s107, IntKind.wrap .i64 (s_1.2.1 + ((1 : Int))), ()) h23)
  (Wk h20 fun h24 => K_1 (s_2.1, IntKind.wrap .i64 (s_1.2.1 + ((1 : Int))), ()) h24)) fun J =>
  Ld h10 (Addr.add (Addr.add (⟨r9, 0, none⟩) 2) 0) (.int .i64) fun (x73 : Int) =>
  cond (x73 == ((2 : Int)))
  (Ld h10 (Addr.add (⟨r3, 0, none⟩) 0) .sl fun (x77 : Sl) =>
  Ix x77 s.2.1 1 fun a79 =>
  Ld h10 a79 .mp fun (x80 : Option Nat) =>
  Ld h10 (Addr.add (Addr.add (⟨r9, 0, none⟩) 2) 1) (.int .i64) fun (x83 : Int) =>
  Look h10 x80 (.int .i64) (.int .i64 x83) (.one (.int .i64)) ((0 : Int)) fun (x84 : Int) _ =>
  Wk h10 fun h25 => J (x84 != ((0 : Int)), ()) h25)
  (Wk h10 fun h26 => J (false, ()) h26)))
  (s_1.1, (0 : Int), ()) h9)
  (Wk h7 fun h27 => K (s_1.1, IntKind.wrap .i64 (s.2.1 + ((1 : Int))), ()) h27))
  (s.1, (0 : Int), ()) h5))
  (Wk h3 fun h28 => R (.slice s.1.a s.1.n s.1.c) h28))
  (⟨none, 0, 0⟩, (0 : Int), ()) h2
theorem S17_eq (p0_0 : Sl) (p0_1 : Sl) (p0_2 : Int) (p1_0 : Sl) (p1_1 : Sl) (p1_2 : Sl) (p1_3 : Sl) (h : V) (R : Value → V → Prop) : ABody Try.prog an17 Try.f17 [(.agg ⟨[(.slice p0_0.a p0_0.n p0_0.c), (.slice p0_1.a p0_1.n p0_1.c), (.int .i64 p0_2)]⟩), (.agg ⟨[(.slice p1_0.a p1_0.n p1_0.c), (.slice p1_1.a p1_1.n p1_1.c), (.slice p1_2.a p1_2.n p1_2.c), (.slice p1_3.a p1_3.n p1_3.c)]⟩)] h R = S17 p0_0 p0_1 p0_2 p1_0 p1_1 p1_2 p1_3 h R := by kernel_rfl
theorem S17_ok (p0_0 : Sl) (p0_1 : Sl) (p0_2 : Int) (p1_0 : Sl) (p1_1 : Sl) (p1_2 : Sl) (p1_3 : Sl) (h : V) (R : Value → V → Prop) (hk : S17 p0_0 p0_1 p0_2 p1_0 p1_1 p1_2 p1_3 h R) : ACalls Try.prog 17 [(.agg ⟨[(.slice p0_0.a p0_0.n p0_0.c), (.slice p0_1.a p0_1.n p0_1.c), (.int .i64 p0_2)]⟩), (.agg ⟨[(.slice p1_0.a p1_0.n p1_0.c), (.slice p1_1.a p1_1.n p1_1.c), (.slice p1_2.a p1_2.n p1_2.c), (.slice p1_3.a p1_3.n p1_3.c)]⟩)] h R :=
  ABody_sound mixed Try.func17 Try.call17 (by kernel_rfl) (by kernel_rfl) (an := an17) (by rw [S17_eq]; exact hk)

/- (palings/ssa.Prog).Clone -/
def an14 : An := (.two .nil (.two .nil (.two .nil (.two (.two .nil (.one (.loop [(15, (.one (.int .i64)))] (.two .nil (.two (.two .nil .nil) (.two (.one (.two .nil (.perm [0, 1, 2, 3, 4, 5, 6, 7, 8, 9, 10] [8]))) .nil)))))) (.two .nil .nil)))))
def S14 (p0_0 : Sl) (p0_1 : Sl) (p0_2 : Int) (h : V) (R : Value → V → Prop) : Prop :=
  New h (.cells #[(.slice p0_0.a p0_0.n p0_0.c), (.slice p0_1.a p0_1.n p0_1.c), (.int .i64 p0_2)] 25) fun r1 h1 =>
  New h1 (.cells #[(.slice none 0 0), (.slice none 0 0), (.int .i64 ((0 : Int)))] 25) fun r2 h2 =>
  Ld h2 (Addr.add (⟨r1, 0, none⟩) 0) .sl fun (x5 : Sl) =>
  CallK Try.prog 31 [(.slice x5.a x5.n x5.c)] h2 (.un (.one .sl)) fun (x6 : Sl) h3 =>
  StL h3 (Addr.add (⟨r1, 0, none⟩) 0) 0 [(.slice x6.a x6.n x6.c)] fun h4 =>
  Ld h4 (Addr.add (⟨r1, 0, none⟩) 1) .sl fun (x9 : Sl) =>
  CallK Try.prog 32 [(.slice x9.a x9.n x9.c)] h4 (.un (.one .sl)) fun (x10 : Sl) h5 =>
  StL h5 (Addr.add (⟨r1, 0, none⟩) 1) 0 [(.slice x10.a x10.n x10.c)] fun h6 =>
  Ld h6 (Addr.add (⟨r1, 0, none⟩) 1) .sl fun (x13 : Sl) =>
  Lp (σ := (Int × Unit)) (fun K s h7 =>
  cond (decide (s.1 < (((x13.n : Nat) : Int))))
  (Ld h7 (Addr.add (⟨r1, 0, none⟩) 1) .sl fun (x19 : Sl) =>
  Ld h7 (Addr.add (⟨r1, 0, none⟩) 1) .sl fun (x22 : Sl) =>
  Ix x22 s.1 2 fun a24 =>
  LdA h7 a24 [.str, .sl] fun (x25 : ((ByteArray) × (Sl) × Unit)) =>
  CallK Try.prog 33 [(.agg ⟨[(.string x25.1), (.slice x25.2.1.a x25.2.1.n x25.2.1.c)]⟩)] h7 (.un (.agg [.str, .sl])) fun (x26 : ((ByteArray) × (Sl) × Unit)) h8 =>
  Le h7 h8 ∧
  Ix x19 s.1 2 fun a27 =>
  StL h8 a27 0 [(.string x26.1), (.slice x26.2.1.a x26.2.1.n x26.2.1.c)] fun h9 =>
  Wk h9 fun h10 => K (IntKind.wrap .i64 (s.1 + ((1 : Int))), ()) h10)
  (LdA h7 (⟨r1, 0, none⟩) [.sl, .sl, (.int .i64)] fun (x29 : ((Sl) × (Sl) × (Int) × Unit)) =>
  StL h7 (⟨r2, 0, none⟩) 0 [(.slice x29.1.a x29.1.n x29.1.c), (.slice x29.2.1.a x29.2.1.n x29.2.1.c), (.int .i64 x29.2.2.1)] fun h11 =>
  LdA h11 (⟨r2, 0, none⟩) [.sl, .sl, (.int .i64)] fun (y : ((Sl) × (Sl) × (Int) × Unit)) =>
  Wk h11 fun h12 => R (.agg ⟨[(.slice y.1.a y.1.n y.1.c), (.slice y.2.1.a y.2.1.n y.2.1.c), (.int .i64 y.2.2.1)]⟩) h12))
  ((0 : Int), ()) h6
theorem S14_eq (p0_0 : Sl) (p0_1 : Sl) (p0_2 : Int) (h : V) (R : Value → V → Prop) : ABody Try.prog an14 Try.f14 [(.agg ⟨[(.slice p0_0.a p0_0.n p0_0.c), (.slice p0_1.a p0_1.n p0_1.c), (.int .i64 p0_2)]⟩)] h R = S14 p0_0 p0_1 p0_2 h R := by kernel_rfl
theorem S14_ok (p0_0 : Sl) (p0_1 : Sl) (p0_2 : Int) (h : V) (R : Value → V → Prop) (hk : S14 p0_0 p0_1 p0_2 h R) : ACalls Try.prog 14 [(.agg ⟨[(.slice p0_0.a p0_0.n p0_0.c), (.slice p0_1.a p0_1.n p0_1.c), (.int .i64 p0_2)]⟩)] h R :=
  ABody_sound mixed Try.func14 Try.call14 (by kernel_rfl) (by kernel_rfl) (an := an14) (by rw [S14_eq]; exact hk)

/- (palings/ssa.Func).Clone -/
def an33 : An := (.two .nil (.two .nil (.two (.two .nil (.one (.loop [(14, (.one (.int .i64)))] (.two .nil (.two (.two .nil .nil) (.two (.one (.two .nil (.two (.perm [0, 1, 3, 4, 2, 6, 5, 7, 8, 9] [2]) (.two (.two .nil (.one (.loop [(30, (.one (.int .i64)))] (.two .nil (.two (.two .nil .nil) (.two (.one (.two .nil (.perm [0, 1, 2, 3, 4, 5, 6, 7, 8, 9, 10, 11, 12] [9]))) .nil)))))) (.two .nil (.two (.two .nil (.one (.loop [(56, (.one (.int .i64)))] (.two .nil (.two (.two .nil .nil) (.two (.one (.two .nil (.perm [0, 1, 2, 3, 4, 5, 6, 7, 8, 9, 10, 11, 12, 13, 14] [11]))) .nil)))))) .nil)))))) .nil)))))) (.two .nil .nil))))
def S33 (p0_0 : ByteArray) (p0_1 : Sl) (h : V) (R : Value → V → Prop) : Prop :=
  New h (.cells #[(.string p0_0), (.slice p0_1.a p0_1.n p0_1.c)] 46) fun r1 h1 =>
  New h1 (.cells #[(.string (⟨#[]⟩)), (.slice none 0 0)] 46) fun r2 h2 =>
  Ld h2 (Addr.add (⟨r1, 0, none⟩) 1) .sl fun (x8 : Sl) =>
  CallK Try.prog 48 [(.slice x8.a x8.n x8.c)] h2 (.un (.one .sl)) fun (x9 : Sl) h3 =>
  StL h3 (Addr.add (⟨r1, 0, none⟩) 1) 0 [(.slice x9.a x9.n x9.c)] fun h4 =>
  Ld h4 (Addr.add (⟨r1, 0, none⟩) 1) .sl fun (x12 : Sl) =>
  Lp (σ := (Int × Unit)) (fun K s h5 =>
  cond (decide (s.1 < (((x12.n : Nat) : Int))))
  (Ix x12 s.1 6 fun a17 =>
  LdA h5 a17 [.sl, .sl, (.int .i64), (.int .i64), .sl, (.int .i64)] fun (x18 : ((Sl) × (Sl) × (Int) × (Int) × (Sl) × (Int) × Unit)) =>
  New h5 (.cells #[(.slice none 0 0), (.slice none 0 0), (.int .i64 ((0 : Int))), (.int .i64 ((0 : Int))), (.slice none 0 0), (.int .i64 ((0 : Int)))] 55) fun r4 h6 =>
  StL h6 (⟨r4, 0, none⟩) 0 [(.slice x18.1.a x18.1.n x18.1.c), (.slice x18.2.1.a x18.2.1.n x18.2.1.c), (.int .i64 x18.2.2.1), (.int .i64 x18.2.2.2.1), (.slice x18.2.2.2.2.1.a x18.2.2.2.2.1.n x18.2.2.2.2.1.c), (.int .i64 x18.2.2.2.2.2.1)] fun h7 =>
  Ld h7 (Addr.add (⟨r4, 0, none⟩) 0) .sl fun (x20 : Sl) =>
  Ld h7 (Addr.add (⟨r4, 0, none⟩) 1) .sl fun (x23 : Sl) =>
  CallK Try.prog 39 [(.slice x20.a x20.n x20.c)] h7 (.un (.one .sl)) fun (x21 : Sl) h8 =>
  Le h7 h8 ∧
  CallK Try.prog 49 [(.slice x23.a x23.n x23.c)] h8 (.un (.one .sl)) fun (x24 : Sl) h9 =>
  StL h9 (Addr.add (⟨r4, 0, none⟩) 0) 0 [(.slice x21.a x21.n x21.c)] fun h10 =>
  StL h10 (Addr.add (⟨r4, 0, none⟩) 1) 0 [(.slice x24.a x24.n x24.c)] fun h11 =>
  Ld h11 (Addr.add (⟨r4, 0, none⟩) 1) .sl fun (x28 : Sl) =>
  Lp (σ := (Int × Unit)) (fun K_1 s_1 h12 =>
  cond (decide (s_1.1 < (((x28.n : Nat) : Int))))
  (Ld h12 (Addr.add (⟨r4, 0, none⟩) 1) .sl fun (x34 : Sl) =>
  Ld h12 (Addr.add (⟨r4, 0, none⟩) 1) .sl fun (x37 : Sl) =>
  Ix x37 s_1.1 7 fun a39 =>
  Ld h12 (Addr.add a39 2) .sl fun (x41 : Sl) =>
  CallK Try.prog 39 [(.slice x41.a x41.n x41.c)] h12 (.un (.one .sl)) fun (x42 : Sl) h13 =>
  Le h12 h13 ∧
  Ix x34 s_1.1 7 fun a43 =>
  StL h13 (Addr.add a43 2) 0 [(.slice x42.a x42.n x42.c)] fun h14 =>
  Wk h14 fun h15 => K_1 (IntKind.wrap .i64 (s_1.1 + ((1 : Int))), ()) h15)
  (Ld h12 (Addr.add (Addr.add (⟨r4, 0, none⟩) 2) 2) .sl fun (x48 : Sl) =>
  CallK Try.prog 50 [(.slice x48.a x48.n x48.c)] h12 (.un (.one .sl)) fun (x49 : Sl) h16 =>
  StL h16 (Addr.add (Addr.add (⟨r4, 0, none⟩) 2) 2) 0 [(.slice x49.a x49.n x49.c)] fun h17 =>
  Ld h17 (Addr.add (Addr.add (⟨r4, 0, none⟩) 2) 2) .sl fun (x54 : Sl) =>
  Lp (σ := (Int × Unit)) (fun K_2 s_2 h18 =>
  cond (decide (s_2.1 < (((x54.n : Nat) : Int))))
  (Ld h18 (Addr.add (Addr.add (⟨r4, 0, none⟩) 2) 2) .sl fun (x61 : Sl) =>
  Ld h18 (Addr.add (Addr.add (⟨r4, 0, none⟩) 2) 2) .sl fun (x65 : Sl) =>
  Ix x65 s_2.1 2 fun a67 =>
  Ld h18 (Addr.add a67 1) .sl fun (x69 : Sl) =>
  CallK Try.prog 39 [(.slice x69.a x69.n x69.c)] h18 (.un (.one .sl)) fun (x70 : Sl) h19 =>
  Le h18 h19 ∧
  Ix x61 s_2.1 2 fun a71 =>
  StL h19 (Addr.add a71 1) 0 [(.slice x70.a x70.n x70.c)] fun h20 =>
  Wk h20 fun h21 => K_2 (IntKind.wrap .i64 (s_2.1 + ((1 : Int))), ()) h21)
  (Ld h18 (Addr.add (⟨r1, 0, none⟩) 1) .sl fun (x75 : Sl) =>
  LdA h18 (⟨r4, 0, none⟩) [.sl, .sl, (.int .i64), (.int .i64), .sl, (.int .i64)] fun (x77 : ((Sl) × (Sl) × (Int) × (Int) × (Sl) × (Int) × Unit)) =>
  Ix x75 s.1 6 fun a78 =>
  StL h18 a78 0 [(.slice x77.1.a x77.1.n x77.1.c), (.slice x77.2.1.a x77.2.1.n x77.2.1.c), (.int .i64 x77.2.2.1), (.int .i64 x77.2.2.2.1), (.slice x77.2.2.2.2.1.a x77.2.2.2.2.1.n x77.2.2.2.2.1.c), (.int .i64 x77.2.2.2.2.2.1)] fun h22 =>
  Wk h22 fun h23 => K (IntKind.wrap .i64 (s.1 + ((1 : Int))), ()) h23))
  ((0 : Int), ()) h17))
  ((0 : Int), ()) h11)
  (LdA h5 (⟨r1, 0, none⟩) [.str, .sl] fun (x80 : ((ByteArray) × (Sl) × Unit)) =>
  StL h5 (⟨r2, 0, none⟩) 0 [(.string x80.1), (.slice x80.2.1.a x80.2.1.n x80.2.1.c)] fun h24 =>
  LdA h24 (⟨r2, 0, none⟩) [.str, .sl] fun (y : ((ByteArray) × (Sl) × Unit)) =>
  Wk h24 fun h25 => R (.agg ⟨[(.string y.1), (.slice y.2.1.a y.2.1.n y.2.1.c)]⟩) h25))
  ((0 : Int), ()) h4
theorem S33_eq (p0_0 : ByteArray) (p0_1 : Sl) (h : V) (R : Value → V → Prop) : ABody Try.prog an33 Try.f33 [(.agg ⟨[(.string p0_0), (.slice p0_1.a p0_1.n p0_1.c)]⟩)] h R = S33 p0_0 p0_1 h R := by kernel_rfl
theorem S33_ok (p0_0 : ByteArray) (p0_1 : Sl) (h : V) (R : Value → V → Prop) (hk : S33 p0_0 p0_1 h R) : ACalls Try.prog 33 [(.agg ⟨[(.string p0_0), (.slice p0_1.a p0_1.n p0_1.c)]⟩)] h R :=
  ABody_sound mixed Try.func33 Try.call33 (by kernel_rfl) (by kernel_rfl) (an := an33) (by rw [S33_eq]; exact hk)

/- slices.Clone[[]palings/ssa.Array,palings/ssa.Array] -/
def an31 : An := (.two .nil (.two (.two .nil (.two (.two .nil .nil) .nil)) (.two .nil .nil)))
def S31 (p0 : Sl) (h : V) (R : Value → V → Prop) : Prop :=
  cond (Option.isNone p0.a)
  (Wk h fun h1 => R (.slice none 0 0) h1)
  (New h (.cells #[] 66) fun r5 h2 =>
  App h2 ⟨(some ⟨r5, 0, none⟩), 0, 0⟩ p0 66 3 32 [(.string (⟨#[]⟩)), (.int .i64 ((0 : Int))), (.int .i64 ((0 : Int)))] fun s7 h3 =>
  Wk h3 fun h4 => R (.slice s7.a s7.n s7.c) h4)
theorem S31_eq (p0 : Sl) (h : V) (R : Value → V → Prop) : ABody Try.prog an31 Try.f31 [(.slice p0.a p0.n p0.c)] h R = S31 p0 h R := by kernel_rfl
theorem S31_ok (p0 : Sl) (h : V) (R : Value → V → Prop) (hk : S31 p0 h R) : ACalls Try.prog 31 [(.slice p0.a p0.n p0.c)] h R :=
  ABody_sound mixed Try.func31 Try.call31 (by kernel_rfl) (by kernel_rfl) (an := an31) (by rw [S31_eq]; exact hk)

/- slices.Clone[[]palings/ssa.Func,palings/ssa.Func] -/
def an32 : An := (.two .nil (.two (.two .nil (.two (.two .nil .nil) .nil)) (.two .nil .nil)))
def S32 (p0 : Sl) (h : V) (R : Value → V → Prop) : Prop :=
  cond (Option.isNone p0.a)
  (Wk h fun h1 => R (.slice none 0 0) h1)
  (New h (.cells #[] 46) fun r5 h2 =>
  App h2 ⟨(some ⟨r5, 0, none⟩), 0, 0⟩ p0 46 2 40 [(.string (⟨#[]⟩)), (.slice none 0 0)] fun s7 h3 =>
  Wk h3 fun h4 => R (.slice s7.a s7.n s7.c) h4)
theorem S32_eq (p0 : Sl) (h : V) (R : Value → V → Prop) : ABody Try.prog an32 Try.f32 [(.slice p0.a p0.n p0.c)] h R = S32 p0 h R := by kernel_rfl
theorem S32_ok (p0 : Sl) (h : V) (R : Value → V → Prop) (hk : S32 p0 h R) : ACalls Try.prog 32 [(.slice p0.a p0.n p0.c)] h R :=
  ABody_sound mixed Try.func32 Try.call32 (by kernel_rfl) (by kernel_rfl) (an := an32) (by rw [S32_eq]; exact hk)

/- slices.Clone[[]palings/ssa.Block,palings/ssa.Block] -/
def an48 : An := (.two .nil (.two (.two .nil (.two (.two .nil .nil) .nil)) (.two .nil .nil)))
def S48 (p0 : Sl) (h : V) (R : Value → V → Prop) : Prop :=
  cond (Option.isNone p0.a)
  (Wk h fun h1 => R (.slice none 0 0) h1)
  (New h (.cells #[] 55) fun r5 h2 =>
  App h2 ⟨(some ⟨r5, 0, none⟩), 0, 0⟩ p0 55 6 96 [(.slice none 0 0), (.slice none 0 0), (.int .i64 ((0 : Int))), (.int .i64 ((0 : Int))), (.slice none 0 0), (.int .i64 ((0 : Int)))] fun s7 h3 =>
  Wk h3 fun h4 => R (.slice s7.a s7.n s7.c) h4)
theorem S48_eq (p0 : Sl) (h : V) (R : Value → V → Prop) : ABody Try.prog an48 Try.f48 [(.slice p0.a p0.n p0.c)] h R = S48 p0 h R := by kernel_rfl
theorem S48_ok (p0 : Sl) (h : V) (R : Value → V → Prop) (hk : S48 p0 h R) : ACalls Try.prog 48 [(.slice p0.a p0.n p0.c)] h R :=
  ABody_sound mixed Try.func48 Try.call48 (by kernel_rfl) (by kernel_rfl) (an := an48) (by rw [S48_eq]; exact hk)

/- slices.Clone[[]palings/ssa.Ins,palings/ssa.Ins] -/
def an49 : An := (.two .nil (.two (.two .nil (.two (.two .nil .nil) .nil)) (.two .nil .nil)))
def S49 (p0 : Sl) (h : V) (R : Value → V → Prop) : Prop :=
  cond (Option.isNone p0.a)
  (Wk h fun h1 => R (.slice none 0 0) h1)
  (New h (.cells #[] 60) fun r5 h2 =>
  App h2 ⟨(some ⟨r5, 0, none⟩), 0, 0⟩ p0 60 7 72 [(.int .i64 ((0 : Int))), (.int .i64 ((0 : Int))), (.slice none 0 0), (.int .i64 ((0 : Int))), (.int .i64 ((0 : Int))), (.int .i64 ((0 : Int))), (.int .i64 ((0 : Int)))] fun s7 h3 =>
  Wk h3 fun h4 => R (.slice s7.a s7.n s7.c) h4)
theorem S49_eq (p0 : Sl) (h : V) (R : Value → V → Prop) : ABody Try.prog an49 Try.f49 [(.slice p0.a p0.n p0.c)] h R = S49 p0 h R := by kernel_rfl
theorem S49_ok (p0 : Sl) (h : V) (R : Value → V → Prop) (hk : S49 p0 h R) : ACalls Try.prog 49 [(.slice p0.a p0.n p0.c)] h R :=
  ABody_sound mixed Try.func49 Try.call49 (by kernel_rfl) (by kernel_rfl) (an := an49) (by rw [S49_eq]; exact hk)

/- slices.Clone[[]palings/ssa.Edge,palings/ssa.Edge] -/
def an50 : An := (.two .nil (.two (.two .nil (.two (.two .nil .nil) .nil)) (.two .nil .nil)))
def S50 (p0 : Sl) (h : V) (R : Value → V → Prop) : Prop :=
  cond (Option.isNone p0.a)
  (Wk h fun h1 => R (.slice none 0 0) h1)
  (New h (.cells #[] 74) fun r5 h2 =>
  App h2 ⟨(some ⟨r5, 0, none⟩), 0, 0⟩ p0 74 2 32 [(.int .i64 ((0 : Int))), (.slice none 0 0)] fun s7 h3 =>
  Wk h3 fun h4 => R (.slice s7.a s7.n s7.c) h4)
theorem S50_eq (p0 : Sl) (h : V) (R : Value → V → Prop) : ABody Try.prog an50 Try.f50 [(.slice p0.a p0.n p0.c)] h R = S50 p0 h R := by kernel_rfl
theorem S50_ok (p0 : Sl) (h : V) (R : Value → V → Prop) (hk : S50 p0 h R) : ACalls Try.prog 50 [(.slice p0.a p0.n p0.c)] h R :=
  ABody_sound mixed Try.func50 Try.call50 (by kernel_rfl) (by kernel_rfl) (an := an50) (by rw [S50_eq]; exact hk)

end Go.Proofs.Ytaefmhephoilmaa

/- Contracts of package ssa: Clone. -/
namespace Go.Proofs.Ytaefmhephoilmaa
open Go Go.VL

theorem clone_loop {α : Type} {enc : α → List Value} {sz d : Nat} {T : TypeId} {hq h0 : V} {x : Sl} {A : Addr} {ys : List α} {ls : List (List Int)} {gt : α → Sl} {st : α → Sl → α} {E : V → Prop}
    (he : ∀ y, (enc y).length = sz) (hd : d + 1 ≤ sz) (hs : ∀ y s, enc (st y s) = (enc y).take d ++ [sV s] ++ (enc y).drop (d + 1)) (hg : ∀ y, (enc y)[d]? = some (sV (gt y))) (hgs : ∀ y s, gt (st y s) = s)
    (lq : Le hq h0) (o : OwnS hq h0 x T sz (ys.flatMap enc)) (hA : cellq h0 A = some (sV x)) (hAx : ∀ a, x.a = some a → a.block ≠ A.block)
    (hl : ls.length = ys.length) (hi : ∀ (k : Nat) y l, ys[k]? = some y → ls[k]? = some l → isInts hq (gt y) l) (hb : ∀ l ∈ ls, l.length ≤ 1048576)
    (hE : ∀ (hh : V) (zs : List α), Le (V.ex h0 x) (V.ex hh x) → OwnS hq hh x T sz (zs.flatMap enc) → zs.length = ys.length →
      (∀ (j : Nat) y z l, ys[j]? = some y → zs[j]? = some z → ls[j]? = some l → ∃ s, z = st y s ∧ OwnS h0 hh s 3 1 (l.map (Value.int .i64)) ∧ neB s x) → E hh) :
    Lp (fun K s h12 => cond (decide (s.1 < (x.n : Int))) (Ld h12 A .sl fun (x34 : Sl) => Ld h12 A .sl fun (x37 : Sl) => Ix x37 s.1 sz fun a39 => Ld h12 (Addr.add a39 d) .sl fun (x41 : Sl) =>
      CallK Try.prog 39 [.slice x41.a x41.n x41.c] h12 (.un (.one .sl)) fun (x42 : Sl) h13 => Le h12 h13 ∧ Ix x34 s.1 sz fun a43 => StL h13 (Addr.add a43 d) 0 [.slice x42.a x42.n x42.c] fun h14 => Wk h14 fun h15 => K (IntKind.wrap .i64 (s.1 + 1), ()) h15) (E h12)) ((0 : Int), ()) h0 := by
  have hz : 0 < sz := by omega
  have hxn : x.n = ys.length := by have := o.1; rw [flat_len he] at this; exact (Nat.eq_of_mul_eq_mul_right hz this).symm
  have hbd : ys.length ≤ 9223372036854775807 := by have := o.2.2.1; omega
  refine Lp_count ys.length (fun k st' hh => st' = ((k : Int), ()) ∧ Le hq hh ∧ Le (V.ex h0 x) (V.ex hh x) ∧ ∃ zs, OwnS hq hh x T sz (zs.flatMap enc) ∧ zs.length = ys.length ∧ (∀ j, k ≤ j → zs[j]? = ys[j]?) ∧
      (∀ (j : Nat) y z l, j < k → ys[j]? = some y → zs[j]? = some z → ls[j]? = some l → ∃ s, z = st y s ∧ OwnS h0 hh s 3 1 (l.map (Value.int .i64)) ∧ neB s x))
    ⟨rfl, lq, Le.refl _, ys, o, rfl, fun _ _ => rfl, fun j y z l hj => absurd hj (by omega)⟩ ?_
  rintro k _ h12 K hk ⟨rfl, lq12, l12, zs, o12, zl, hun, hdn⟩ hK
  have hA12 : cellq h12 A = some (sV x) := by
    rw [← cellq_ex (s := x) hAx] at hA ⊢
    exact cellq_le l12 hA
  refine cond_dec (fun hlt => ?_) (fun hge => ?_)
  · have hk' : k < ys.length := by simp only at hlt; omega
    have hkz : k < zs.length := by omega
    have hkl : k < ls.length := by omega
    have ez : zs[k] = ys[k] := by
      have := hun k (Nat.le_refl _)
      rw [List.getElem?_eq_getElem hkz, List.getElem?_eq_getElem hk'] at this
      exact Option.some.inj this
    refine ⟨x, hA12, x, hA12, (o12.slN he hz).ixn hkz fun a ha => ?_⟩
    have hcell : cellq h12 (a.add d) = some (sV (gt ys[k])) := by
      have := cellsAt_get ha d _ (hg zs[k])
      rw [Nat.zero_add, ez] at this; exact this
    refine ⟨_, hcell, c_cloneInts ((hi k _ _ (List.getElem?_eq_getElem hk') (List.getElem?_eq_getElem hkl)).le mono_int lq12) (hb _ (List.getElem_mem hkl)) fun s' h13 l13 o13 _ => ⟨s', rfl, l13, ?_⟩⟩
    have hsx : neB s' x := (o12.ne o13).symm
    refine OwnS.setN (st zs[k] s') he (o12.le l13) (lq12.trans l13) hkz (hs _ _) (by simp only [List.length_cons, List.length_nil]; omega) hz fun h14 l14 o14 f14 => ?_
    refine Wk_self (hK _ _ hk' ⟨by rw [wnat hk' hbd], l14, l12.trans ((V.ex_mono l13).trans (V.ex_set f14)), zs.set k (st zs[k] s'), o14, by simp [zl], fun j hj => ?_, fun j y z l hj hy hz' hl' => ?_⟩)
    · rw [List.getElem?_set_ne (by omega)]; exact hun j (by omega)
    · have o13' : OwnS h0 h14 s' 3 1 ((ls[k]).map (Value.int .i64)) := (o13.rebaseN fun a ha => by
          cases hx : h0 a.block with
          | none => rfl
          | some ob =>
            have := ex_step l12 hx (fun b hb => hsx a b ha hb)
            rw [(o13.blk ha).1] at this; cases this).off hsx f14
      by_cases e : j = k
      · subst e
        rw [List.getElem?_set_self hkz] at hz'
        rw [List.getElem?_eq_getElem hk'] at hy
        rw [List.getElem?_eq_getElem hkl] at hl'
        cases hy; cases hl'
        rw [← Option.some.inj hz', ez]
        exact ⟨s', rfl, o13', hsx⟩
      · rw [List.getElem?_set_ne (by omega)] at hz'
        obtain ⟨s, e1, e2, e3⟩ := hdn j y z l (by omega) hy hz' hl'
        exact ⟨s, e1, (e2.le l13).off e3 f14, e3⟩
  · have : k = ys.length := by simp only at hge; omega
    subst this
    exact hE h12 zs l12 o12 zl fun j y z l hy hz' hl' => hdn j y z l (List.getElem?_eq_some_iff.1 hy).1 hy hz' hl'

/- what blocks, instructions, ways are but for what their slices hold -/
structure InsH where
  op : Int
  dst : Int
  a : Sl
  num : Int
  bin : Int
  arr : Int
  fn : Int
def encI (y : InsH) : List Value := [iV y.op, iV y.dst, sV y.a, iV y.num, iV y.bin, iV y.arr, iV y.fn]
structure EdgeH where
  to : Int
  a : Sl
def encE (y : EdgeH) : List Value := [iV y.to, sV y.a]
structure BlkH where
  p : Sl
  i : Sl
  kind : Int
  val : Int
  w : Sl
  trap : Int
def encB (y : BlkH) : List Value := [sV y.p, sV y.i, iV y.kind, iV y.val, sV y.w, iV y.trap]
structure FunH where
  name : ByteArray
  s : Sl
def encF (y : FunH) : List Value := [.string y.name, sV y.s]
def QI (h : V) (x : InsD) (y : InsH) : Prop := y.op = x.op ∧ y.dst = x.dst ∧ y.num = x.num ∧ y.bin = x.bin ∧ y.arr = x.arr ∧ y.fn = x.fn ∧ isInts h y.a x.args
def QE (h : V) (x : EdgeD) (y : EdgeH) : Prop := y.to = x.to ∧ isInts h y.a x.args
def QB (h : V) (x : BlockD) (y : BlkH) : Prop := y.kind = x.e.kind ∧ y.val = x.e.val ∧ y.trap = x.e.trap ∧ isInts h y.p x.params ∧ isInss h y.i x.ins ∧ isEdges h y.w x.e.ways
def QF (h : V) (x : FuncD) (y : FunH) : Prop := y.name = x.name ∧ isBlocks h y.s x.blocks
theorem QI.rep {h : V} {x : InsD} {y : InsH} {a : Addr} (q : QI h x y) (hc : cellsAt h a 0 (encI y)) : repIns h a x := by
  obtain ⟨e1, e2, e3, e4, e5, e6, e7⟩ := q
  refine ⟨y.a, e7, ?_⟩
  unfold encI at hc
  rwa [e1, e2, e3, e4, e5, e6] at hc
theorem QE.rep {h : V} {x : EdgeD} {y : EdgeH} {a : Addr} (q : QE h x y) (hc : cellsAt h a 0 (encE y)) : repEdge h a x := by
  obtain ⟨e1, e2⟩ := q
  refine ⟨y.a, e2, ?_⟩
  unfold encE at hc
  rwa [e1] at hc
theorem QB.rep {h : V} {x : BlockD} {y : BlkH} {a : Addr} (q : QB h x y) (hc : cellsAt h a 0 (encB y)) : repBlock h a x := by
  obtain ⟨e1, e2, e3, e4, e5, e6⟩ := q
  refine ⟨y.p, y.i, y.w, e4, e5, e6, ?_⟩
  unfold encB at hc
  rwa [e1, e2, e3] at hc
theorem QF.rep {h : V} {x : FuncD} {y : FunH} {a : Addr} (q : QF h x y) (hc : cellsAt h a 0 (encF y)) : repFunc h a x := by
  obtain ⟨e1, e2⟩ := q
  refine ⟨y.s, e2, ?_⟩
  unfold encF at hc
  rwa [e1] at hc
theorem QI.of {h : V} {a : Addr} {x : InsD} (r : repIns h a x) : ∃ y, QI h x y ∧ cellsAt h a 0 (encI y) := let ⟨s, h1, h2⟩ := r; ⟨⟨x.op, x.dst, s, x.num, x.bin, x.arr, x.fn⟩, ⟨rfl, rfl, rfl, rfl, rfl, rfl, h1⟩, h2⟩
theorem QE.of {h : V} {a : Addr} {x : EdgeD} (r : repEdge h a x) : ∃ y, QE h x y ∧ cellsAt h a 0 (encE y) := let ⟨s, h1, h2⟩ := r; ⟨⟨x.to, s⟩, ⟨rfl, h1⟩, h2⟩
theorem QB.of {h : V} {a : Addr} {x : BlockD} (r : repBlock h a x) : ∃ y, QB h x y ∧ cellsAt h a 0 (encB y) := let ⟨p, i, w, h1, h2, h3, h4⟩ := r; ⟨⟨p, i, x.e.kind, x.e.val, w, x.e.trap⟩, ⟨rfl, rfl, rfl, h1, h2, h3⟩, h4⟩
theorem QF.of {h : V} {a : Addr} {x : FuncD} (r : repFunc h a x) : ∃ y, QF h x y ∧ cellsAt h a 0 (encF y) := let ⟨s, h1, h2⟩ := r; ⟨⟨x.name, s⟩, ⟨rfl, h1⟩, h2⟩
theorem QI.le {h h' : V} {x : InsD} {y : InsH} (q : QI h x y) (l : Le h h') : QI h' x y := let ⟨a, b, c, d, e, f, g⟩ := q; ⟨a, b, c, d, e, f, g.le mono_int l⟩
theorem QE.le {h h' : V} {x : EdgeD} {y : EdgeH} (q : QE h x y) (l : Le h h') : QE h' x y := let ⟨a, b⟩ := q; ⟨a, b.le mono_int l⟩
theorem QB.le {h h' : V} {x : BlockD} {y : BlkH} (q : QB h x y) (l : Le h h') : QB h' x y := let ⟨a, b, c, d, e, f⟩ := q; ⟨a, b, c, d.le mono_int l, e.le mono_ins l, f.le mono_edge l⟩
theorem QF.le {h h' : V} {x : FuncD} {y : FunH} (q : QF h x y) (l : Le h h') : QF h' x y := let ⟨a, b⟩ := q; ⟨a, b.le mono_block l⟩
/- an own slice of headers, and what each stands for -/
theorem own_sl {α β : Type} {rep : V → Addr → α → Prop} {Q : V → α → β → Prop} {enc : β → List Value} {sz : Nat} {h0 h h1 : V} {s : Sl} {T : TypeId} {xs : List α} {ys : List β} (he : ∀ x, (enc x).length = sz) (hz : 0 < sz) (hr : ∀ {h a x y}, Q h x y → cellsAt h a 0 (enc y) → rep h a x)
    (hQ : ∀ {h h' x y}, Q h x y → Le h h' → Q h' x y) (o : OwnS h0 h s T sz (ys.flatMap enc)) (hl : ys.length = xs.length) (l : Le h1 h) (hq : ∀ (k : Nat) x y, xs[k]? = some x → ys[k]? = some y → Q h1 x y) : isSl rep sz h s xs := by
  obtain ⟨c1, c2, c3, c4⟩ := o.slN he hz
  refine ⟨by omega, c2, c3, fun k hk => ?_⟩
  obtain ⟨a, ha, hra⟩ := c4 k (by omega)
  exact ⟨a, ha, hr (hQ (hq k _ _ (List.getElem?_eq_getElem hk) (List.getElem?_eq_getElem (by omega))) l) hra⟩
theorem c_cloneInss {hq h : V} {s : Sl} {xs : List InsD} {R : Value → V → Prop} (lq : Le hq h) (hs : isInss hq s xs) (hb : xs.length ≤ 1048576)
    (hR : ∀ s' h' (ys : List InsH), Le h h' → OwnS h h' s' 60 7 (ys.flatMap encI) → ys.length = xs.length → (∀ (k : Nat) x y, xs[k]? = some x → ys[k]? = some y → QI hq x y) → R (sV s') h') : ACalls Try.prog 49 [sV s] h R := by
  obtain ⟨ys, e1, e2, e3, e4⟩ := isSl_enc (enc := encI) (fun _ => rfl) (fun a x r => QI.of r) hs
  exact S49_ok _ _ _ (clone_own (fun _ => rfl) (by omega) ⟨e3.1, fun a ha => cellsAt_le lq (e3.2 a ha)⟩ e4 (fun _ => rfl) rfl (by omega) (by omega) fun s' h' l o => hR s' h' ys l o e1 e2)
theorem c_cloneEdges {hq h : V} {s : Sl} {xs : List EdgeD} {R : Value → V → Prop} (lq : Le hq h) (hs : isEdges hq s xs) (hb : xs.length ≤ 1048576)
    (hR : ∀ s' h' (ys : List EdgeH), Le h h' → OwnS h h' s' 74 2 (ys.flatMap encE) → ys.length = xs.length → (∀ (k : Nat) x y, xs[k]? = some x → ys[k]? = some y → QE hq x y) → R (sV s') h') : ACalls Try.prog 50 [sV s] h R := by
  obtain ⟨ys, e1, e2, e3, e4⟩ := isSl_enc (enc := encE) (fun _ => rfl) (fun a x r => QE.of r) hs
  exact S50_ok _ _ _ (clone_own (fun _ => rfl) (by omega) ⟨e3.1, fun a ha => cellsAt_le lq (e3.2 a ha)⟩ e4 (fun _ => rfl) rfl (by omega) (by omega) fun s' h' l o => hR s' h' ys l o e1 e2)
theorem c_cloneBlocks {hq h : V} {s : Sl} {xs : List BlockD} {R : Value → V → Prop} (lq : Le hq h) (hs : isBlocks hq s xs) (hb : xs.length ≤ 1048576)
    (hR : ∀ s' h' (ys : List BlkH), Le h h' → OwnS h h' s' 55 6 (ys.flatMap encB) → ys.length = xs.length → (∀ (k : Nat) x y, xs[k]? = some x → ys[k]? = some y → QB hq x y) → R (sV s') h') : ACalls Try.prog 48 [sV s] h R := by
  obtain ⟨ys, e1, e2, e3, e4⟩ := isSl_enc (enc := encB) (fun _ => rfl) (fun a x r => QB.of r) hs
  exact S48_ok _ _ _ (clone_own (fun _ => rfl) (by omega) ⟨e3.1, fun a ha => cellsAt_le lq (e3.2 a ha)⟩ e4 (fun _ => rfl) rfl (by omega) (by omega) fun s' h' l o => hR s' h' ys l o e1 e2)
theorem c_cloneFuncs {hq h : V} {s : Sl} {xs : List FuncD} {R : Value → V → Prop} (lq : Le hq h) (hs : isFuncs hq s xs) (hb : xs.length ≤ 1048576)
    (hR : ∀ s' h' (ys : List FunH), Le h h' → OwnS h h' s' 46 2 (ys.flatMap encF) → ys.length = xs.length → (∀ (k : Nat) x y, xs[k]? = some x → ys[k]? = some y → QF hq x y) → R (sV s') h') : ACalls Try.prog 32 [sV s] h R := by
  obtain ⟨ys, e1, e2, e3, e4⟩ := isSl_enc (enc := encF) (fun _ => rfl) (fun a x r => QF.of r) hs
  exact S32_ok _ _ _ (clone_own (fun _ => rfl) (by omega) ⟨e3.1, fun a ha => cellsAt_le lq (e3.2 a ha)⟩ e4 (fun _ => rfl) rfl (by omega) (by omega) fun s' h' l o => hR s' h' ys l o e1 e2)
theorem c_cloneArrs {h : V} {s : Sl} {xs : List ArrD} {R : Value → V → Prop} (hs : isArrs h s xs) (hb : xs.length ≤ 1048576)
    (hR : ∀ s' h', Le h h' → OwnS h h' s' 66 3 (xs.flatMap arrV) → R (sV s') h') : ACalls Try.prog 31 [sV s] h R := by
  obtain ⟨ys, e1, e2, e3, e4⟩ := isSl_enc (Q := fun x y => y = x) (enc := arrV) (fun _ => rfl) (fun a x r => ⟨x, rfl, r⟩) hs
  have : ys = xs := by
    apply List.ext_getElem?
    intro k
    by_cases hk : k < xs.length
    · rw [List.getElem?_eq_getElem hk, List.getElem?_eq_getElem (by omega)]
      exact congrArg some (e2 k _ _ (List.getElem?_eq_getElem hk) (List.getElem?_eq_getElem (by omega)))
    · rw [List.getElem?_eq_none (by omega), List.getElem?_eq_none (by omega)]
  subst this
  exact S31_ok _ _ _ (clone_own (fun _ => rfl) (by omega) e3 e4 (fun _ => rfl) rfl (by omega) (by omega) fun s' h' l o => hR s' h' l o)
end Go.Proofs.Ytaefmhephoilmaa

/- Contracts of package ssa: Clone of a function. -/
namespace Go.Proofs.Ytaefmhephoilmaa
open Go Go.VL

structure SmallB (b : BlockD) : Prop where
  params : b.params.length ≤ 1024
  ins : b.ins.length ≤ 1024
  ways : b.e.ways.length ≤ 1024
  args : ∀ i ∈ b.ins, i.args.length ≤ 1024
  wargs : ∀ w ∈ b.e.ways, w.args.length ≤ 1024
def smallF (bs : List BlockD) : Prop := bs.length ≤ 1024 ∧ ∀ b ∈ bs, SmallB b
/- new is what isn't in an elder view -/
theorem sub_ex_mono {h h' hB : V} {x : Sl} (l : ∀ b o, h b = some o → (∀ a, x.a = some a → b ≠ a.block) → h' b = some o) : Le (V.ex (V.sub h hB) x) (V.ex (V.sub h' hB) x) := fun b o hb => by
  have hn := V.ex_out hb
  rw [V.ex_in hn] at hb ⊢
  cases hx : hB b with
  | none => rw [V.sub_in hx] at hb ⊢; exact l b o hb hn
  | some y => unfold V.sub at hb; rw [hx] at hb; cases hb

set_option maxRecDepth 100000 in
theorem c_cloneF {hq h : V} {nm : ByteArray} {sb : Sl} {bs : List BlockD} {R : Value → V → Prop} (lq : Le hq h) (hs : isBlocks hq sb bs) (small : smallF bs)
    (hR : ∀ s' h', Le h h' → isBlocks (V.sub h' h) s' bs → R (.agg ⟨[.string nm, sV s']⟩) h') : ACalls Try.prog 33 [.agg ⟨[.string nm, sV sb]⟩] h R := by
  refine S33_ok _ _ _ _ (New_box fun r1 h1 hr1 l1 b1 => New_box fun r2 h2 hr2 l2 b2 => ⟨sb, (b1.le l2).cell rfl, c_cloneBlocks (lq.trans (l1.trans l2)) hs (by have := small.1; omega) fun x9 h3 ys l3 o9 yl yq => ⟨x9, rfl, ?_⟩⟩)
  have hr2' := l1.nil hr2
  refine Box.st (i := 1) (b1.le (l2.trans l3)) (by simp) fun h4 b1' f4 => ⟨x9, b1'.cell rfl, ?_⟩
  have ne12 : r2 ≠ r1 := fun e => by subst e; unfold Box at b1; rw [hr2] at b1; cases b1
  have l04 : Le h h4 := fun b o hb => by
    rw [f4 b (fun e => by rw [e, hr1] at hb; cases hb)]; exact l3 _ _ (l2 _ _ (l1 _ _ hb))
  have b2' : h4 r2 = some (.cells ⟨[.string ⟨#[]⟩, .slice none 0 0]⟩ 46) := (f4 r2 ne12).trans (l3 _ _ b2)
  obtain ⟨hB, l0B, lB4, eB1, eB2, eBn⟩ := add2 l04 hr1 hr2' b1' b2'
  have b1h2 : h2 r1 = some _ := b1.le l2
  have x9r1 : ∀ a, x9.a = some a → a.block ≠ r1 := fun a ha => o9.nbox b1h2 ha
  have o9B : OwnS hB h4 x9 55 6 (ys.flatMap encB) := (o9.offb x9r1 f4).rebaseN fun a ha => by
    cases hx : hB a.block with
    | none => rfl
    | some o =>
      have hne := (o9.blk ha).1
      rcases eBn a.block (by rw [hx]; simp) with e | e | e
      · cases hy : h a.block with
        | none => exact absurd hy e
        | some z => rw [l2 _ _ (l1 _ _ hy)] at hne; cases hne
      · exact absurd e (x9r1 a ha)
      · rw [e, show h2 r2 = _ from b2] at hne; cases hne
  have hn9 : x9.n = bs.length := by have := o9.1; rw [flat_len (sz := 6) (fun _ => rfl : ∀ y, (encB y).length = 6), yl] at this; omega
  have hbd : bs.length ≤ 9223372036854775807 := by have := small.1; omega
  have lqB : Le hq hB := lq.trans l0B
  refine Lp_count bs.length (fun k st hh => st = ((k : Int), ()) ∧ Le hB hh ∧ ∃ zs, OwnS hB hh x9 55 6 (zs.flatMap encB) ∧ zs.length = bs.length ∧ (∀ j, k ≤ j → zs[j]? = ys[j]?) ∧
      (∀ (j : Nat) x z, j < k → bs[j]? = some x → zs[j]? = some z → QB (V.ex (V.sub hh hB) x9) x z))
    ⟨rfl, lB4, ys, o9B, yl, fun _ _ => rfl, fun j x z hj => absurd hj (by omega)⟩ ?_
  rintro k _ h5 K hk ⟨rfl, lB5, zs, o5, zl, hun, hdn⟩ hK
  refine cond_dec (fun hlt => ?_) (fun hge => ?_)
  · have hk' : k < bs.length := by simp only at hlt; omega
    have hkz : k < zs.length := by omega
    have hky : k < ys.length := by omega
    have ez : zs[k] = ys[k] := by
      have := hun k (Nat.le_refl _)
      rw [List.getElem?_eq_getElem hkz, List.getElem?_eq_getElem hky] at this
      exact Option.some.inj this
    obtain ⟨sp, si, sw, sa1, sa2⟩ := small.2 _ (List.getElem_mem hk')
    obtain ⟨q1, q2, q3, q4, q5, q6⟩ := yq k _ _ (List.getElem?_eq_getElem hk') (List.getElem?_eq_getElem hky)
    generalize hy : ys[k] = y at *
    generalize hbk : bs[k] = bk at *
    refine (OwnS.slN (enc := encB) (sz := 6) (fun _ => rfl) (by omega) o5).ixn hkz fun a ha => ?_
    rw [ez] at ha
    refine ⟨(y.p, y.i, y.kind, y.val, y.w, y.trap, ()), ha, New_box fun r4 h6 hr4 l6 b6 => StL_box (h := h5) b6 rfl l6 hr4 fun h7 l7 b7 f7 => ?_⟩
    have b7 : Box h7 r4 (encB y) 55 := b7
    refine ⟨y.p, b7.cell rfl, y.i, b7.cell rfl, ?_⟩
    have l57 := lB5.trans l7
    refine c_cloneInts (l := bk.params) (q4.le mono_int (lqB.trans l57)) (by omega) fun x21 h8 l8 o21 _ => ⟨x21, rfl, l8, ?_⟩
    have l58 := l57.trans l8
    refine c_cloneInss (lqB.trans l58) q5 (by omega) fun x24 h9 is0 l9 o24 i0l i0q => ⟨x24, rfl, ?_⟩
    have b9 := (b7.le l8).le l9
    refine Box.st (i := 0) b9 (by simp [encB]) fun h10 b10 f10 => Box.st (i := 1) b10 (by simp [encB]) fun h11 b11 f11 => ⟨x24, b11.cell rfl, ?_⟩
    have f911 : ∀ b, b ≠ r4 → h11 b = h9 b := fun b hb => (f11 b hb).trans (f10 b hb)
    have b8 : h8 r4 = some _ := b7.le l8
    have x24r4 : ∀ a, x24.a = some a → a.block ≠ r4 := fun a ha => o24.nbox b8 ha
    have l5B11 : ∀ b o, h5 b = some o → h11 b = some o := fun b o hb => by
      rw [f911 b (fun e => by rw [e, hr4] at hb; cases hb)]; exact l9 _ _ (l8 _ _ (l7 _ _ hb))
    have lB11 : Le hB h11 := fun b o hb => l5B11 b o (lB5 _ _ hb)
    have o24B : OwnS hB h11 x24 60 7 (is0.flatMap encI) := (o24.base l58).offb x24r4 f911
    refine clone_loop (enc := encI) (gt := InsH.a) (st := fun y s => { y with a := s }) (hq := hB) (ls := bk.ins.map InsD.args) (ys := is0) (fun _ => rfl) (by omega) (fun _ _ => rfl) (fun _ => rfl) (fun _ _ => rfl) lB11 o24B (b11.cell rfl) (fun a ha => by rw [Addr.blk]; exact x24r4 a ha)
      (by rw [List.length_map, i0l]) (fun j z l hz hl => ?_) (fun l hl => ?_) fun h12 is1 l12 o24C i1l i1q => ?_
    · rw [List.getElem?_map] at hl
      cases hx : bk.ins[j]? with
      | none => rw [hx] at hl; cases hl
      | some x =>
        rw [hx] at hl; cases hl
        exact ((i0q j x z hx hz).2.2.2.2.2.2).le mono_int lqB
    · obtain ⟨i, hi, rfl⟩ := List.mem_map.1 hl
      have := sa1 i hi; omega
    have b12 := ex_step l12 b11 (fun a ha => (x24r4 a ha).symm)
    have b12 : Box h12 r4 (((encB y).set 0 (sV x21)).set 1 (sV x24)) 55 := b12
    have l512 : ∀ b o, h5 b = some o → h12 b = some o := fun b o hb => ex_step l12 (l5B11 b o hb) fun a ha e => by
      have := (o24.blk ha).1
      rw [← e, l8 _ _ (l7 _ _ hb)] at this; cases this
    have lB12 : Le hB h12 := fun b o hb => l512 b o (lB5 _ _ hb)
    refine ⟨y.w, by rw [Addr.add_add]; exact b12.cell rfl, ?_⟩
    refine c_cloneEdges (lqB.trans lB12) q6 (by omega) fun x49 h16 es0 l16 o49 e0l e0q => ⟨x49, rfl, ?_⟩
    rw [Addr.add_add]
    refine Box.st (i := 4) (b12.le l16) (by simp [encB]) fun h17 b17 f17 => ⟨x49, b17.cell rfl, ?_⟩
    have x49r4 : ∀ a, x49.a = some a → a.block ≠ r4 := fun a ha => o49.nbox b12 ha
    have lB17 : Le hB h17 := fun b o hb => by
      rw [f17 b (fun e => by have := lB5 _ _ hb; rw [e, hr4] at this; cases this)]; exact l16 _ _ (lB12 _ _ hb)
    have o49B : OwnS hB h17 x49 74 2 (es0.flatMap encE) := (o49.base lB12).offb x49r4 f17
    refine clone_loop (enc := encE) (gt := EdgeH.a) (st := fun y s => { y with a := s }) (hq := hB) (A := Addr.add ⟨r4, 0, none⟩ 4) (ls := bk.e.ways.map EdgeD.args) (ys := es0) (fun _ => rfl) (by omega) (fun _ _ => rfl) (fun _ => rfl) (fun _ _ => rfl) lB17 o49B (b17.cell rfl) (fun a ha => by rw [Addr.blk]; exact x49r4 a ha)
      (by rw [List.length_map, e0l]) (fun j z l hz hl => ?_) (fun l hl => ?_) fun h18 es1 l18 o49C e1l e1q => ?_
    · rw [List.getElem?_map] at hl
      cases hx : bk.e.ways[j]? with
      | none => rw [hx] at hl; cases hl
      | some x =>
        rw [hx] at hl; cases hl
        exact ((e0q j x z hx hz).2).le mono_int lqB
    · obtain ⟨i, hi, rfl⟩ := List.mem_map.1 hl
      have := sa2 i hi; omega
    -- what was there stays
    have k1218 : ∀ b o, h12 b = some o → b ≠ r4 → h18 b = some o := fun b o hb hne => ex_step l18 (by rw [f17 b hne]; exact l16 _ _ hb) fun a ha e => by
      have := (o49.blk ha).1
      rw [← e, hb] at this; cases this
    have k818 : ∀ b o, h8 b = some o → b ≠ r4 → h18 b = some o := fun b o hb hne => k1218 b o (ex_step l12 (by rw [f911 b hne]; exact l9 _ _ hb) fun a ha e => by
      have := (o24.blk ha).1
      rw [← e, hb] at this; cases this) hne
    have l518 : Le h5 h18 := fun b o hb => k1218 b o (l512 b o hb) fun e => by rw [e, hr4] at hb; cases hb
    have lB18 := lB5.trans l518
    have b18 : Box h18 r4 [sV x21, sV x24, iV y.kind, iV y.val, sV x49, iV y.trap] 55 := ex_step l18 b17 (fun a ha => (x49r4 a ha).symm)
    refine ⟨x9, ((show Box h5 r1 _ 46 from lB5 _ _ eB1).le l518).cell rfl, (x21, x24, y.kind, y.val, x49, y.trap, ()), b18.cells, ?_⟩
    have hset := OwnS.setN (enc := encB) (sz := 6) (d := 0) (vs := [sV x21, sV x24, iV y.kind, iV y.val, sV x49, iV y.trap]) (K := fun h22 => Wk h22 fun h23 => K (IntKind.wrap .i64 ((k : Int) + 1), ()) h23) ⟨x21, x24, y.kind, y.val, x49, y.trap⟩ (fun _ => rfl) (o5.le l518) lB18 hkz rfl (by simp) (by omega)
      (fun h22 l22 o22 f22 => ?_)
    · simp only [Addr.add_z] at hset
      exact hset
    refine Wk_self (hK _ _ hk' ⟨by rw [wnat hk' hbd], l22, zs.set k ⟨x21, x24, y.kind, y.val, x49, y.trap⟩, o22, by simp [zl], fun j hj => ?_, fun j x z hj hx hz => ?_⟩)
    · rw [List.getElem?_set_ne (by omega)]; exact hun j (by omega)
    by_cases e : j = k
    case neg =>
      rw [List.getElem?_set_ne (by omega)] at hz
      refine (hdn j x z (by omega) hx hz).le (sub_ex_mono fun b o hb hn => ?_)
      rw [f22 b hn]; exact l518 _ _ hb
    subst e
    rw [List.getElem?_set_self hkz] at hz
    rw [List.getElem?_eq_getElem hk', hbk] at hx
    cases hx
    rw [← Option.some.inj hz]
    -- each part is new, and none of what holds the blocks
    have fin : ∀ {h0' : V} {s : Sl} {T : TypeId} {sz : Nat} {cs : List Value}, OwnS h0' h18 s T sz cs → (∀ b o, h5 b = some o → h0' b = some o) → OwnS hB (V.ex (V.sub h22 hB) x9) s T sz cs := fun {h0' s T sz cs} o hh => by
      have nx : neB s x9 := (o5.ne (o.rebaseN fun a ha => by
        cases hx : h5 a.block with
        | none => rfl
        | some z => have := (o.blk ha).1; rw [hh _ _ hx] at this; cases this)).symm
      have ob : OwnS hB h18 s T sz cs := o.rebaseN fun a ha => by
        cases hx : hB a.block with
        | none => rfl
        | some z => have := (o.blk ha).1; rw [hh _ _ (lB5 _ _ hx)] at this; cases this
      exact ((ob.off nx f22).subs).exs nx
    have k57 : ∀ b o, h5 b = some o → h7 b = some o := fun b o hb => l7 _ _ hb
    have k58 : ∀ b o, h5 b = some o → h8 b = some o := fun b o hb => l8 _ _ (l7 _ _ hb)
    have p21 := fin (o21.frame (h' := h18) fun a ob ha hob => k818 _ _ hob fun e => by
      have := (o21.blk ha).1
      rw [e, show h7 r4 = _ from b7] at this; cases this) k57
    have o24D : OwnS h8 h12 x24 60 7 (is1.flatMap encI) := o24C.rebaseN fun a ha => (o24.blk ha).1
    have p24 := fin (o24D.frame (h' := h18) fun a ob ha hob => k1218 _ _ hob (x24r4 a ha)) k58
    have o49D : OwnS h12 h18 x49 74 2 (es1.flatMap encE) := o49C.rebaseN fun a ha => (o49.blk ha).1
    have p49 := fin o49D l512
    refine ⟨q1, q2, q3, p21.ints, own_sl (Q := QI) (enc := encI) (ys := is1) (h1 := V.ex (V.sub h22 hB) x9) (fun _ => rfl) (by omega) QI.rep QI.le p24 (i1l.trans i0l) (Le.refl _) (fun m x z hx hz => ?_), own_sl (Q := QE) (enc := encE) (ys := es1) (h1 := V.ex (V.sub h22 hB) x9) (fun _ => rfl) (by omega) QE.rep QE.le p49 (e1l.trans e0l) (Le.refl _) (fun m x z hx hz => ?_)⟩
    · have hm0 : m < is0.length := by have := (List.getElem?_eq_some_iff.1 hz).1; omega
      obtain ⟨s, rfl, os, ns⟩ := i1q m _ z x.args (List.getElem?_eq_getElem hm0) hz (by rw [List.getElem?_map, hx]; rfl)
      obtain ⟨g1, g2, g3, g4, g5, g6, _⟩ := i0q m x _ hx (List.getElem?_eq_getElem hm0)
      have os18 : OwnS h11 h18 s 3 1 (x.args.map (Value.int .i64)) := os.frame fun a ob ha hob => k1218 _ _ hob (os.nbox b11 ha)
      exact ⟨g1, g2, g3, g4, g5, g6, (fin os18 l5B11).ints⟩
    · have hm0 : m < es0.length := by have := (List.getElem?_eq_some_iff.1 hz).1; omega
      obtain ⟨s, rfl, os, ns⟩ := e1q m _ z x.args (List.getElem?_eq_getElem hm0) hz (by rw [List.getElem?_map, hx]; rfl)
      obtain ⟨g1, _⟩ := e0q m x _ hx (List.getElem?_eq_getElem hm0)
      exact ⟨g1, (fin os fun b o hb => by
        rw [f17 b (fun e => by rw [e, hr4] at hb; cases hb)]; exact l16 _ _ (l512 b o hb)).ints⟩
  · have : k = bs.length := by simp only at hge; omega
    subst this
    refine ⟨(nm, x9, ()), (show Box h5 r1 _ 46 from lB5 _ _ eB1).cells, ?_⟩
    have lh5 := l0B.trans lB5
    refine StL_box (h := V.ex h5 ⟨some ⟨r2, 0, none⟩, 1, 1⟩) (show Box h5 r2 [.string ⟨#[]⟩, .slice none 0 0] 46 from lB5 _ _ eB2) rfl (V.ex_le _ _) ?_ fun h24 l24 b24 f24 => ⟨(nm, x9, ()), b24.cells, Wk_self (hR x9 h24 ?_ ?_)⟩
    · cases hx : V.ex h5 ⟨some ⟨r2, 0, none⟩, 1, 1⟩ r2 with
      | none => rfl
      | some o => exact absurd rfl (V.ex_out hx _ rfl)
    · intro b o hb
      rw [f24 b (fun e => by rw [e, hr2'] at hb; cases hb)]; exact lh5 _ _ hb
    · have mono : Le (V.sub h5 hB) (V.sub h24 h) := fun b o hb => by
        cases hx : hB b with
        | some z => unfold V.sub at hb; rw [hx] at hb; cases hb
        | none =>
          rw [V.sub_in hx] at hb
          have hn : h b = none := l0B.nil hx
          rw [V.sub_in hn, f24 b (fun e => by rw [e, eB2] at hx; cases hx)]; exact hb
      exact own_sl (Q := QB) (ys := zs) (h1 := V.ex (V.sub h5 hB) x9) (fun _ => rfl) (by omega) QB.rep QB.le (o5.subs.le mono) zl ((V.ex_le _ _).trans mono) (fun m x z hx hz => hdn m x z (List.getElem?_eq_some_iff.1 hx).1 hx hz)
end Go.Proofs.Ytaefmhephoilmaa

/- Contracts of package ssa: Clone of a program. -/
namespace Go.Proofs.Ytaefmhephoilmaa
open Go Go.VL

theorem few_small {f : FuncD} (few : FewFunc f) : smallF f.blocks := ⟨by have := few.blocks; omega, fun b hb => by
  obtain ⟨h1, h2, h3, h4, h5⟩ := few.all b hb
  exact ⟨by omega, by omega, by omega, fun i hi => by have := h4 i hi; omega, fun w hw => by have := h5 w hw; omega⟩⟩
theorem neB.out {s t : Sl} (h : neB s t) {a : Addr} (ha : s.a = some a) : ∀ b, t.a = some b → a.block ≠ b.block := fun b hb => h a b ha hb

set_option maxRecDepth 100000 in
theorem c_Clone {h : V} {p : ProgD} {sa sf : Sl} {R : Value → V → Prop} (ha : isArrs h sa p.arrays) (hf : isFuncs h sf p.funcs) (few : FewOk p)
    (hR : ∀ sa' sf' h', Le h h' → OwnS h h' sa' 66 3 (p.arrays.flatMap arrV) → isFuncs (V.ex h' sa') sf' p.funcs → R (.agg ⟨[sV sa', sV sf', iV p.main]⟩) h') : ACalls Try.prog 14 [.agg ⟨[sV sa, sV sf, iV p.main]⟩] h R := by
  have na := few.arrays
  have nf := few.funcs
  refine S14_ok _ _ _ _ _ (New_box fun r1 h1 hr1 l1 b1 => New_box fun r2 h2 hr2 l2 b2 => ⟨sa, (b1.le l2).cell rfl, ?_⟩)
  have hr2' := l1.nil hr2
  have l02 := l1.trans l2
  have ne12 : r2 ≠ r1 := fun e => by subst e; unfold Box at b1; rw [hr2] at b1; cases b1
  refine c_cloneArrs (ha.le mono_arr l02) (by omega) fun x6 h3 l3 o6 => ⟨x6, rfl, ?_⟩
  refine Box.st (i := 0) ((b1.le l2).le l3) (by simp) fun h4 b4 f4 => ⟨sf, b4.cell rfl, ?_⟩
  have l04 : Le h h4 := fun b o hb => by
    rw [f4 b (fun e => by rw [e, hr1] at hb; cases hb)]; exact l3 _ _ (l02 _ _ hb)
  refine c_cloneFuncs l04 hf (by omega) fun x10 h5 ys l5 o10 yl yq => ⟨x10, rfl, ?_⟩
  refine Box.st (i := 1) (b4.le l5) (by simp) fun h6 b6 f6 => ⟨x10, b6.cell rfl, ?_⟩
  have b6 : Box h6 r1 [sV x6, sV x10, iV p.main] 25 := b6
  have r1h2 : h2 r1 = some _ := b1.le l2
  have x6r1 : ∀ a, x6.a = some a → a.block ≠ r1 := fun a ha => o6.nbox r1h2 ha
  have x6r2 : ∀ a, x6.a = some a → a.block ≠ r2 := fun a ha => o6.nbox b2 ha
  have r2h4 : h4 r2 = some (.cells ⟨[.slice none 0 0, .slice none 0 0, iV 0]⟩ 25) := (f4 r2 ne12).trans (l3 _ _ b2)
  have x10r1 : ∀ a, x10.a = some a → a.block ≠ r1 := fun a ha => o10.nbox b4 ha
  have x10r2 : ∀ a, x10.a = some a → a.block ≠ r2 := fun a ha => o10.nbox r2h4 ha
  have o6h4 : OwnS h h4 x6 66 3 (p.arrays.flatMap arrV) := (o6.base l02).offb x6r1 f4
  have n610 : neB x6 x10 := o6h4.ne o10
  have l06 : Le h h6 := fun b o hb => by
    rw [f6 b (fun e => by rw [e, hr1] at hb; cases hb)]; exact l5 _ _ (l04 _ _ hb)
  have r2h6 : h6 r2 = some _ := (f6 r2 ne12).trans (l5 _ _ r2h4)
  obtain ⟨hB, l0B, lB6, eB1, eB2, eBn⟩ := add2 l06 hr1 hr2' b6 r2h6
  have reb : ∀ {T : TypeId} {sz : Nat} {cs : List Value} {s : Sl}, OwnS h h6 s T sz cs → (∀ a, s.a = some a → a.block ≠ r1) → (∀ a, s.a = some a → a.block ≠ r2) → OwnS hB h6 s T sz cs := fun {T sz cs s} o h1 h2 => o.rebaseN fun a ha => by
    cases hx : hB a.block with
    | none => rfl
    | some z =>
      rcases eBn a.block (by rw [hx]; simp) with e | e | e
      · exact absurd (o.blk ha).1 e
      · exact absurd e (h1 a ha)
      · exact absurd e (h2 a ha)
  have o6B := reb ((o6h4.le l5).offb x6r1 f6) x6r1 x6r2
  have o10B := reb ((o10.base l04).offb x10r1 f6) x10r1 x10r2
  have hn : x10.n = p.funcs.length := by have := o10.1; rw [flat_len (sz := 2) (fun _ => rfl : ∀ y, (encF y).length = 2), yl] at this; omega
  refine Lp_count p.funcs.length (fun k st hh => st = ((k : Int), ()) ∧ Le hB hh ∧ OwnS hB hh x6 66 3 (p.arrays.flatMap arrV) ∧ ∃ zs, OwnS hB hh x10 46 2 (zs.flatMap encF) ∧ zs.length = p.funcs.length ∧ (∀ j, k ≤ j → zs[j]? = ys[j]?) ∧
      (∀ (j : Nat) x z, j < k → p.funcs[j]? = some x → zs[j]? = some z → QF (V.ex (V.ex (V.sub hh hB) x10) x6) x z))
    ⟨rfl, lB6, o6B, ys, o10B, yl, fun _ _ => rfl, fun j x z hj => absurd hj (by omega)⟩ ?_
  rintro k _ h7 K hk ⟨rfl, lB7, o67, zs, o7, zl, hun, hdn⟩ hK
  have b7 : Box h7 r1 [sV x6, sV x10, iV p.main] 25 := lB7 _ _ eB1
  refine cond_dec (fun hlt => ?_) (fun hge => ?_)
  · have hk' : k < p.funcs.length := by simp only at hlt; omega
    have hkz : k < zs.length := by omega
    have hky : k < ys.length := by omega
    have ez : zs[k] = ys[k] := by
      have := hun k (Nat.le_refl _)
      rw [List.getElem?_eq_getElem hkz, List.getElem?_eq_getElem hky] at this
      exact Option.some.inj this
    obtain ⟨q1, q2⟩ := yq k _ _ (List.getElem?_eq_getElem hk') (List.getElem?_eq_getElem hky)
    have few' := few.all _ (List.getElem_mem hk')
    generalize hy : ys[k] = y at *
    generalize hbk : p.funcs[k] = f at *
    refine ⟨x10, b7.cell rfl, x10, b7.cell rfl, (OwnS.slN (enc := encF) (sz := 2) (fun _ => rfl) (by omega) o7).ixn hkz fun a ha => ?_⟩
    rw [ez] at ha
    refine ⟨(y.name, y.s, ()), ha, ?_⟩
    refine c_cloneF (l0B.trans lB7) q2 (few_small few') fun s' h8 l8 hs' => ⟨(y.name, s', ()), rfl, l8, ?_⟩
    have lB8 := lB7.trans l8
    have hset := OwnS.setN (enc := encF) (sz := 2) (d := 0) (vs := [.string y.name, sV s']) (K := fun h22 => Wk h22 fun h23 => K (IntKind.wrap .i64 ((k : Int) + 1), ()) h23) ⟨y.name, s'⟩ (fun _ => rfl) (o7.le l8) lB8 hkz rfl (by simp) (by omega)
      (fun h22 l22 o22 f22 => ?_)
    · simp only [Addr.add_z] at hset
      exact hset
    refine Wk_self (hK _ _ hk' ⟨by rw [wnat hk' (by omega)], l22, (o67.le l8).off n610 f22, zs.set k ⟨y.name, s'⟩, o22, by simp [zl], fun j hj => ?_, fun j x z hj hx hz => ?_⟩)
    · rw [List.getElem?_set_ne (by omega)]; exact hun j (by omega)
    by_cases e : j = k
    case neg =>
      rw [List.getElem?_set_ne (by omega)] at hz
      refine (hdn j x z (by omega) hx hz).le (V.ex_mono (sub_ex_mono fun b o hb hn => ?_))
      rw [f22 b hn]; exact l8 _ _ hb
    subst e
    rw [List.getElem?_set_self hkz] at hz
    rw [List.getElem?_eq_getElem hk', hbk] at hx
    cases hx
    rw [← Option.some.inj hz]
    refine ⟨q1, hs'.le mono_block fun b o hb => ?_⟩
    have hb7 : h7 b = none := by
      cases hx : h7 b with
      | none => rfl
      | some z => unfold V.sub at hb; rw [hx] at hb; cases hb
    have nx10 : ∀ a, x10.a = some a → b ≠ a.block := fun a ha' e => by
      obtain ⟨_, arr, hh⟩ := o7.blk ha'
      rw [← e, hb7] at hh; cases hh
    have nx6 : ∀ a, x6.a = some a → b ≠ a.block := fun a ha' e => by
      obtain ⟨_, arr, hh⟩ := o67.blk ha'
      rw [← e, hb7] at hh; cases hh
    rw [V.ex_in nx6, V.ex_in nx10, V.sub_in (lB7.nil hb7), f22 b nx10]
    rwa [V.sub_in hb7] at hb
  · have : k = p.funcs.length := by simp only at hge; omega
    subst this
    refine ⟨(x6, x10, p.main, ()), b7.cells, ?_⟩
    have lh7 := l0B.trans lB7
    refine StL_box (h := V.ex h7 ⟨some ⟨r2, 0, none⟩, 1, 1⟩) (show Box h7 r2 [.slice none 0 0, .slice none 0 0, iV 0] 25 from lB7 _ _ eB2) rfl (V.ex_le _ _) ?_ fun h24 l24 b24 f24 => ⟨(x6, x10, p.main, ()), b24.cells, Wk_self (hR x6 x10 h24 ?_ ?_ ?_)⟩
    · cases hx : V.ex h7 ⟨some ⟨r2, 0, none⟩, 1, 1⟩ r2 with
      | none => rfl
      | some o => exact absurd rfl (V.ex_out hx _ rfl)
    · intro b o hb
      rw [f24 b (fun e => by rw [e, hr2'] at hb; cases hb)]; exact lh7 _ _ hb
    · exact (o67.base l0B).offb x6r2 f24
    · have mono : Le (V.sub h7 hB) h24 := fun b o hb => by
        cases hx : hB b with
        | some z => unfold V.sub at hb; rw [hx] at hb; cases hb
        | none =>
          rw [V.sub_in hx] at hb
          rw [f24 b (fun e => by rw [e, eB2] at hx; cases hx)]; exact hb
      have o24 : OwnS hB (V.ex h24 x6) x10 46 2 (zs.flatMap encF) := (o7.offb x10r2 f24).exs n610.symm
      exact own_sl (Q := QF) (ys := zs) (h1 := V.ex (V.ex (V.sub h7 hB) x10) x6) (fun _ => rfl) (by omega) QF.rep QF.le o24 zl (V.ex_mono ((V.ex_le _ _).trans mono)) (fun m x z hx hz => hdn m x z (List.getElem?_eq_some_iff.1 hx).1 hx hz)
end Go.Proofs.Ytaefmhephoilmaa
