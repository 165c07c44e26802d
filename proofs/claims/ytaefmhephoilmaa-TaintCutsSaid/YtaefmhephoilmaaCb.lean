/- Contracts of package ssa: what is known where. -/
import Derived.Test.YtaefmhephoilmaaCa
import Derived.Test.YtaefmhephoilmaaVset
namespace Go.Proofs.Ytaefmhephoilmaa
open Go Go.VL

def dsts (b : BlockD) : List Int := (b.ins.map InsD.dst).filter (· ≠ 0)
def afterD (s : Int → Bool) (b : BlockD) : Int → Bool := fun v => s v || b.params.contains v || (dsts b).contains v
theorem contains_take {l : List Int} {k : Nat} (hk : k < l.length) (v : Int) : (l.take (k + 1)).contains v = ((l.take k).contains v || v == l[k]) := by
  rw [List.take_succ_eq_append_getElem hk, Bool.eq_iff_iff]
  simp only [Bool.or_eq_true, List.contains_iff_mem, List.mem_append, List.mem_singleton, beq_iff_eq]

theorem c_after {h : V} {r : Nat} {o : Obj} {s : Int → Bool} {b : BlockD} {p i w : Sl} {R : Value → V → Prop} (ho : h r = some o) (hs : SetRep o s) (hp : isInts h p b.params) (hi : isInss h i b.ins)
    (hR : ∀ r' o' h', Le h h' → h r' = none → h' r' = some o' → SetRep o' (afterD s b) → R (.map (some r')) h') : ACalls Try.prog 43 [.map (some r), .agg ⟨blockV b p i w⟩] h R := by
  refine S43_ok _ _ _ _ _ _ _ _ _ (New_box fun r3 h1 hr3 l1 b3 => ?_)
  intro r11 hr11
  obtain ⟨m, hm, hg⟩ := hs
  have l2 : Le h1 (h1.upd r11 (.map #[] 0)) := le_upd hr11 _
  refine Rng_map (kd := .bool) ((l1.trans l2) _ _ ho) hm fun it h3 hit l3 f3 hI => ?_
  have hne : it ≠ r11 := fun e => by subst e; rw [upd_self] at hit; cases hit
  have hrr : r ≠ r11 := fun e => by subst e; rw [(l1 _ _ ho)] at hr11; cases hr11
  have hr11' : h r11 = none := l1.nil hr11
  refine Lp_iter (kd := .bool) (m0 := m) (B := fun K s k _ h5 => unK (.int .i64) k fun (x17 : Int) => MUpd h5 (some r11) (.int .i64) (.int .i64 x17) (.bool true) fun h6 => Wk h6 fun h7 => K () h7)
    (fun m' left _ hh => m' = m ∧ Le h1 hh ∧ ∃ o' s', hh r11 = some o' ∧ SetRep o' s' ∧ ∀ v, s' v = true ↔ v ∈ mkeys m ∧ v ∉ mkeys left) hI ⟨rfl, l2.trans l3, _, _, (f3 _ (fun e => hne e.symm)).trans (upd_self _ _ _), SetRep.empty, fun v => by simp⟩ ?_ ?_
  · rintro m' left _ hh h' q K hI1 ⟨rfl, l, o', s', ho', hs', hc⟩ hq hf hI2 hK
    refine unK_i (SetRep.add ((hf _ (fun e => hne e.symm)).trans ho') hs' fun o2 ho2 => ?_)
    have lh' : Le h1 h' := fun b x hb => (hf b (fun e => by subst e; have := l2 _ _ hb; rw [hit] at this; cases this)).trans (l _ _ hb)
    refine Wk_self (hK _ _ _ (hI2.frame (upd_ne hne _) (upd_ne hrr _)) ⟨rfl, lh'.upd hr11 _, o2, _, upd_self _ _ _, ho2, fun v => ?_⟩)
    rw [keys_filter]
    simp only [Bool.or_eq_true, hc v, beq_iff_eq]
    constructor
    · rintro (⟨h1, h2⟩ | rfl)
      · exact ⟨h1, fun h => h2 h.1⟩
      · obtain ⟨o3, ho3, hm3⟩ := hI1.map
        refine ⟨?_, fun h => h.2 rfl⟩
        obtain ⟨es, clk, seen, _, _, _, hl⟩ := hI1
        rw [hl] at hq
        obtain ⟨⟨p1, e1⟩, hp1, rfl⟩ := List.mem_map.1 hq
        exact List.mem_map.2 ⟨p1, (List.of_mem_zip (List.mem_filter.1 hp1).1).1, rfl⟩
    · rintro ⟨h1, h2⟩
      by_cases hv : v = q.1
      · exact .inr hv
      · exact .inl ⟨h1, fun h => h2 ⟨h, hv⟩⟩
  · rintro m' _ hh K hI1 ⟨rfl, l, o', s', ho', hs', hc⟩
    have hs' : SetRep o' s := hs'.cong fun k => by
      rw [Bool.eq_iff_iff, hc k, SetRep.mem hm hg]; simp [mkeys]
    refine ⟨p, cellq_le l (b3.cell rfl), ?_⟩
    refine Lp_count b.params.length (fun k st hh => st = ((k : Int), ()) ∧ Le h1 hh ∧ ∃ o', hh r11 = some o' ∧ SetRep o' (fun v => s v || (b.params.take k).contains v)) ⟨rfl, l, o', ho', hs'.cong fun k => by simp⟩ ?_
    rintro k _ hh K1 hk ⟨rfl, l, o', ho', hs'⟩ hK1
    refine cond_dec (fun hlt => ?_) (fun hge => ?_)
    · have hk' : k < b.params.length := by have := hp.len; simp only at hlt; omega
      refine hp.ixn hk' fun a ha => Ld_i (mono_int _ _ _ _ (l1.trans l) ha) (SetRep.add ho' hs' fun o2 ho2 => Wk_self (hK1 _ _ hk' ⟨?_, l.upd hr11 _, o2, upd_self _ _ _, ho2.cong fun v => ?_⟩))
      · rw [wnat hk' hp.bd]
      · rw [contains_take hk', Bool.or_assoc]
    · have : k = b.params.length := by have := hp.len; simp only at hge; omega
      subst this
      rw [List.take_of_length_le (Nat.le_refl _)] at hs'
      refine ⟨i, cellq_le l (b3.cell rfl), ?_⟩
      refine Lp_count b.ins.length (fun k st hh => st = ((k : Int), ()) ∧ Le h1 hh ∧ ∃ o', hh r11 = some o' ∧ SetRep o' (fun v => s v || b.params.contains v || (((b.ins.take k).map InsD.dst).filter (· ≠ 0)).contains v)) ⟨rfl, l, o', ho', hs'.cong fun k => by simp⟩ ?_
      rintro k _ hh K2 hk ⟨rfl, l, o', ho', hs'⟩ hK2
      refine cond_dec (fun hlt => ?_) (fun hge => ?_)
      · have hk' : k < b.ins.length := by have := hi.len; simp only at hlt; omega
        refine elem_ins hi (l1.trans l) hk' rfl rfl fun q hq r10 h13 l13 l13' hr10 b10 => ?_
        refine ⟨_, b10.cell rfl, ?_⟩
        have hne10 : r11 ≠ r10 := fun e => by subst e; rw [ho'] at hr10; cases hr10
        have htake : ((b.ins.take (k + 1)).map InsD.dst) = ((b.ins.take k).map InsD.dst) ++ [b.ins[k].dst] := by
          rw [List.take_succ_eq_append_getElem hk', List.map_append]; rfl
        refine cond_nei (fun hd => ?_) (fun hd => ?_)
        rotate_left
        · refine ⟨h13, Le.refl _, hK2 _ _ hk' ⟨by rw [wnat hk' hi.bd], l.trans l13', o', l13' _ _ ho', hs'.cong fun v => ?_⟩⟩
          rw [htake, List.filter_append]
          simp [hd]
        · refine ⟨_, b10.cell rfl, SetRep.add (l13' _ _ ho') hs' fun o2 ho2 => Wk_self (hK2 _ _ hk' ⟨by rw [wnat hk' hi.bd], (l.trans l13').upd hr11 _, o2, upd_self _ _ _, ho2.cong fun v => ?_⟩)⟩
          rw [htake, List.filter_append]
          have : ([b.ins[k].dst].filter (· ≠ 0)) = [b.ins[k].dst] := by simp [hd]
          rw [this]
          rw [Bool.eq_iff_iff]
          simp only [Bool.or_eq_true, List.contains_iff_mem, List.mem_append, List.mem_singleton, beq_iff_eq, or_assoc]
      · have : k = b.ins.length := by have := hi.len; simp only at hge; omega
        subst this
        rw [List.take_of_length_le (Nat.le_refl _)] at hs'
        exact Wk_self (hR r11 o' hh (l1.trans l) hr11' ho' hs')

/- which of a list a function says yes to -/
theorem c_index_int {h : V} {s : Sl} {l : List Int} {f : Value} {q : Int → Bool} {R : Value → V → Prop} (hs : isInts h s l)
    (hf : ∀ v (K : Bool → V → Prop), K (q v) h → CallV Try.prog f [iV v] h (.un (.one .bool)) K) (hR : ∀ n : Int, decide (n ≥ 0) = l.any q → R (iV n) h) : ACalls Try.prog 53 [sV s, f] h R := by
  refine S53_ok _ _ _ _ ?_
  refine Lp_count l.length (fun k st hh => st = ((k : Int), ()) ∧ h = hh ∧ (l.take k).any q = false) ⟨rfl, rfl, by simp⟩ ?_
  rintro k _ _ K hk ⟨rfl, rfl, hq⟩ hK
  refine cond_dec (fun hlt => ?_) (fun hge => ?_)
  · have hk' : k < l.length := by have := hs.len; simp only at hlt; omega
    refine hs.ixn hk' fun a ha => Ld_i ha (hf _ _ ?_)
    refine cond_b (fun hy => ?_) (fun hn => ?_)
    · refine Wk_self (hR _ ?_)
      have : l.any q = true := List.any_eq_true.2 ⟨_, List.getElem_mem hk', hy⟩
      rw [this]; simp
    · refine Wk_self (hK _ _ hk' ⟨by rw [wnat hk' hs.bd], rfl, ?_⟩)
      rw [List.take_succ_eq_append_getElem hk', List.any_append, hq]
      simp [hn]
  · have : k = l.length := by have := hs.len; simp only at hge; omega
    subst this
    rw [List.take_of_length_le (Nat.le_refl _)] at hq
    exact Wk_self (hR _ (by rw [hq]; rfl))
theorem c_contains_int {h : V} {s : Sl} {l : List Int} {f : Value} {q : Int → Bool} {R : Value → V → Prop} (hs : isInts h s l)
    (hf : ∀ v (K : Bool → V → Prop), K (q v) h → CallV Try.prog f [iV v] h (.un (.one .bool)) K) (hR : R (.bool (l.any q)) h) : ACalls Try.prog 46 [sV s, f] h R :=
  S46_ok _ _ _ _ (c_index_int hs hf fun n hn => ⟨n, rfl, Wk_self (by rw [hn]; exact hR)⟩)
theorem c_notin {h : V} {v : Int} {c0 : Addr} {r : Nat} {o : Obj} {s : Int → Bool} {R : Value → V → Prop} (hc : cellq h c0 = some (.map (some r))) (ho : h r = some o) (hs : SetRep o s) (hR : R (.bool (!s v)) h) :
    ACalls Try.prog 47 [iV v, .pointer (some c0)] h R :=
  S47_ok _ _ _ _ ⟨some r, hc, SetRep.look ho hs (Wk_self hR)⟩
theorem c_allin {h : V} {l : Sl} {xs : List Int} {c0 : Addr} {r : Nat} {o : Obj} {s : Int → Bool} {R : Value → V → Prop} (hl : isInts h l xs) (hc : cellq h c0 = some (.map (some r))) (ho : h r = some o) (hs : SetRep o s) (hR : R (.bool (xs.all s)) h) :
    ACalls Try.prog 45 [sV l, .pointer (some c0)] h R := by
  refine S45_ok _ _ _ _ (c_contains_int (q := fun v => !s v) hl (fun v K hK => c_notin hc ho hs ⟨_, rfl, hK⟩) ⟨_, rfl, Wk_self ?_⟩)
  have : (!xs.any fun v => !s v) = xs.all s := by
    rw [List.not_any_eq_all_not]; simp
  rw [this]; exact hR

/- whether a block uses what is known alone -/
def addD (s : Int → Bool) (d : Int) : Int → Bool := fun v => s v || (v == d && d != 0)
def usedIns : (Int → Bool) → List InsD → Option (Int → Bool)
  | s, [] => some s
  | s, i :: is => if i.args.all s then usedIns (addD s i.dst) is else none
def usedEnd (s : Int → Bool) (e : EndD) : Bool := e.ways.all (fun w => w.args.all s) && (e.val == 0 || s e.val)
def usedD (s : Int → Bool) (b : BlockD) : Bool := match usedIns (fun v => s v || b.params.contains v) b.ins with
  | some t => usedEnd t b.e
  | none => false
theorem usedIns_append : ∀ (l l' : List InsD) (s : Int → Bool), usedIns s (l ++ l') = (usedIns s l).bind fun t => usedIns t l'
  | [], _, _ => rfl
  | i :: l, l', s => by
    simp only [List.cons_append, usedIns]
    split
    · exact usedIns_append l l' _
    · rfl

theorem c_used {h : V} {r : Nat} {o : Obj} {s : Int → Bool} {b : BlockD} {p i w : Sl} {R : Value → V → Prop} (ho : h r = some o) (hs : SetRep o s) (hp : isInts h p b.params) (hi : isInss h i b.ins) (hw : isEdges h w b.e.ways)
    (hR : R (.bool (usedD s b)) h) : ACalls Try.prog 28 [.map (some r), .agg ⟨blockV b p i w⟩] h R := by
  refine S28_ok _ _ _ _ _ _ _ _ _ (New_box fun r3 h1 hr3 l1 b3 => ?_)
  intro r14 hr14
  obtain ⟨m, hm, hg⟩ := hs
  refine New_box fun r5 h3 hr5 l3 b5 => ?_
  have l12 : Le h1 (h1.upd r14 (.map #[] 0)) := le_upd hr14 _
  refine StL_box b5 rfl l3 hr5 fun h4 l4 b5 f4 => ?_
  have hr14' : h r14 = none := l1.nil hr14
  have hrr : r ≠ r14 := fun e => by subst e; rw [(l1 _ _ ho)] at hr14; cases hr14
  have h14 : h4 r14 = some (.map #[] 0) := l4 _ _ (upd_self _ _ _)
  have h5ne : r14 ≠ r5 := fun e => by subst e; rw [upd_self] at hr5; cases hr5
  have hr51 : h1 r5 = none := l12.nil hr5
  refine Rng_map (kd := .bool) ((l12.trans l4) _ _ (l1 _ _ ho)) hm fun it h5 hit l5 f5 hI => ?_
  have hne : it ≠ r14 := fun e => by subst e; rw [h14] at hit; cases hit
  have hne5 : it ≠ r5 := fun e => by subst e; rw [show h4 it = _ from b5] at hit; cases hit
  -- what is kept: h1, and the variable in which the map lies
  have cell5 : ∀ {hh : V}, hh r5 = some (.cells ⟨[.map (some r14)]⟩ 29) → cellq hh ⟨r5, 0, none⟩ = some (.map (some r14)) := fun {hh} e => Box.cell0 (show Box hh r5 [.map (some r14)] 29 from e)
  refine Lp_iter (kd := .bool) (m0 := m) (B := fun K s k _ h7 => unK (.int .i64) k fun (x20 : Int) => Ld h7 ⟨r5, 0, none⟩ .mp fun (x21 : Option Nat) => MUpd h7 x21 (.int .i64) (.int .i64 x20) (.bool true) fun h8 => Wk h8 fun h9 => K () h9)
    (fun m' left _ hh => m' = m ∧ Le h1 hh ∧ hh r5 = some (.cells ⟨[.map (some r14)]⟩ 29) ∧ ∃ o' s', hh r14 = some o' ∧ SetRep o' s' ∧ ∀ v, s' v = true ↔ v ∈ mkeys m ∧ v ∉ mkeys left) hI
    ⟨rfl, (l12.trans l4).trans l5, (f5 _ (fun e => hne5 e.symm)).trans b5, _, _, (f5 _ (fun e => hne e.symm)).trans h14, SetRep.empty, fun v => by simp⟩ ?_ ?_
  · rintro m' left _ hh h' q K hI1 ⟨rfl, l, c5, o', s', ho', hs', hc⟩ hq hf hI2 hK
    have c5' : h' r5 = _ := (hf _ (fun e => hne5 e.symm)).trans c5
    refine unK_i ⟨some r14, cell5 c5', SetRep.add ((hf _ (fun e => hne e.symm)).trans ho') hs' fun o2 ho2 => ?_⟩
    have lh' : Le h1 h' := fun b x hb => (hf b (fun e => by subst e; have := (l12.trans l4) _ _ hb; rw [hit] at this; cases this)).trans (l _ _ hb)
    refine Wk_self (hK _ _ _ (hI2.frame (upd_ne hne _) (upd_ne hrr _)) ⟨rfl, lh'.upd hr14 _, (upd_ne (fun e => h5ne e.symm) _).trans c5', o2, _, upd_self _ _ _, ho2, fun v => ?_⟩)
    rw [keys_filter]
    simp only [Bool.or_eq_true, hc v, beq_iff_eq]
    constructor
    · rintro (⟨h1, h2⟩ | rfl)
      · exact ⟨h1, fun h => h2 h.1⟩
      · refine ⟨?_, fun h => h.2 rfl⟩
        obtain ⟨es, clk, seen, _, _, _, hl⟩ := hI1
        rw [hl] at hq
        obtain ⟨⟨p1, e1⟩, hp1, rfl⟩ := List.mem_map.1 hq
        exact List.mem_map.2 ⟨p1, (List.of_mem_zip (List.mem_filter.1 hp1).1).1, rfl⟩
    · rintro ⟨h1, h2⟩
      by_cases hv : v = q.1
      · exact .inr hv
      · exact .inl ⟨h1, fun h => h2 ⟨h, hv⟩⟩
  · rintro m' _ hh K hI1 ⟨rfl, l, c5, o', s', ho', hs', hc⟩
    have hs' : SetRep o' s := hs'.cong fun k => by
      rw [Bool.eq_iff_iff, hc k, SetRep.mem hm hg]; simp [mkeys]
    refine ⟨p, cellq_le l (b3.cell rfl), ?_⟩
    refine Lp_count b.params.length (fun k st hh => st = ((k : Int), ()) ∧ Le h1 hh ∧ hh r5 = some (.cells ⟨[.map (some r14)]⟩ 29) ∧ ∃ o', hh r14 = some o' ∧ SetRep o' (fun v => s v || (b.params.take k).contains v)) ⟨rfl, l, c5, o', ho', hs'.cong fun k => by simp⟩ ?_
    rintro k _ hh K1 hk ⟨rfl, l, c5, o', ho', hs'⟩ hK1
    refine cond_dec (fun hlt => ?_) (fun hge => ?_)
    · have hk' : k < b.params.length := by have := hp.len; simp only at hlt; omega
      refine hp.ixn hk' fun a ha => Ld_i (mono_int _ _ _ _ (l1.trans l) ha) ⟨some r14, cell5 c5, SetRep.add ho' hs' fun o2 ho2 => Wk_self (hK1 _ _ hk' ⟨?_, l.upd hr14 _, (upd_ne (fun e => h5ne e.symm) _).trans c5, o2, upd_self _ _ _, ho2.cong fun v => ?_⟩)⟩
      · rw [wnat hk' hp.bd]
      · rw [contains_take hk', Bool.or_assoc]
    · have : k = b.params.length := by have := hp.len; simp only at hge; omega
      subst this
      rw [List.take_of_length_le (Nat.le_refl _)] at hs'
      refine ⟨i, cellq_le l (b3.cell rfl), ?_⟩
      refine Lp_count b.ins.length (fun k st hh => st = ((k : Int), ()) ∧ Le h1 hh ∧ hh r5 = some (.cells ⟨[.map (some r14)]⟩ 29) ∧ ∃ o' t, hh r14 = some o' ∧ SetRep o' t ∧ usedIns (fun v => s v || b.params.contains v) (b.ins.take k) = some t) ⟨rfl, l, c5, o', _, ho', hs', rfl⟩ ?_
      rintro k _ hh K2 hk ⟨rfl, l, c5, o', t, ho', hs', ht⟩ hK2
      refine cond_dec (fun hlt => ?_) (fun hge => ?_)
      · have hk' : k < b.ins.length := by have := hi.len; simp only at hlt; omega
        have htake : b.ins.take (k + 1) = b.ins.take k ++ [b.ins[k]] := List.take_succ_eq_append_getElem hk'
        refine elem_ins hi (l1.trans l) hk' rfl rfl fun q hq r11 h13 l13 l13' hr11 b11 => ?_
        refine ⟨q, b11.cell rfl, ?_⟩
        refine c_allin (hq.le mono_int l13) (cell5 (l13' _ _ c5)) (l13' _ _ ho') hs' ⟨_, rfl, ?_⟩
        refine cond_not (fun hn => ?_) (fun hy => ?_)
        · refine ⟨h, l1.trans (l.trans l13'), ?_⟩
          have : usedD s b = false := by
            unfold usedD
            have : usedIns (fun v => s v || b.params.contains v) b.ins = none := by
              conv => lhs; rw [← List.take_append_drop (k + 1) b.ins]
              rw [htake, List.append_assoc, usedIns_append, ht]
              simp only [Option.bind_some, List.singleton_append, usedIns, hn]
              rfl
            rw [this]
          rw [this] at hR
          exact hR
        · have hnext : usedIns (fun v => s v || b.params.contains v) (b.ins.take (k + 1)) = some (addD t b.ins[k].dst) := by
            rw [htake, usedIns_append, ht]
            simp only [Option.bind_some, usedIns, hy, if_true]
          refine ⟨_, b11.cell rfl, ?_⟩
          refine cond_nei (fun hd => ?_) (fun hd => ?_)
          · refine ⟨some r14, cell5 (l13' _ _ c5), _, b11.cell rfl, SetRep.add (l13' _ _ ho') hs' fun o2 ho2 => Wk_self (hK2 _ _ hk' ⟨by rw [wnat hk' hi.bd], (l.trans l13').upd hr14 _, (upd_ne (fun e => h5ne e.symm) _).trans (l13' _ _ c5), o2, _, upd_self _ _ _, ho2, ?_⟩)⟩
            rw [hnext]
            congr 1
            funext v
            unfold addD
            rw [show (b.ins[k].dst != 0) = true by simpa using hd, Bool.and_true]
          · refine Wk_self (hK2 _ _ hk' ⟨by rw [wnat hk' hi.bd], l.trans l13', l13' _ _ c5, o', t, l13' _ _ ho', hs', ?_⟩)
            rw [hnext]
            congr 1
            funext v
            unfold addD
            rw [hd]
            simp
      · have : k = b.ins.length := by have := hi.len; simp only at hge; omega
        subst this
        rw [List.take_of_length_le (Nat.le_refl _)] at ht
        have hU : usedD s b = usedEnd t b.e := by unfold usedD; rw [ht]
        refine ⟨w, by rw [Addr.add_add]; exact cellq_le l (b3.cell rfl), ?_⟩
        refine Lp_count b.e.ways.length (fun k st hh => st = ((k : Int), ()) ∧ Le h1 hh ∧ hh r5 = some (.cells ⟨[.map (some r14)]⟩ 29) ∧ hh r14 = some o' ∧ (b.e.ways.take k).all (fun w => w.args.all t) = true) ⟨rfl, l, c5, ho', by simp⟩ ?_
        rintro k _ hh K3 hk ⟨rfl, l, c5, ho', hall⟩ hK3
        refine cond_dec (fun hlt => ?_) (fun hge => ?_)
        · have hk' : k < b.e.ways.length := by have := hw.len; simp only at hlt; omega
          refine elem_edge hw (l1.trans l) hk' rfl rfl fun q hq r13 h13 l13 l13' hr13 b13 => ?_
          refine ⟨q, b13.cell rfl, ?_⟩
          refine c_allin (hq.le mono_int l13) (cell5 (l13' _ _ c5)) (l13' _ _ ho') hs' ⟨_, rfl, ?_⟩
          refine cond_not (fun hn => ?_) (fun hy => ?_)
          · refine ⟨h, l1.trans (l.trans l13'), ?_⟩
            have : usedD s b = false := by
              rw [hU]; unfold usedEnd
              have : b.e.ways.all (fun w => w.args.all t) = false := List.all_eq_false.2 ⟨_, List.getElem_mem hk', by simp [hn]⟩
              rw [this]; rfl
            rw [this] at hR
            exact hR
          · refine Wk_self (hK3 _ _ hk' ⟨by rw [wnat hk' hw.bd], l.trans l13', l13' _ _ c5, l13' _ _ ho', ?_⟩)
            rw [List.take_succ_eq_append_getElem hk', List.all_append, hall]
            simp [hy]
        · have : k = b.e.ways.length := by have := hw.len; simp only at hge; omega
          subst this
          rw [List.take_of_length_le (Nat.le_refl _)] at hall
          refine ⟨_, by rw [Addr.add_add]; exact cellq_le l (b3.cell rfl), ?_⟩
          have hU2 : usedD s b = (b.e.val == 0 || t b.e.val) := by rw [hU]; unfold usedEnd; rw [hall]; rfl
          refine cond_eqi (fun hz => ?_) (fun hz => ?_)
          · refine ⟨h, l1.trans l, ?_⟩
            rw [hU2, show (b.e.val == 0) = true by simpa using hz] at hR
            exact hR
          · refine ⟨some r14, cell5 c5, _, by rw [Addr.add_add]; exact cellq_le l (b3.cell rfl), SetRep.look ho' hs' ⟨h, l1.trans l, ?_⟩⟩
            rw [hU2, show (b.e.val == 0) = false by simpa using hz] at hR
            exact hR
end Go.Proofs.Ytaefmhephoilmaa
