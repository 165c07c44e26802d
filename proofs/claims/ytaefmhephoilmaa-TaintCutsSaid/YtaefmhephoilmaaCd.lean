/- Contracts of package ssa: values made once, blocks come to. -/
import Derived.Test.YtaefmhephoilmaaCc
import Derived.Test.YtaefmhephoilmaaVown
namespace Go.Proofs.Ytaefmhephoilmaa
open Go Go.VL

theorem ints_one (l : List Int) : (l.map (Value.int .i64)).all oneCell = true := by simp [oneCell]
theorem c_cloneInts {h : V} {s : Sl} {l : List Int} {R : Value → V → Prop} (hs : isInts h s l) (hb : l.length ≤ 1048576) (hR : ∀ s' h', Le h h' → OwnS h h' s' 3 1 (l.map (Value.int .i64)) → (∀ b, h b ≠ none → h' b = h b) → R (sV s') h') : ACalls Try.prog 39 [sV s] h R := by
  obtain ⟨hc, h0⟩ := isSl_cells (enc := Value.int .i64) (fun _ _ _ h => h) hs
  refine S39_ok _ _ _ (cond_b (fun hn => ?_) (fun hn => ?_))
  · have ha : s.a = none := by simpa using hn
    have : l = [] := List.eq_nil_of_length_eq_zero (by rw [← hs.len, h0 ha])
    subst this
    exact Wk_self (hR _ _ (Le.refl _) (OwnS_nil _ _ _ _) (fun _ _ => rfl))
  · refine New_box fun r5 h2 hr l2 b5 => ?_
    have o : OwnS h h2 ⟨some ⟨r5, 0, none⟩, 0, 0⟩ 3 1 [] := ⟨rfl, Nat.le_refl _, Nat.zero_le _, .inr ⟨r5, 0, #[], rfl, hr, b5, by simp, by simp⟩⟩
    have hs2 := hs.le mono_int l2
    obtain ⟨hc2, _⟩ := isSl_cells (enc := Value.int .i64) (fun _ _ _ h => h) hs2
    refine App_own l2 o hc2 h0 (ints_one l) rfl (by omega) (by show (0 + s.n) * 8 ≤ _; rw [hs.len]; omega) fun s' h' l' o' _ f _ => Wk_self (hR s' h' l' (by simpa using o') fun b hb => ?_)
    have hne : b ≠ r5 := fun e => by subst e; exact hb hr
    cases hx : h b with
    | none => exact absurd hx hb
    | some x =>
      have := l2 _ _ hx
      rw [f b (fun a ha => by cases ha; exact hne) (by rw [this]; simp), this]

/- values that are made once -/
def madeB (b : BlockD) : List Int := b.params ++ dsts b
def onceL : (Int → Bool) → List Int → Option (Int → Bool)
  | s, [] => some s
  | s, v :: l => if v ≤ 0 ∨ s v = true then none else onceL (fun j => s j || j == v) l
def onceD (bs : List BlockD) : Bool := (onceL (fun _ => false) (bs.flatMap madeB)).isSome
theorem onceL_append : ∀ (l l' : List Int) (s : Int → Bool), onceL s (l ++ l') = (onceL s l).bind fun t => onceL t l'
  | [], _, _ => rfl
  | v :: l, l', s => by
    simp only [List.cons_append, onceL]
    split
    · rfl
    · exact onceL_append l l' _
theorem onceL_pre {l l' : List Int} {s : Int → Bool} (h : onceL s l = none) : onceL s (l ++ l') = none := by rw [onceL_append, h]; rfl
theorem dsts_length (b : BlockD) : (dsts b).length ≤ b.ins.length := by
  unfold dsts
  exact Nat.le_trans (List.length_filter_le _ _) (by simp)

theorem c_once {h : V} {nm : ByteArray} {s : Sl} {bs : List BlockD} {R : Value → V → Prop} (hs : isBlocks h s bs) (hfew : ∀ b ∈ bs, b.params.length ≤ 1024 ∧ b.ins.length ≤ 1024) (hR : R (.bool (onceD bs)) h) : ACalls Try.prog 22 [.agg ⟨[.string nm, sV s]⟩] h R := by
  refine S22_ok _ _ _ _ (New_box fun r1 h1 hr1 l1 b1 => ?_)
  intro r11 hr11
  have l2 : Le h1 (h1.upd r11 (.map #[] 0)) := le_upd hr11 _
  refine ⟨s, cellq_le l2 (b1.cell rfl), ?_⟩
  have hF : ∀ {hh : V} {l' : List Int}, Le h1 hh → onceL (fun _ => false) l' = none → l' <+: bs.flatMap madeB → Wk hh fun h' => R (.bool false) h' := fun {hh l'} l e hp => ⟨h, l1.trans l, by
    obtain ⟨t, ht⟩ := hp
    have : onceD bs = false := by unfold onceD; rw [← ht, onceL_pre e]; rfl
    rw [this] at hR; exact hR⟩
  refine Lp_count bs.length (fun k st hh => st = ((k : Int), ()) ∧ Le h1 hh ∧ ∃ o t, hh r11 = some o ∧ SetRep o t ∧ onceL (fun _ => false) ((bs.take k).flatMap madeB) = some t) ⟨rfl, l2, _, _, upd_self _ _ _, SetRep.empty, rfl⟩ ?_
  rintro k _ hh K hk ⟨rfl, l, o, t, ho, ht, hon⟩ hK
  refine cond_dec (fun hlt => ?_) (fun hge => ?_)
  · have hk' : k < bs.length := by have := hs.len; simp only at hlt; omega
    obtain ⟨hf1, hf2⟩ := hfew _ (List.getElem_mem hk')
    refine elem_block hs (l1.trans l) hk' rfl rfl fun p i w hp hi hw r5 h5 l5 l5' hr5 b5 => ?_
    refine ⟨p, b5.cell rfl, c_cloneInts (hp.le mono_int l5) (by omega) fun s' h6 l6 o6 f6 => ⟨s', rfl, ?_⟩⟩
    refine ⟨i, (b5.le l6).cell rfl, ?_⟩
    -- what is made is laid together
    refine Lp_count bs[k].ins.length (fun j st hh => st.2 = ((j : Int), ()) ∧ Le h5 hh ∧ OwnS h5 hh st.1 3 1 ((bs[k].params ++ ((bs[k].ins.take j).map InsD.dst).filter (· ≠ 0)).map (Value.int .i64))) ⟨rfl, l6, by simpa using o6⟩ ?_
    rintro j ⟨sm, jj, u⟩ h7 K1 hj ⟨hj2, l7, o7⟩ hK1
    obtain ⟨rfl, -⟩ := hj2
    refine cond_dec (fun hlt => ?_) (fun hge => ?_)
    · have hj' : j < bs[k].ins.length := by have := hi.len; simp only at hlt; omega
      refine elem_ins hi (l5.trans l7) hj' rfl rfl fun q hq r8 h9 l9 l9' hr8 b8 => ?_
      have htake : ((bs[k].ins.take (j + 1)).map InsD.dst) = ((bs[k].ins.take j).map InsD.dst) ++ [bs[k].ins[j].dst] := by
        rw [List.take_succ_eq_append_getElem hj', List.map_append]; rfl
      refine ⟨_, b8.cell rfl, cond_nei (fun hd => ?_) (fun hd => ?_)⟩
      · refine ⟨_, b8.cell rfl, New_box fun r35 h10 hr35 l10 b35 => ?_⟩
        have hlen : sm.n ≤ 2048 := by
          have h1 := o7.1
          simp only [List.length_map, List.length_append, Nat.mul_one] at h1
          have h2 := List.length_filter_le (· ≠ 0) ((bs[k].ins.take j).map InsD.dst)
          simp only [List.length_map, List.length_take] at h2
          omega
        refine App_one (l7.trans (l9'.trans l10)) (o7.le (l9'.trans l10)) b35 rfl (by omega) (by show (sm.n + 1) * 8 ≤ _; omega) fun s36 h11 l11 o11 _ _ _ => ?_
        refine Wk_self (hK1 _ _ hj' ⟨by rw [wnat hj' hi.bd], l11, ?_⟩)
        rw [htake, List.filter_append]
        have : ([bs[k].ins[j].dst].filter (· ≠ 0)) = [bs[k].ins[j].dst] := by
          have hd : bs[k].ins[j].dst ≠ 0 := hd
          simp [hd]
        rw [this, ← List.append_assoc, List.map_append]
        exact o11
      · refine Wk_self (hK1 _ _ hj' ⟨by rw [wnat hj' hi.bd], l7.trans l9', ?_⟩)
        rw [htake, List.filter_append]
        have : ([bs[k].ins[j].dst].filter (· ≠ 0)) = [] := by
          have hd : bs[k].ins[j].dst = 0 := hd
          simp [hd]
        rw [this, List.append_nil]
        exact o7.le l9'
    · have : j = bs[k].ins.length := by have := hi.len; simp only at hge; omega
      subst this
      rw [List.take_of_length_le (Nat.le_refl _)] at o7
      have o7 : OwnS h5 h7 sm 3 1 ((madeB bs[k]).map (Value.int .i64)) := o7
      have hints := o7.ints
      have hh5 : Le hh h7 := l5'.trans l7
      have hpre : ∀ j, ((bs.take k).flatMap madeB ++ (madeB bs[k]).take j) <+: bs.flatMap madeB := by
        intro j
        refine List.IsPrefix.trans (List.prefix_append_right_inj _ |>.2 (List.take_prefix j _)) ?_
        have : (bs.take k).flatMap madeB ++ madeB bs[k] = (bs.take (k + 1)).flatMap madeB := by rw [List.take_succ_eq_append_getElem hk', List.flatMap_append]; simp
        rw [this]
        conv => rhs; rw [← List.take_append_drop (k + 1) bs, List.flatMap_append]
        exact List.prefix_append _ _
      have h11o : h7 r11 = some o := hh5 _ _ ho
      have hsm : ∀ a, sm.a = some a → a.block ≠ r11 := fun a ha e => by
        obtain ⟨_, arr, harr⟩ := o7.blk ha
        rw [e, h11o] at harr
        cases harr
        obtain ⟨m, ⟨_, es, clk, e1, _⟩, _⟩ := ht
        cases e1
      refine Lp_count (madeB bs[k]).length (fun j st hh => st = ((j : Int), ()) ∧ Le h1 hh ∧ isInts hh sm (madeB bs[k]) ∧ ∃ o t, hh r11 = some o ∧ SetRep o t ∧ onceL (fun _ => false) ((bs.take k).flatMap madeB ++ (madeB bs[k]).take j) = some t) ⟨rfl, l.trans hh5, hints, o, t, h11o, ht, by simpa using hon⟩ ?_
      rintro j _ h14 K2 hj ⟨rfl, l14, hi14, o2, t2, ho2, ht2, hon2⟩ hK2
      refine cond_dec (fun hlt => ?_) (fun hge => ?_)
      · have hj' : j < (madeB bs[k]).length := by have := hi14.len; simp only at hlt; omega
        have hnext : ∀ x, onceL t2 [(madeB bs[k])[j]] = x → onceL (fun _ => false) ((bs.take k).flatMap madeB ++ (madeB bs[k]).take (j + 1)) = x := by
          rintro x rfl
          rw [List.take_succ_eq_append_getElem hj', ← List.append_assoc, onceL_append, hon2]
          rfl
        refine hi14.ixn hj' fun a ha => Ld_i ha (cond_dec (fun hle => hF l14 (hnext _ ?_) (hpre _)) (fun hle => SetRep.look ho2 ht2 (cond_b (fun hy => hF l14 (hnext _ ?_) (hpre _)) (fun hn => SetRep.add ho2 ht2 fun o3 ho3 => Wk_self (hK2 _ _ hj' ⟨by rw [wnat hj' hi14.bd], l14.upd hr11 _, ?_, o3, _, upd_self _ _ _, ho3, hnext _ ?_⟩)))))
        · have hle : (madeB bs[k])[j] ≤ 0 := hle
          simp [onceL, hle]
        · simp [onceL, hy]
        · refine ⟨hi14.1, hi14.2.1, hi14.2.2.1, fun q hq => ?_⟩
          obtain ⟨a, ha, hr⟩ := hi14.2.2.2 q hq
          refine ⟨a, ha, ?_⟩
          have : (h14.upd r11 o3) (a.add (q * 1)).block = h14 (a.add (q * 1)).block := upd_ne (by rw [Addr.blk]; exact hsm a ha) _
          unfold repInt cellq at hr ⊢
          rw [this]; exact hr
        · have hle : ¬ (madeB bs[k])[j] ≤ 0 := hle
          simp [onceL, hle, hn]
      · have : j = (madeB bs[k]).length := by have := hi14.len; simp only at hge; omega
        subst this
        rw [List.take_of_length_le (Nat.le_refl _)] at hon2
        refine Wk_self (hK _ _ hk' ⟨by rw [wnat hk' hs.bd], l14, o2, t2, ho2, ht2, ?_⟩)
        rw [List.take_succ_eq_append_getElem hk', List.flatMap_append, ← hon2]
        simp
  · have : k = bs.length := by have := hs.len; simp only at hge; omega
    subst this
    rw [List.take_of_length_le (Nat.le_refl _)] at hon
    refine ⟨h, l1.trans l, ?_⟩
    have : onceD bs = true := by unfold onceD; rw [hon]; rfl
    rw [this] at hR; exact hR

/- blocks that can be come to -/
inductive Rch (bs : List BlockD) : Nat → Prop where
  | zero : 0 < bs.length → Rch bs 0
  | step {n : Nat} {b : BlockD} {w : EdgeD} : Rch bs n → bs[n]? = some b → w ∈ b.e.ways → 0 ≤ w.to → w.to.toNat < bs.length → Rch bs w.to.toNat
def cntF (out : List Bool) : Nat := out.countP (· == false)
theorem cntF_set {out : List Bool} {n : Nat} (h : out[n]? = some false) : cntF (out.set n true) + 1 = cntF out := by
  induction out generalizing n with
  | nil => simp at h
  | cons b out ih =>
    cases n with
    | zero => simp at h; subst h; simp [cntF]
    | succ n =>
      have := ih (n := n) (by simpa using h)
      simp only [cntF, List.set_cons_succ, List.countP_cons] at this ⊢
      omega
theorem cntF_replicate (n : Nat) : cntF (List.replicate n false) = n := by
  induction n with
  | zero => rfl
  | succ n ih => simp [cntF, List.replicate_succ, List.countP_cons] at ih ⊢; exact ih
theorem bset {l : List Bool} {n : Nat} {b : Bool} : (l.map Value.bool).set n (.bool b) = (l.set n b).map Value.bool := by rw [List.map_set]
theorem setT {out : List Bool} {n m : Nat} (hn : n < out.length) : (out.set n true)[m]? = some true ↔ m = n ∨ out[m]? = some true := by
  rw [List.getElem?_set]
  by_cases e : n = m
  · subst e; simp [hn]
  · have : ¬ m = n := fun x => e x.symm
    simp [e, this]

structure RInv (bs : List BlockD) (out : List Bool) (q : List Int) (m0 : Option (Nat × Nat)) : Prop where
  len : out.length = bs.length
  sound : ∀ m : Nat, out[m]? = some true → Rch bs m
  queue : ∀ x ∈ q, ∃ m : Nat, x = (m : Int) ∧ out[m]? = some true
  closed : ∀ (m : Nat) (b : BlockD), out[m]? = some true → bs[m]? = some b → (m : Int) ∈ q ∨ (∀ w ∈ b.e.ways, 0 ≤ w.to → w.to.toNat < bs.length → out[w.to.toNat]? = some true) ∨
    ∃ j, m0 = some (m, j) ∧ ∀ w ∈ b.e.ways.take j, 0 ≤ w.to → w.to.toNat < bs.length → out[w.to.toNat]? = some true
  first : out[0]? = some true
  room : q.length + cntF out ≤ bs.length

theorem c_Reach {h : V} {nm : ByteArray} {s : Sl} {bs : List BlockD} {R : Value → V → Prop} (hs : isBlocks h s bs) (hfew : bs.length ≤ 1048576)
    (hR : ∀ s' h' (out : List Bool), Le h h' → OwnS h h' s' 4 1 (out.map Value.bool) → out.length = bs.length → (∀ n : Nat, out[n]? = some true ↔ Rch bs n) → R (sV s') h') : ACalls Try.prog 19 [.agg ⟨[.string nm, sV s]⟩] h R := by
  refine S19_ok _ _ _ _ (New_box fun r1 h1 hr1 l1 b1 => ⟨s, b1.cell rfl, ?_⟩)
  refine MkSl_own (by rw [hs.len]; omega) (by omega) fun s11 h2 l2 o2 n2 f2 a2 => ?_
  rw [hs.len] at o2 n2
  have hrep : List.replicate bs.length (Value.bool false) = (List.replicate bs.length false).map Value.bool := by rw [List.map_replicate]
  rw [hrep] at o2
  refine cond_eqi (fun h0 => ?_) (fun h0 => ?_)
  · have h0 : (s11.n : Int) = 0 := h0
    have hb0 : bs = [] := List.eq_nil_of_length_eq_zero (by omega)
    subst hb0
    refine Wk_self (hR s11 h2 [] (l1.trans l2) (o2.base l1) rfl fun n => ⟨fun h => by simp at h, fun h => ?_⟩)
    cases h with
    | zero h => simp at h
    | step _ _ _ _ h => simp at h
  have h0 : ¬ (s11.n : Int) = 0 := h0
  have hpos : 0 < bs.length := by omega
  refine OwnS.set o2 l2 (i := 0) (by omega) (by simpa using hpos) fun h4 l4 o4 f4 => ?_
  rw [bset] at o4
  refine New_box fun r18 h5 hr18 l5 b18 => ?_
  have a11 : ∀ a, s11.a = some a → h4 a.block ≠ none := fun a ha => by obtain ⟨_, arr, harr⟩ := o4.blk ha; rw [harr]; simp
  -- the list of what is to be done begins with the first block
  have q0 : OwnS h1 h5 ⟨some ⟨r18, 0, none⟩, 1, 1⟩ 3 1 ([(0 : Int)].map (Value.int .i64)) := ⟨rfl, Nat.le_refl _, by show 1 ≤ _; omega, .inr ⟨r18, 0, _, rfl, l4.nil hr18, b18, by simp, rfl⟩⟩
  have hset0 : ∀ m, ((List.replicate bs.length false).set (Int.toNat 0) true)[m]? = some true ↔ m = 0 := by
    intro m
    rw [show Int.toNat 0 = 0 from rfl, setT (by simpa using hpos)]
    constructor
    · rintro (h | h)
      · exact h
      · rw [List.getElem?_replicate] at h; split at h <;> simp at h
    · exact fun h => .inl h
  have inv0 : RInv bs ((List.replicate bs.length false).set (Int.toNat 0) true) [0] none := by
    refine ⟨by simp, fun m hm => ?_, fun x hx => ?_, fun m b hm hb => ?_, (hset0 0).2 rfl, ?_⟩
    · rw [(hset0 m).1 hm]; exact .zero hpos
    · simp at hx; subst hx; exact ⟨0, rfl, (hset0 0).2 rfl⟩
    · left; rw [(hset0 m).1 hm]; simp
    · have := cntF_set (out := List.replicate bs.length false) (n := 0) (by simp [hpos])
      rw [cntF_replicate] at this
      simp only [List.length_cons, List.length_nil, show Int.toNat 0 = 0 from rfl]
      omega
  refine Lp_inv (fun n st hh => ∃ out q, n = 2 * cntF out + q.length ∧ Le h1 hh ∧ OwnS h1 hh s11 4 1 (out.map Value.bool) ∧ OwnS h1 hh st.1 3 1 (q.map (Value.int .i64)) ∧ (∀ a a', s11.a = some a → st.1.a = some a' → a.block ≠ a'.block) ∧ RInv bs out q none)
    ⟨_, [0], rfl, l4.trans l5, o4.le l5, q0, fun a a' ha ha' => by cases ha'; exact fun e => a11 a ha (by rw [e]; exact hr18), inv0⟩ ?_
  rintro n ⟨sq, u⟩ h6 K ⟨out, q, rfl, l6, o6, q6, d6, inv⟩ hK
  have hql : sq.n = q.length := by have := q6.1; simp at this; omega
  refine cond_dec (fun hgt => ?_) (fun hle => ?_)
  · have hgt : (0 : Int) < (sq.n : Int) := hgt
    cases q with
    | nil => simp at hql; omega
    | cons x q =>
      obtain ⟨m, rfl, hm⟩ := inv.queue _ (List.mem_cons_self)
      have hmlt : m < bs.length := by have := (List.getElem?_eq_some_iff.1 hm).1; rw [inv.len] at this; exact this
      refine ⟨s, cellq_le l6 (b1.cell rfl), ?_⟩
      refine q6.ints.ixn (k := 0) (by simp) fun a ha => Ld_i ha ?_
      refine elem_block (T := 55) (k := m) hs (l1.trans l6) hmlt rfl rfl fun p i w hp hi hw r5 h8 l8 l8' hr5 b5 => ?_
      refine Slc_tail (v := .int .i64 (m : Int)) (cs := q.map (Value.int .i64)) (q6.le l8') fun s30 o30 n30 d30 => ?_
      refine ⟨w, by rw [Addr.add_add]; exact b5.cell rfl, ?_⟩
      have hmb : bs[m]? = some bs[m] := List.getElem?_eq_getElem hmlt
      -- the ways of the block
      have inv1 : RInv bs out q (some (m, 0)) := by
        refine ⟨inv.len, inv.sound, fun x hx => inv.queue x (by simp [hx]), fun m' b hm' hb => ?_, inv.first, by have := inv.room; simp at this; omega⟩
        rcases inv.closed m' b hm' hb with h | h | ⟨j, h, _⟩
        · rcases List.mem_cons.1 h with h | h
          · have : m' = m := by omega
            subst this
            exact .inr (.inr ⟨0, rfl, by simp⟩)
          · exact .inl h
        · exact .inr (.inl h)
        · cases h
      have le8 : Le h1 h8 := l6.trans l8'
      refine Lp_count bs[m].e.ways.length (fun j st hh => ∃ out' q', 2 * cntF out' + q'.length ≤ 2 * cntF out + q.length ∧ st.2 = ((j : Int), ()) ∧ Le h1 hh ∧ OwnS h1 hh s11 4 1 (out'.map Value.bool) ∧ OwnS h1 hh st.1 3 1 (q'.map (Value.int .i64)) ∧ (∀ a a', s11.a = some a → st.1.a = some a' → a.block ≠ a'.block) ∧ RInv bs out' q' (some (m, j)))
        ⟨out, q, Nat.le_refl _, rfl, le8, o6.le l8', o30, fun a a' ha ha' => by obtain ⟨a2, e1, e2⟩ := d30 a' ha'; rw [e2]; exact d6 a a2 ha e1, inv1⟩ ?_
      rintro j ⟨sq2, jj, u⟩ h9 K1 hj ⟨out2, q2, hmeas, hj2, l9, o9, q9, d9, inv2⟩ hK1
      obtain ⟨rfl, -⟩ := hj2
      refine cond_dec (fun hlt => ?_) (fun hge => ?_)
      · have hj' : j < bs[m].e.ways.length := by have := hw.len; simp only at hlt; omega
        have hwm : bs[m].e.ways[j] ∈ bs[m].e.ways := List.getElem_mem hj'
        have hq2l : sq2.n = q2.length := by have := q9.1; simp at this; omega
        have htk : bs[m].e.ways.take (j + 1) = bs[m].e.ways.take j ++ [bs[m].e.ways[j]] := List.take_succ_eq_append_getElem hj'
        refine elem_edge hw (l1.trans l9) hj' rfl rfl fun qq hqq r7 h11 l11 l11' hr7 b7 => ?_
        have hs11n : s11.n = bs.length := n2
        have adv : (0 ≤ bs[m].e.ways[j].to → bs[m].e.ways[j].to.toNat < bs.length → out2[bs[m].e.ways[j].to.toNat]? = some true) → RInv bs out2 q2 (some (m, j + 1)) := by
          intro hok
          refine ⟨inv2.len, inv2.sound, inv2.queue, fun m' b hm' hb => ?_, inv2.first, inv2.room⟩
          rcases inv2.closed m' b hm' hb with h | h | ⟨j', h, hh⟩
          · exact .inl h
          · exact .inr (.inl h)
          · cases h
            refine .inr (.inr ⟨j + 1, rfl, fun w' hw' => ?_⟩)
            rw [hmb] at hb
            cases hb
            rw [htk] at hw'
            rcases List.mem_append.1 hw' with h | h
            · exact hh w' h
            · rw [List.mem_singleton.1 h]; exact hok
        refine Cut_i (fun st hh => h11 = hh ∧ (st.1 = true → 0 ≤ bs[m].e.ways[j].to ∧ bs[m].e.ways[j].to.toNat < bs.length ∧ out2[bs[m].e.ways[j].to.toNat]? = some false) ∧ (st.1 = false → 0 ≤ bs[m].e.ways[j].to → bs[m].e.ways[j].to.toNat < bs.length → out2[bs[m].e.ways[j].to.toNat]? = some true)) (fun J hJ => ?_) ?_
        · refine ⟨_, b7.cell rfl, cond_dec (fun k0 => ⟨_, b7.cell rfl, cond_dec (fun k1 => ⟨_, b7.cell rfl, ?_⟩) (fun k1 => Wk_self (hJ _ _ ⟨rfl, fun h => by simp at h, fun _ h1 h2 => ?_⟩))⟩) (fun k0 => Wk_self (hJ _ _ ⟨rfl, fun h => by simp at h, fun _ h1 h2 => absurd h1 k0⟩))⟩
          · have k0 : 0 ≤ bs[m].e.ways[j].to := k0
            have k1 : bs[m].e.ways[j].to < (s11.n : Int) := k1
            have hlt2 : bs[m].e.ways[j].to.toNat < out2.length := by rw [inv2.len]; omega
            refine (o9.le l11').bools.ix k0 hlt2 fun a ha => ⟨_, ha, Wk_self (hJ _ _ ⟨rfl, fun h => ⟨k0, by rw [inv2.len] at hlt2; exact hlt2, ?_⟩, fun h _ _ => ?_⟩)⟩
            · have h : (!out2[bs[m].e.ways[j].to.toNat]'hlt2) = true := h
              rw [List.getElem?_eq_getElem hlt2]
              simpa using h
            · have h : (!out2[bs[m].e.ways[j].to.toNat]'hlt2) = false := h
              rw [List.getElem?_eq_getElem hlt2]
              simpa using h
          · have k1 : ¬ bs[m].e.ways[j].to < (s11.n : Int) := k1
            omega
        · rintro ⟨st, u⟩ _ ⟨rfl, g1, g2⟩
          refine cond_b (fun hy => ?_) (fun hn => ?_)
          · obtain ⟨k0, k1, k2⟩ := g1 hy
            have hlt2 : bs[m].e.ways[j].to.toNat < out2.length := by rw [inv2.len]; exact k1
            refine ⟨_, b7.cell rfl, OwnS.set (o9.le l11') (l9.trans l11') k0 (by simpa using hlt2) fun h13 l13 o13 f13 => ?_⟩
            rw [bset] at o13
            have hb7 : h13 r7 = h11 r7 := f13 r7 fun a ha e => by
              obtain ⟨_, arr, harr⟩ := o9.blk ha
              rw [← e, hr7] at harr; cases harr
            refine ⟨_, Box.cell (show Box h13 r7 _ 74 from hb7.trans b7) rfl, New_box fun r64 h14 hr64 l14 b64 => ?_⟩
            have q13 : OwnS h1 h13 sq2 3 1 (q2.map (Value.int .i64)) := (q9.le l11').frame fun a ob ha hob => (f13 _ fun a' ha' e => d9 a' a ha' ha e.symm).trans hob
            refine App_one (l13.trans l14) (q13.le l14) b64 rfl (by omega) (by show (sq2.n + 1) * 8 ≤ _; have := inv2.room; omega) fun s65 h15 l15 o15 n15 f15 d15 => ?_
            have hcnt := cntF_set k2
            have e1 : ((bs[m].e.ways[j].to.toNat : Nat) : Int) = bs[m].e.ways[j].to := by omega
            refine Wk_self (hK1 _ _ hj' ⟨out2.set bs[m].e.ways[j].to.toNat true, q2 ++ [bs[m].e.ways[j].to], ?_, by rw [wnat hj' hw.bd], l15, ?_, by simpa using o15, ?_, ?_⟩)
            · simp only [List.length_append, List.length_cons, List.length_nil]; omega
            · refine (o13.le l14).frame fun a ob ha hob => (f15 _ (fun a' ha' e => d9 a a' ha ha' e) (by rw [hob]; simp)).trans hob
            · intro a a' ha ha' e
              rcases d15 a' ha' with ⟨a2, ha2, e2⟩ | hnone
              · exact d9 a a2 ha ha2 (e.trans e2)
              · obtain ⟨_, arr, harr⟩ := (o13.le l14).blk ha
                rw [← e, harr] at hnone; cases hnone
            · refine ⟨by simp [inv2.len], fun m' hm' => ?_, fun x hx => ?_, fun m' b hm' hb => ?_, ?_, ?_⟩
              · rcases (setT hlt2).1 hm' with h | h
                · subst h
                  exact .step (inv.sound m hm) hmb hwm k0 k1
                · exact inv2.sound m' h
              · rcases List.mem_append.1 hx with h | h
                · obtain ⟨m', e, hm'⟩ := inv2.queue x h
                  exact ⟨m', e, (setT hlt2).2 (.inr hm')⟩
                · rw [List.mem_singleton.1 h]
                  exact ⟨_, e1.symm, (setT hlt2).2 (.inl rfl)⟩
              · rcases (setT hlt2).1 hm' with h | h
                · left; rw [h, e1]; simp
                · rcases inv2.closed m' b h hb with h' | h' | ⟨j', h', hh⟩
                  · exact .inl (List.mem_append_left _ h')
                  · exact .inr (.inl fun w' hw' h1 h2 => (setT hlt2).2 (.inr (h' w' hw' h1 h2)))
                  · cases h'
                    rw [hmb] at hb
                    cases hb
                    refine .inr (.inr ⟨j + 1, rfl, fun w' hw' h1 h2 => ?_⟩)
                    rw [htk] at hw'
                    rcases List.mem_append.1 hw' with hx | hx
                    · exact (setT hlt2).2 (.inr (hh w' hx h1 h2))
                    · rw [List.mem_singleton.1 hx]; exact (setT hlt2).2 (.inl rfl)
              · exact (setT hlt2).2 (.inr inv2.first)
              · have := inv2.room; simp only [List.length_append, List.length_cons, List.length_nil]; omega
          · exact Wk_self (hK1 _ _ hj' ⟨out2, q2, hmeas, by rw [wnat hj' hw.bd], l9.trans l11', o9.le l11', q9.le l11', d9, adv (g2 hn)⟩)
      · have : j = bs[m].e.ways.length := by have := hw.len; simp only at hge; omega
        subst this
        refine Wk_self (hK (2 * cntF out2 + q2.length) _ _ (by simp only [List.length_cons]; omega) ⟨out2, q2, rfl, l9, o9, q9, d9, ?_⟩)
        refine ⟨inv2.len, inv2.sound, inv2.queue, fun m' b hm' hb => ?_, inv2.first, inv2.room⟩
        rcases inv2.closed m' b hm' hb with h | h | ⟨j', h, hh⟩
        · exact .inl h
        · exact .inr (.inl h)
        · cases h
          rw [hmb] at hb
          cases hb
          rw [List.take_of_length_le (Nat.le_refl _)] at hh
          exact .inr (.inl hh)
  · have hle : ¬ (0 : Int) < (sq.n : Int) := hle
    have : q = [] := List.eq_nil_of_length_eq_zero (by omega)
    subst this
    refine Wk_self (hR s11 h6 out (l1.trans l6) (o6.base l1) inv.len fun n => ⟨inv.sound n, fun hr => ?_⟩)
    induction hr with
    | zero _ => exact inv.first
    | step hn hb hw h1 h2 ih =>
      rcases inv.closed _ _ ih hb with h | h | ⟨_, h, _⟩
      · simp at h
      · exact h _ hw h1 h2
      · cases h
end Go.Proofs.Ytaefmhephoilmaa
