/- Contracts of package ssa: values made once, blocks come to. -/
import Derived.Test.YtaefmhephoilmaaZTaintLeast2
import Derived.Test.YtaefmhephoilmaaProg
import Derived.KernelRfl
namespace Go.Proofs.Ytaefmhephoilmaa
open Go Go.VL

theorem ints_one (l : List Int) : (l.map (Value.int .i64)).all oneCell = true := by simp [oneCell]
theorem c_cloneInts {h : V} {s : Sl} {l : List Int} {R : Value → V → Prop} (hs : isInts h s l) (hb : l.length ≤ 1048576) (hR : ∀ s' h', Le h h' → OwnS h h' s' 3 1 (l.map (Value.int .i64)) → (∀ b, h b ≠ none → h' b = h b) → R (sV s') h') : ACalls Try.prog 39 [sV s] h R := by
  obtain ⟨hc, h0⟩ := isSl_cells (enc := Value.int .i64) (fun _ _ _ h => h) hs
  refine S39_ok _ _ _ (cond_b (fun hn => ?_) (fun hn => ?_))
  · have ha : s.a = none := by simpa using hn
    have : l = [] := List.eq_nil_of_length_eq_zero (by rw [← hs.len, h0 ha])
    subst this
    exact Wk_self (hR _ _ (Le.refl _) (OwnS_nil _ _ _ _) (fun _ _ => rfl))
  · refine New_box fun r5 h2 hr l2 b5 => ?_
    have o : OwnS h h2 ⟨some ⟨r5, 0, none⟩, 0, 0⟩ 3 1 [] := ⟨rfl, Nat.le_refl _, Nat.zero_le _, .inr ⟨r5, 0, #[], rfl, hr, b5, by simp, by simp⟩⟩
    have hs2 := hs.le mono_int l2
    obtain ⟨hc2, _⟩ := isSl_cells (enc := Value.int .i64) (fun _ _ _ h => h) hs2
    refine App_own l2 o hc2 h0 (ints_one l) rfl (by omega) (by show (0 + s.n) * 8 ≤ _; rw [hs.len]; omega) fun s' h' l' o' _ f _ => Wk_self (hR s' h' l' (by simpa using o') fun b hb => ?_)
    have hne : b ≠ r5 := fun e => by subst e; exact hb hr
    cases hx : h b with
    | none => exact absurd hx hb
    | some x =>
      have := l2 _ _ hx
      rw [f b (fun a ha => by cases ha; exact hne) (by rw [this]; simp), this]

/- values that are made once -/
def madeB (b : BlockD) : List Int := b.params ++ dsts b
def onceL : (Int → Bool) → List Int → Option (Int → Bool)
  | s, [] => some s
  | s, v :: l => if v ≤ 0 ∨ s v = true then none else onceL (fun j => s j || j == v) l
def onceD (bs : List BlockD) : Bool := (onceL (fun _ => false) (bs.flatMap madeB)).isSome
theorem onceL_append : ∀ (l l' : List Int) (s : Int → Bool), onceL s (l ++ l') = (onceL s l).bind fun t => onceL t l'
  | [], _, _ => rfl
  | v :: l, l', s => by
    simp only [List.cons_append, onceL]
    split
    · rfl
    · exact onceL_append l l' _
theorem onceL_pre {l l' : List Int} {s : Int → Bool} (h : onceL s l = none) : onceL s (l ++ l') = none := by rw [onceL_append, h]; rfl
theorem dsts_length (b : BlockD) : (dsts b).length ≤ b.ins.length := by
  unfold dsts
  exact Nat.le_trans (List.length_filter_le _ _) (by simp)

theorem c_once {h : V} {nm : ByteArray} {s : Sl} {bs : List BlockD} {R : Value → V → Prop} (hs : isBlocks h s bs) (hfew : ∀ b ∈ bs, b.params.length ≤ 1024 ∧ b.ins.length ≤ 1024) (hR : R (.bool (onceD bs)) h) : ACalls Try.prog 22 [.agg ⟨[.string nm, sV s]⟩] h R := by
  refine S22_ok _ _ _ _ (New_box fun r1 h1 hr1 l1 b1 => ?_)
  intro r11 hr11
  have l2 : Le h1 (h1.upd r11 (.map #[] 0)) := le_upd hr11 _
  refine ⟨s, cellq_le l2 (b1.cell rfl), ?_⟩
  have hF : ∀ {hh : V} {l' : List Int}, Le h1 hh → onceL (fun _ => false) l' = none → l' <+: bs.flatMap madeB → Wk hh fun h' => R (.bool false) h' := fun {hh l'} l e hp => ⟨h, l1.trans l, by
    obtain ⟨t, ht⟩ := hp
    have : onceD bs = false := by unfold onceD; rw [← ht, onceL_pre e]; rfl
    rw [this] at hR; exact hR⟩
  refine Lp_count bs.length (fun k st hh => st = ((k : Int), ()) ∧ Le h1 hh ∧ ∃ o t, hh r11 = some o ∧ SetRep o t ∧ onceL (fun _ => false) ((bs.take k).flatMap madeB) = some t) ⟨rfl, l2, _, _, upd_self _ _ _, SetRep.empty, rfl⟩ ?_
  rintro k _ hh K hk ⟨rfl, l, o, t, ho, ht, hon⟩ hK
  refine cond_dec (fun hlt => ?_) (fun hge => ?_)
  · have hk' : k < bs.length := by have := hs.len; simp only at hlt; omega
    obtain ⟨hf1, hf2⟩ := hfew _ (List.getElem_mem hk')
    refine elem_block hs (l1.trans l) hk' rfl rfl fun p i w hp hi hw r5 h5 l5 l5' hr5 b5 => ?_
    refine ⟨p, b5.cell rfl, c_cloneInts (hp.le mono_int l5) (by omega) fun s' h6 l6 o6 f6 => ⟨s', rfl, ?_⟩⟩
    refine ⟨i, (b5.le l6).cell rfl, ?_⟩
    -- what is made is laid together
    refine Lp_count bs[k].ins.length (fun j st hh => st.2 = ((j : Int), ()) ∧ Le h5 hh ∧ OwnS h5 hh st.1 3 1 ((bs[k].params ++ ((bs[k].ins.take j).map InsD.dst).filter (· ≠ 0)).map (Value.int .i64))) ⟨rfl, l6, by simpa using o6⟩ ?_
    rintro j ⟨sm, jj, u⟩ h7 K1 hj ⟨hj2, l7, o7⟩ hK1
    obtain ⟨rfl, -⟩ := hj2
    refine cond_dec (fun hlt => ?_) (fun hge => ?_)
    · have hj' : j < bs[k].ins.length := by have := hi.len; simp only at hlt; omega
      refine elem_ins hi (l5.trans l7) hj' rfl rfl fun q hq r8 h9 l9 l9' hr8 b8 => ?_
      have htake : ((bs[k].ins.take (j + 1)).map InsD.dst) = ((bs[k].ins.take j).map InsD.dst) ++ [bs[k].ins[j].dst] := by
        rw [List.take_succ_eq_append_getElem hj', List.map_append]; rfl
      refine ⟨_, b8.cell rfl, cond_nei (fun hd => ?_) (fun hd => ?_)⟩
      · refine ⟨_, b8.cell rfl, New_box fun r35 h10 hr35 l10 b35 => ?_⟩
        have hlen : sm.n ≤ 2048 := by
          have h1 := o7.1
          simp only [List.length_map, List.length_append, Nat.mul_one] at h1
          have h2 := List.length_filter_le (· ≠ 0) ((bs[k].ins.take j).map InsD.dst)
          simp only [List.length_map, List.length_take] at h2
          omega
        refine App_one (l7.trans (l9'.trans l10)) (o7.le (l9'.trans l10)) b35 rfl (by omega) (by show (sm.n + 1) * 8 ≤ _; omega) fun s36 h11 l11 o11 _ _ _ => ?_
        refine Wk_self (hK1 _ _ hj' ⟨by rw [wnat hj' hi.bd], l11, ?_⟩)
        rw [htake, List.filter_append]
        have : ([bs[k].ins[j].dst].filter (· ≠ 0)) = [bs[k].ins[j].dst] := by
          have hd : bs[k].ins[j].dst ≠ 0 := hd
          simp [hd]
        rw [this, ← List.append_assoc, List.map_append]
        exact o11
      · refine Wk_self (hK1 _ _ hj' ⟨by rw [wnat hj' hi.bd], l7.trans l9', ?_⟩)
        rw [htake, List.filter_append]
        have : ([bs[k].ins[j].dst].filter (· ≠ 0)) = [] := by
          have hd : bs[k].ins[j].dst = 0 := hd
          simp [hd]
        rw [this, List.append_nil]
        exact o7.le l9'
    · have : j = bs[k].ins.length := by have := hi.len; simp only at hge; omega
      subst this
      rw [List.take_of_length_le (Nat.le_refl _)] at o7
      have o7 : OwnS h5 h7 sm 3 1 ((madeB bs[k]).map (Value.int .i64)) := o7
      have hints := o7.ints
      have hh5 : Le hh h7 := l5'.trans l7
      have hpre : ∀ j, ((bs.take k).flatMap madeB ++ (madeB bs[k]).take j) <+: bs.flatMap madeB := by
        intro j
        refine List.IsPrefix.trans (List.prefix_append_right_inj _ |>.2 (List.take_prefix j _)) ?_
        have : (bs.take k).flatMap madeB ++ madeB bs[k] = (bs.take (k + 1)).flatMap madeB := by rw [List.take_succ_eq_append_getElem hk', List.flatMap_append]; simp
        rw [this]
        conv => rhs; rw [← List.take_append_drop (k + 1) bs, List.flatMap_append]
        exact List.prefix_append _ _
      have h11o : h7 r11 = some o := hh5 _ _ ho
      have hsm : ∀ a, sm.a = some a → a.block ≠ r11 := fun a ha e => by
        obtain ⟨_, arr, harr⟩ := o7.blk ha
        rw [e, h11o] at harr
        cases harr
        obtain ⟨m, ⟨_, es, clk, e1, _⟩, _⟩ := ht
        cases e1
      refine Lp_count (madeB bs[k]).length (fun j st hh => st = ((j : Int), ()) ∧ Le h1 hh ∧ isInts hh sm (madeB bs[k]) ∧ ∃ o t, hh r11 = some o ∧ SetRep o t ∧ onceL (fun _ => false) ((bs.take k).flatMap madeB ++ (madeB bs[k]).take j) = some t) ⟨rfl, l.trans hh5, hints, o, t, h11o, ht, by simpa using hon⟩ ?_
      rintro j _ h14 K2 hj ⟨rfl, l14, hi14, o2, t2, ho2, ht2, hon2⟩ hK2
      refine cond_dec (fun hlt => ?_) (fun hge => ?_)
      · have hj' : j < (madeB bs[k]).length := by have := hi14.len; simp only at hlt; omega
        have hnext : ∀ x, onceL t2 [(madeB bs[k])[j]] = x → onceL (fun _ => false) ((bs.take k).flatMap madeB ++ (madeB bs[k]).take (j + 1)) = x := by
          rintro x rfl
          rw [List.take_succ_eq_append_getElem hj', ← List.append_assoc, onceL_append, hon2]
          rfl
        refine hi14.ixn hj' fun a ha => Ld_i ha (cond_dec (fun hle => hF l14 (hnext _ ?_) (hpre _)) (fun hle => SetRep.look ho2 ht2 (cond_b (fun hy => hF l14 (hnext _ ?_) (hpre _)) (fun hn => SetRep.add ho2 ht2 fun o3 ho3 => Wk_self (hK2 _ _ hj' ⟨by rw [wnat hj' hi14.bd], l14.upd hr11 _, ?_, o3, _, upd_self _ _ _, ho3, hnext _ ?_⟩)))))
        · have hle : (madeB bs[k])[j] ≤ 0 := hle
          simp [onceL, hle]
        · simp [onceL, hy]
        · refine ⟨hi14.1, hi14.2.1, hi14.2.2.1, fun q hq => ?_⟩
          obtain ⟨a, ha, hr⟩ := hi14.2.2.2 q hq
          refine ⟨a, ha, ?_⟩
          have : (h14.upd r11 o3) (a.add (q * 1)).block = h14 (a.add (q * 1)).block := upd_ne (by rw [Addr.blk]; exact hsm a ha) _
          unfold repInt cellq at hr ⊢
          rw [this]; exact hr
        · have hle : ¬ (madeB bs[k])[j] ≤ 0 := hle
          simp [onceL, hle, hn]
      · have : j = (madeB bs[k]).length := by have := hi14.len; simp only at hge; omega
        subst this
        rw [List.take_of_length_le (Nat.le_refl _)] at hon2
        refine Wk_self (hK _ _ hk' ⟨by rw [wnat hk' hs.bd], l14, o2, t2, ho2, ht2, ?_⟩)
        rw [List.take_succ_eq_append_getElem hk', List.flatMap_append, ← hon2]
        simp
  · have : k = bs.length := by have := hs.len; simp only at hge; omega
    subst this
    rw [List.take_of_length_le (Nat.le_refl _)] at hon
    refine ⟨h, l1.trans l, ?_⟩
    have : onceD bs = true := by unfold onceD; rw [hon]; rfl
    rw [this] at hR; exact hR

/- blocks that can be come to -/
inductive Rch (bs : List BlockD) : Nat → Prop where
  | zero : 0 < bs.length → Rch bs 0
  | step {n : Nat} {b : BlockD} {w : EdgeD} : Rch bs n → bs[n]? = some b → w ∈ b.e.ways → 0 ≤ w.to → w.to.toNat < bs.length → Rch bs w.to.toNat
def cntF (out : List Bool) : Nat := out.countP (· == false)
theorem cntF_set {out : List Bool} {n : Nat} (h : out[n]? = some false) : cntF (out.set n true) + 1 = cntF out := by
  induction out generalizing n with
  | nil => simp at h
  | cons b out ih =>
    cases n with
    | zero => simp at h; subst h; simp [cntF]
    | succ n =>
      have := ih (n := n) (by simpa using h)
      simp only [cntF, List.set_cons_succ, List.countP_cons] at this ⊢
      omega
theorem cntF_replicate (n : Nat) : cntF (List.replicate n false) = n := by
  induction n with
  | zero => rfl
  | succ n ih => simp [cntF, List.replicate_succ, List.countP_cons] at ih ⊢; exact ih
theorem bset {l : List Bool} {n : Nat} {b : Bool} : (l.map Value.bool).set n (.bool b) = (l.set n b).map Value.bool := by rw [List.map_set]
theorem setT {out : List Bool} {n m : Nat} (hn : n < out.length) : (out.set n true)[m]? = some true ↔ m = n ∨ out[m]? = some true := by
  rw [List.getElem?_set]
  by_cases e : n = m
  · subst e; simp [hn]
  · have : ¬ m = n := fun x => e x.symm
    simp [e, this]

structure RInv (bs : List BlockD) (out : List Bool) (q : List Int) (m0 : Option (Nat × Nat)) : Prop where
  len : out.length = bs.length
  sound : ∀ m : Nat, out[m]? = some true → Rch bs m
  queue : ∀ x ∈ q, ∃ m : Nat, x = (m : Int) ∧ out[m]? = some true
  closed : ∀ (m : Nat) (b : BlockD), out[m]? = some true → bs[m]? = some b → (m : Int) ∈ q ∨ (∀ w ∈ b.e.ways, 0 ≤ w.to → w.to.toNat < bs.length → out[w.to.toNat]? = some true) ∨
    ∃ j, m0 = some (m, j) ∧ ∀ w ∈ b.e.ways.take j, 0 ≤ w.to → w.to.toNat < bs.length → out[w.to.toNat]? = some true
  first : out[0]? = some true
  room : q.length + cntF out ≤ bs.length

theorem c_Reach {h : V} {nm : ByteArray} {s : Sl} {bs : List BlockD} {R : Value → V → Prop} (hs : isBlocks h s bs) (hfew : bs.length ≤ 1048576)
    (hR : ∀ s' h' (out : List Bool), Le h h' → OwnS h h' s' 4 1 (out.map Value.bool) → out.length = bs.length → (∀ n : Nat, out[n]? = some true ↔ Rch bs n) → R (sV s') h') : ACalls Try.prog 19 [.agg ⟨[.string nm, sV s]⟩] h R := by
  refine S19_ok _ _ _ _ (New_box fun r1 h1 hr1 l1 b1 => ⟨s, b1.cell rfl, ?_⟩)
  refine MkSl_own (by rw [hs.len]; omega) (by omega) fun s11 h2 l2 o2 n2 f2 a2 => ?_
  rw [hs.len] at o2 n2
  have hrep : List.replicate bs.length (Value.bool false) = (List.replicate bs.length false).map Value.bool := by rw [List.map_replicate]
  rw [hrep] at o2
  refine cond_eqi (fun h0 => ?_) (fun h0 => ?_)
  · have h0 : (s11.n : Int) = 0 := h0
    have hb0 : bs = [] := List.eq_nil_of_length_eq_zero (by omega)
    subst hb0
    refine Wk_self (hR s11 h2 [] (l1.trans l2) (o2.base l1) rfl fun n => ⟨fun h => by simp at h, fun h => ?_⟩)
    cases h with
    | zero h => simp at h
    | step _ _ _ _ h => simp at h
  have h0 : ¬ (s11.n : Int) = 0 := h0
  have hpos : 0 < bs.length := by omega
  refine OwnS.set o2 l2 (i := 0) (by omega) (by simpa using hpos) fun h4 l4 o4 f4 => ?_
  rw [bset] at o4
  refine New_box fun r18 h5 hr18 l5 b18 => ?_
  have a11 : ∀ a, s11.a = some a → h4 a.block ≠ none := fun a ha => by obtain ⟨_, arr, harr⟩ := o4.blk ha; rw [harr]; simp
  -- the list of what is to be done begins with the first block
  have q0 : OwnS h1 h5 ⟨some ⟨r18, 0, none⟩, 1, 1⟩ 3 1 ([(0 : Int)].map (Value.int .i64)) := ⟨rfl, Nat.le_refl _, by show 1 ≤ _; omega, .inr ⟨r18, 0, _, rfl, l4.nil hr18, b18, by simp, rfl⟩⟩
  have hset0 : ∀ m, ((List.replicate bs.length false).set (Int.toNat 0) true)[m]? = some true ↔ m = 0 := by
    intro m
    rw [show Int.toNat 0 = 0 from rfl, setT (by simpa using hpos)]
    constructor
    · rintro (h | h)
      · exact h
      · rw [List.getElem?_replicate] at h; split at h <;> simp at h
    · exact fun h => .inl h
  have inv0 : RInv bs ((List.replicate bs.length false).set (Int.toNat 0) true) [0] none := by
    refine ⟨by simp, fun m hm => ?_, fun x hx => ?_, fun m b hm hb => ?_, (hset0 0).2 rfl, ?_⟩
    · rw [(hset0 m).1 hm]; exact .zero hpos
    · simp at hx; subst hx; exact ⟨0, rfl, (hset0 0).2 rfl⟩
    · left; rw [(hset0 m).1 hm]; simp
    · have := cntF_set (out := List.replicate bs.length false) (n := 0) (by simp [hpos])
      rw [cntF_replicate] at this
      simp only [List.length_cons, List.length_nil, show Int.toNat 0 = 0 from rfl]
      omega
  refine Lp_inv (fun n st hh => ∃ out q, n = 2 * cntF out + q.length ∧ Le h1 hh ∧ OwnS h1 hh s11 4 1 (out.map Value.bool) ∧ OwnS h1 hh st.1 3 1 (q.map (Value.int .i64)) ∧ (∀ a a', s11.a = some a → st.1.a = some a' → a.block ≠ a'.block) ∧ RInv bs out q none)
    ⟨_, [0], rfl, l4.trans l5, o4.le l5, q0, fun a a' ha ha' => by cases ha'; exact fun e => a11 a ha (by rw [e]; exact hr18), inv0⟩ ?_
  rintro n ⟨sq, u⟩ h6 K ⟨out, q, rfl, l6, o6, q6, d6, inv⟩ hK
  have hql : sq.n = q.length := by have := q6.1; simp at this; omega
  refine cond_dec (fun hgt => ?_) (fun hle => ?_)
  · have hgt : (0 : Int) < (sq.n : Int) := hgt
    cases q with
    | nil => simp at hql; omega
    | cons x q =>
      obtain ⟨m, rfl, hm⟩ := inv.queue _ (List.mem_cons_self)
      have hmlt : m < bs.length := by have := (List.getElem?_eq_some_iff.1 hm).1; rw [inv.len] at this; exact this
      refine ⟨s, cellq_le l6 (b1.cell rfl), ?_⟩
      refine q6.ints.ixn (k := 0) (by simp) fun a ha => Ld_i ha ?_
      refine elem_block (T := 55) (k := m) hs (l1.trans l6) hmlt rfl rfl fun p i w hp hi hw r5 h8 l8 l8' hr5 b5 => ?_
      refine Slc_tail (v := .int .i64 (m : Int)) (cs := q.map (Value.int .i64)) (q6.le l8') fun s30 o30 n30 d30 => ?_
      refine ⟨w, by rw [Addr.add_add]; exact b5.cell rfl, ?_⟩
      have hmb : bs[m]? = some bs[m] := List.getElem?_eq_getElem hmlt
      -- the ways of the block
      have inv1 : RInv bs out q (some (m, 0)) := by
        refine ⟨inv.len, inv.sound, fun x hx => inv.queue x (by simp [hx]), fun m' b hm' hb => ?_, inv.first, by have := inv.room; simp at this; omega⟩
        rcases inv.closed m' b hm' hb with h | h | ⟨j, h, _⟩
        · rcases List.mem_cons.1 h with h | h
          · have : m' = m := by omega
            subst this
            exact .inr (.inr ⟨0, rfl, by simp⟩)
          · exact .inl h
        · exact .inr (.inl h)
        · cases h
      have le8 : Le h1 h8 := l6.trans l8'
      refine Lp_count bs[m].e.ways.length (fun j st hh => ∃ out' q', 2 * cntF out' + q'.length ≤ 2 * cntF out + q.length ∧ st.2 = ((j : Int), ()) ∧ Le h1 hh ∧ OwnS h1 hh s11 4 1 (out'.map Value.bool) ∧ OwnS h1 hh st.1 3 1 (q'.map (Value.int .i64)) ∧ (∀ a a', s11.a = some a → st.1.a = some a' → a.block ≠ a'.block) ∧ RInv bs out' q' (some (m, j)))
        ⟨out, q, Nat.le_refl _, rfl, le8, o6.le l8', o30, fun a a' ha ha' => by obtain ⟨a2, e1, e2⟩ := d30 a' ha'; rw [e2]; exact d6 a a2 ha e1, inv1⟩ ?_
      rintro j ⟨sq2, jj, u⟩ h9 K1 hj ⟨out2, q2, hmeas, hj2, l9, o9, q9, d9, inv2⟩ hK1
      obtain ⟨rfl, -⟩ := hj2
      refine cond_dec (fun hlt => ?_) (fun hge => ?_)
      · have hj' : j < bs[m].e.ways.length := by have := hw.len; simp only at hlt; omega
        have hwm : bs[m].e.ways[j] ∈ bs[m].e.ways := List.getElem_mem hj'
        have hq2l : sq2.n = q2.length := by have := q9.1; simp at this; omega
        have htk : bs[m].e.ways.take (j + 1) = bs[m].e.ways.take j ++ [bs[m].e.ways[j]] := List.take_succ_eq_append_getElem hj'
        refine elem_edge hw (l1.trans l9) hj' rfl rfl fun qq hqq r7 h11 l11 l11' hr7 b7 => ?_
        have hs11n : s11.n = bs.length := n2
        have adv : (0 ≤ bs[m].e.ways[j].to → bs[m].e.ways[j].to.toNat < bs.length → out2[bs[m].e.ways[j].to.toNat]? = some true) → RInv bs out2 q2 (some (m, j + 1)) := by
          intro hok
          refine ⟨inv2.len, inv2.sound, inv2.queue, fun m' b hm' hb => ?_, inv2.first, inv2.room⟩
          rcases inv2.closed m' b hm' hb with h | h | ⟨j', h, hh⟩
          · exact .inl h
          · exact .inr (.inl h)
          · cases h
            refine .inr (.inr ⟨j + 1, rfl, fun w' hw' => ?_⟩)
            rw [hmb] at hb
            cases hb
            rw [htk] at hw'
            rcases List.mem_append.1 hw' with h | h
            · exact hh w' h
            · rw [List.mem_singleton.1 h]; exact hok
        refine Cut_i (fun st hh => h11 = hh ∧ (st.1 = true → 0 ≤ bs[m].e.ways[j].to ∧ bs[m].e.ways[j].to.toNat < bs.length ∧ out2[bs[m].e.ways[j].to.toNat]? = some false) ∧ (st.1 = false → 0 ≤ bs[m].e.ways[j].to → bs[m].e.ways[j].to.toNat < bs.length → out2[bs[m].e.ways[j].to.toNat]? = some true)) (fun J hJ => ?_) ?_
        · refine ⟨_, b7.cell rfl, cond_dec (fun k0 => ⟨_, b7.cell rfl, cond_dec (fun k1 => ⟨_, b7.cell rfl, ?_⟩) (fun k1 => Wk_self (hJ _ _ ⟨rfl, fun h => by simp at h, fun _ h1 h2 => ?_⟩))⟩) (fun k0 => Wk_self (hJ _ _ ⟨rfl, fun h => by simp at h, fun _ h1 h2 => absurd h1 k0⟩))⟩
          · have k0 : 0 ≤ bs[m].e.ways[j].to := k0
            have k1 : bs[m].e.ways[j].to < (s11.n : Int) := k1
            have hlt2 : bs[m].e.ways[j].to.toNat < out2.length := by rw [inv2.len]; omega
            refine (o9.le l11').bools.ix k0 hlt2 fun a ha => ⟨_, ha, Wk_self (hJ _ _ ⟨rfl, fun h => ⟨k0, by rw [inv2.len] at hlt2; exact hlt2, ?_⟩, fun h _ _ => ?_⟩)⟩
            · have h : (!out2[bs[m].e.ways[j].to.toNat]'hlt2) = true := h
              rw [List.getElem?_eq_getElem hlt2]
              simpa using h
            · have h : (!out2[bs[m].e.ways[j].to.toNat]'hlt2) = false := h
              rw [List.getElem?_eq_getElem hlt2]
              simpa using h
          · have k1 : ¬ bs[m].e.ways[j].to < (s11.n : Int) := k1
            omega
        · rintro ⟨st, u⟩ _ ⟨rfl, g1, g2⟩
          refine cond_b (fun hy => ?_) (fun hn => ?_)
          · obtain ⟨k0, k1, k2⟩ := g1 hy
            have hlt2 : bs[m].e.ways[j].to.toNat < out2.length := by rw [inv2.len]; exact k1
            refine ⟨_, b7.cell rfl, OwnS.set (o9.le l11') (l9.trans l11') k0 (by simpa using hlt2) fun h13 l13 o13 f13 => ?_⟩
            rw [bset] at o13
            have hb7 : h13 r7 = h11 r7 := f13 r7 fun a ha e => by
              obtain ⟨_, arr, harr⟩ := o9.blk ha
              rw [← e, hr7] at harr; cases harr
            refine ⟨_, Box.cell (show Box h13 r7 _ 74 from hb7.trans b7) rfl, New_box fun r64 h14 hr64 l14 b64 => ?_⟩
            have q13 : OwnS h1 h13 sq2 3 1 (q2.map (Value.int .i64)) := (q9.le l11').frame fun a ob ha hob => (f13 _ fun a' ha' e => d9 a' a ha' ha e.symm).trans hob
            refine App_one (l13.trans l14) (q13.le l14) b64 rfl (by omega) (by show (sq2.n + 1) * 8 ≤ _; have := inv2.room; omega) fun s65 h15 l15 o15 n15 f15 d15 => ?_
            have hcnt := cntF_set k2
            have e1 : ((bs[m].e.ways[j].to.toNat : Nat) : Int) = bs[m].e.ways[j].to := by omega
            refine Wk_self (hK1 _ _ hj' ⟨out2.set bs[m].e.ways[j].to.toNat true, q2 ++ [bs[m].e.ways[j].to], ?_, by rw [wnat hj' hw.bd], l15, ?_, by simpa using o15, ?_, ?_⟩)
            · simp only [List.length_append, List.length_cons, List.length_nil]; omega
            · refine (o13.le l14).frame fun a ob ha hob => (f15 _ (fun a' ha' e => d9 a a' ha ha' e) (by rw [hob]; simp)).trans hob
            · intro a a' ha ha' e
              rcases d15 a' ha' with ⟨a2, ha2, e2⟩ | hnone
              · exact d9 a a2 ha ha2 (e.trans e2)
              · obtain ⟨_, arr, harr⟩ := (o13.le l14).blk ha
                rw [← e, harr] at hnone; cases hnone
            · refine ⟨by simp [inv2.len], fun m' hm' => ?_, fun x hx => ?_, fun m' b hm' hb => ?_, ?_, ?_⟩
              · rcases (setT hlt2).1 hm' with h | h
                · subst h
                  exact .step (inv.sound m hm) hmb hwm k0 k1
                · exact inv2.sound m' h
              · rcases List.mem_append.1 hx with h | h
                · obtain ⟨m', e, hm'⟩ := inv2.queue x h
                  exact ⟨m', e, (setT hlt2).2 (.inr hm')⟩
                · rw [List.mem_singleton.1 h]
                  exact ⟨_, e1.symm, (setT hlt2).2 (.inl rfl)⟩
              · rcases (setT hlt2).1 hm' with h | h
                · left; rw [h, e1]; simp
                · rcases inv2.closed m' b h hb with h' | h' | ⟨j', h', hh⟩
                  · exact .inl (List.mem_append_left _ h')
                  · exact .inr (.inl fun w' hw' h1 h2 => (setT hlt2).2 (.inr (h' w' hw' h1 h2)))
                  · cases h'
                    rw [hmb] at hb
                    cases hb
                    refine .inr (.inr ⟨j + 1, rfl, fun w' hw' h1 h2 => ?_⟩)
                    rw [htk] at hw'
                    rcases List.mem_append.1 hw' with hx | hx
                    · exact (setT hlt2).2 (.inr (hh w' hx h1 h2))
                    · rw [List.mem_singleton.1 hx]; exact (setT hlt2).2 (.inl rfl)
              · exact (setT hlt2).2 (.inr inv2.first)
              · have := inv2.room; simp only [List.length_append, List.length_cons, List.length_nil]; omega
          · exact Wk_self (hK1 _ _ hj' ⟨out2, q2, hmeas, by rw [wnat hj' hw.bd], l9.trans l11', o9.le l11', q9.le l11', d9, adv (g2 hn)⟩)
      · have : j = bs[m].e.ways.length := by have := hw.len; simp only at hge; omega
        subst this
        refine Wk_self (hK (2 * cntF out2 + q2.length) _ _ (by simp only [List.length_cons]; omega) ⟨out2, q2, rfl, l9, o9, q9, d9, ?_⟩)
        refine ⟨inv2.len, inv2.sound, inv2.queue, fun m' b hm' hb => ?_, inv2.first, inv2.room⟩
        rcases inv2.closed m' b hm' hb with h | h | ⟨j', h, hh⟩
        · exact .inl h
        · exact .inr (.inl h)
        · cases h
          rw [hmb] at hb
          cases hb
          rw [List.take_of_length_le (Nat.le_refl _)] at hh
          exact .inr (.inl hh)
  · have hle : ¬ (0 : Int) < (sq.n : Int) := hle
    have : q = [] := List.eq_nil_of_length_eq_zero (by omega)
    subst this
    refine Wk_self (hR s11 h6 out (l1.trans l6) (o6.base l1) inv.len fun n => ⟨inv.sound n, fun hr => ?_⟩)
    induction hr with
    | zero _ => exact inv.first
    | step hn hb hw h1 h2 ih =>
      rcases inv.closed _ _ ih hb with h | h | ⟨_, h, _⟩
      · simp at h
      · exact h _ hw h1 h2
      · cases h
end Go.Proofs.Ytaefmhephoilmaa

/- Contracts of package ssa: what is known where, by going on till nothing turns. -/
namespace Go.Proofs.Ytaefmhephoilmaa
open Go Go.VL

def V.del (h : V) (r : Nat) : V := fun b => if b = r then none else h b
theorem del_le (h : V) (r : Nat) : Le (V.del h r) h := by
  intro b o hb
  unfold V.del at hb
  split at hb
  · cases hb
  · exact hb
theorem del_self (h : V) (r : Nat) : V.del h r r = none := by simp [V.del]
theorem del_ne {h : V} {r b : Nat} (hne : b ≠ r) : V.del h r b = h b := by simp [V.del, hne]
theorem mset_map {l : List (Option Nat)} {n : Nat} {x : Option Nat} : (l.map Value.map).set n (.map x) = (l.set n x).map Value.map := by rw [List.map_set]

/- the keys that a set loses -/
noncomputable def loses (s t : Int → Bool) : Bool := @decide (∃ v, s v = true ∧ t v = false) (Classical.propDecidable _)
theorem loses_true {s t : Int → Bool} : loses s t = true ↔ ∃ v, s v = true ∧ t v = false := by unfold loses; exact @decide_eq_true_iff _ (Classical.propDecidable _)
theorem loses_false {s t : Int → Bool} : loses s t = false ↔ ∀ v, s v = true → t v = true := by
  unfold loses
  rw [@decide_eq_false_iff_not _ (Classical.propDecidable _)]
  constructor
  · intro h v hv
    cases ht : t v with
    | true => rfl
    | false => exact absurd ⟨v, hv, ht⟩ h
  · rintro h ⟨v, h1, h2⟩
    rw [h v h1] at h2; cases h2

theorem c_meet_new {h1 h : V} {s : Sl} {vals : List (Option Nat)} {n : Int} {r2 : Nat} {R : Value → V → Prop} (l : Le h1 h) (o : OwnS h1 h s 29 1 (vals.map Value.map)) (h0 : 0 ≤ n) (hn : vals[n.toNat]? = some none)
    (hR : ∀ h', Le h1 h' → OwnS h1 h' s 29 1 ((vals.set n.toNat (some r2)).map Value.map) → (∀ b, (∀ a, s.a = some a → b ≠ a.block) → h' b = h b) → R (.bool true) h') : ACalls Try.prog 44 [sV s, iV n, .map (some r2)] h R := by
  have hlt : n.toNat < vals.length := (List.getElem?_eq_some_iff.1 hn).1
  have hv : vals[n.toNat] = none := by rw [List.getElem?_eq_getElem hlt] at hn; exact Option.some.inj hn
  have hmaps : isSl (fun h a x => cellq h a = some (Value.map x)) 1 h s vals := o.sl fun _ _ _ h => h
  refine S44_ok _ _ _ _ _ (hmaps.ix h0 hlt fun a ha => ⟨none, by rw [← hv]; exact ha, cond_b (fun _ => ?_) (fun e => by cases e)⟩)
  refine OwnS.set o l h0 (by simpa using hlt) fun h' l' o' f' => Wk_self (hR h' l' (by rw [mset_map] at o'; exact o') f')

theorem c_meet_old {h : V} {s : Sl} {vals : List (Option Nat)} {n : Int} {r1 r2 : Nat} {o1 o2 : Obj} {t1 t2 : Int → Bool} {R : Value → V → Prop} (hmaps : isSl (fun h a x => cellq h a = some (Value.map x)) 1 h s vals) (h0 : 0 ≤ n) (hn : vals[n.toNat]? = some (some r1))
    (hr1 : h r1 = some o1) (hs1 : SetRep o1 t1) (hr2 : h r2 = some o2) (hs2 : SetRep o2 t2)
    (hR : ∀ h' o1', h' r1 = some o1' → SetRep o1' (fun v => t1 v && t2 v) → (∀ b, b ≠ r1 → h b ≠ none → h' b = h b) → R (.bool (loses t1 t2)) h') : ACalls Try.prog 44 [sV s, iV n, .map (some r2)] h R := by
  have hlt : n.toNat < vals.length := (List.getElem?_eq_some_iff.1 hn).1
  have hv : vals[n.toNat] = some r1 := by rw [List.getElem?_eq_getElem hlt] at hn; exact Option.some.inj hn
  refine S44_ok _ _ _ _ _ (hmaps.ix h0 hlt fun a ha => ⟨some r1, by rw [← hv]; exact ha, cond_b (fun e => by cases e) (fun _ => ?_)⟩)
  refine hmaps.ix h0 hlt fun a2 ha2 => ⟨some r1, by rw [← hv]; exact ha2, ?_⟩
  obtain ⟨m, hm, hg⟩ := hs1
  have hs1 : SetRep o1 t1 := ⟨m, hm, hg⟩
  refine Rng_map (kd := .bool) hr1 hm fun it h3 hit l3 f3 hI => ?_
  have hne : it ≠ r1 := fun e => by subst e; rw [hit] at hr1; cases hr1
  refine Lp_iter (kd := .bool) (m0 := m)
    (fun m' left st hh => (∀ b, b ≠ r1 → h b ≠ none → hh b = h b) ∧ (∀ k, mget m' k = if t1 k && (decide (k ∈ mkeys left) || t2 k) then some true else none) ∧ (∀ k ∈ mkeys left, t1 k = true) ∧ (st.1 = true ↔ ∃ k, t1 k = true ∧ k ∉ mkeys left ∧ t2 k = false)) hI
    ⟨fun b hb hbn => f3 b (fun e => by subst e; exact hbn hit), fun k => ?_, fun k hk => (SetRep.mem hm hg).1 hk, ⟨fun h => by simp at h, fun ⟨k, h1, h2, _⟩ => absurd ((SetRep.mem hm hg).2 h1) h2⟩⟩ ?_ ?_
  · rw [hg k]
    cases hk : t1 k with
    | false => simp
    | true => have := (SetRep.mem hm hg).2 hk; simp [this]
  · rintro m' left ⟨st, u⟩ hh h' p K hI1 ⟨fr, hc, hle, hst⟩ hp hf hI2 hK
    have hpk : p.1 ∈ mkeys left := List.mem_map.2 ⟨p, hp, rfl⟩
    have hp1 : t1 p.1 = true := hle _ hpk
    have fr' : ∀ b, b ≠ r1 → h b ≠ none → h' b = h b := fun b hb hbn => (hf b (fun e => by subst e; exact hbn hit)).trans (fr b hb hbn)
    -- what the other map says
    have look : ∀ (K : Bool → Bool → Prop), K (t2 p.1) (t2 p.1) → Look h' (some r2) (.int .i64) (.int .i64 p.1) (.one .bool) false K := by
      intro K0 hK0
      by_cases e : r2 = r1
      · subst e
        rw [hr1] at hr2
        cases hr2
        obtain ⟨o3, ho3, hm3⟩ := hI2.map
        refine Look_map (kd := .bool) ho3 hm3 ?_
        have e12 : t2 p.1 = true := by
          obtain ⟨m2, hm2, hg2⟩ := hs2
          obtain ⟨es, clk, e1, q1, _⟩ := hm.ex
          obtain ⟨es', clk', e2, q2, _⟩ := hm2.ex
          rw [e1] at e2
          cases e2
          have hin := (SetRep.mem hm hg).2 hp1
          have : m.map (fun p => (Value.int .i64 p.1, Value.bool p.2)) = m2.map (fun p => (Value.int .i64 p.1, Value.bool p.2)) := q1.symm.trans q2
          have : mkeys m = mkeys m2 := by
            have := congrArg (List.map (fun x : Value × Value => match x.1 with | .int _ n => n | _ => 0)) this
            rw [List.map_map, List.map_map] at this
            exact this
          rw [this] at hin
          exact (SetRep.mem hm2 hg2).1 hin
        have e := hc p.1
        rw [hp1, e12] at e
        rw [e12] at hK0
        rw [e]
        simpa using hK0
      · exact SetRep.look ((fr' r2 e (by rw [hr2]; simp)).trans hr2) hs2 hK0
    refine unK_i (look _ (cond_not (fun hn2 => ?_) (fun hy2 => ?_)))
    · -- it goes
      have hmaps' : ∀ a, repBool h a true → True := fun _ _ => trivial
      refine hmaps.ix h0 hlt fun a3 ha3 => ⟨some r1, ?_, ?_⟩
      · rw [hv] at ha3
        have hblk : a3.block ≠ r1 ∧ h a3.block ≠ none := by
          unfold cellq at ha3
          constructor
          · intro e; rw [e, hr1] at ha3
            obtain ⟨es, clk, e1, _⟩ := hm.ex
            rw [e1] at ha3; cases ha3
          · intro e; rw [e] at ha3; cases ha3
        unfold cellq at ha3 ⊢
        rw [fr' _ hblk.1 hblk.2]
        exact ha3
      · refine MDel_iter hI2 (by rw [keys_filter]; exact fun h => h.2 rfl) fun h6 f6 hI3 => ?_
        obtain ⟨o3, ho3, hm3⟩ := hI2.map
        refine Wk_self (hK _ _ _ hI3 ⟨fun b hb hbn => (f6 b hb).trans (fr' b hb hbn), fun k => ?_, fun k hk => hle k (keys_filter.1 hk).1, ⟨fun _ => ⟨p.1, hp1, by rw [keys_filter]; exact fun h => h.2 rfl, hn2⟩, fun _ => rfl⟩⟩)
        rw [mget_mdel hm3.nodup]
        by_cases e : p.1 = k
        · subst e
          have : ¬ (p.1 ∈ mkeys (left.filter fun q => decide (q.1 ≠ p.1))) := by rw [keys_filter]; exact fun h => h.2 rfl
          simp only [if_true, this, decide_false, Bool.false_or]
          rw [show t2 p.1 = false from hn2]
          simp
        · rw [if_neg e, hc k]
          have : (k ∈ mkeys (left.filter fun q => decide (q.1 ≠ p.1))) ↔ k ∈ mkeys left := by rw [keys_filter]; exact ⟨fun h => h.1, fun h => ⟨h, fun x => e x.symm⟩⟩
          simp only [this]
    · refine Wk_self (hK _ _ _ hI2 ⟨fr', fun k => ?_, fun k hk => hle k (keys_filter.1 hk).1, hst.trans ⟨?_, ?_⟩⟩)
      · rw [hc k]
        by_cases e : k = p.1
        · subst e
          rw [show t2 p.1 = true from hy2]
          simp
        · have : (k ∈ mkeys (left.filter fun q => decide (q.1 ≠ p.1))) ↔ k ∈ mkeys left := by rw [keys_filter]; exact ⟨fun h => h.1, fun h => ⟨h, e⟩⟩
          simp only [this]
      · rintro ⟨k, h1, h2, h3⟩
        exact ⟨k, h1, fun h => h2 (keys_filter.1 h).1, h3⟩
      · rintro ⟨k, h1, h2, h3⟩
        refine ⟨k, h1, fun h => h2 (keys_filter.2 ⟨h, fun e => ?_⟩), h3⟩
        subst e
        rw [show t2 p.1 = true from hy2] at h3; cases h3
  · rintro m' ⟨st, u⟩ hh K hI1 ⟨fr, hc, hle, hst⟩
    obtain ⟨o3, ho3, hm3⟩ := hI1.map
    have hb : st = loses t1 t2 := by
      rw [Bool.eq_iff_iff, loses_true]
      have hst : st = true ↔ _ := hst
      rw [hst]
      simp [mkeys]
    have := hR hh o3 ho3 ⟨m', hm3, fun k => by rw [hc k]; simp [mkeys]⟩ fr
    rw [← hb] at this
    exact Wk_self this
end Go.Proofs.Ytaefmhephoilmaa

/- Contracts of package ssa: known. -/
namespace Go.Proofs.Ytaefmhephoilmaa
open Go Go.VL

theorem sum_le {α : Type} {f g : α → Nat} : ∀ {l : List α}, (∀ x ∈ l, f x ≤ g x) → (l.map f).sum ≤ (l.map g).sum
  | [], _ => Nat.le_refl _
  | x :: l, h => by
    have h1 := h x List.mem_cons_self
    have h2 := sum_le (l := l) fun y hy => h y (List.mem_cons_of_mem _ hy)
    simp only [List.map_cons, List.sum_cons]; omega
theorem sum_lt {α : Type} {f g : α → Nat} : ∀ {l : List α}, (∀ x ∈ l, f x ≤ g x) → (∃ x ∈ l, f x < g x) → (l.map f).sum < (l.map g).sum
  | [], _, ⟨_, h, _⟩ => by simp at h
  | x :: l, h, ⟨y, hy, hlt⟩ => by
    have h1 := h x List.mem_cons_self
    have h2 := sum_le (l := l) fun y hy => h y (List.mem_cons_of_mem _ hy)
    simp only [List.map_cons, List.sum_cons]
    rcases List.mem_cons.1 hy with e | e
    · subst e; omega
    · have := sum_lt (l := l) (fun y hy => h y (List.mem_cons_of_mem _ hy)) ⟨y, e, hlt⟩
      omega
theorem sum_set {α : Type} {f : α → Nat} : ∀ {l : List α} {n : Nat} {x y : α}, l[n]? = some x → ((l.set n y).map f).sum + f x = (l.map f).sum + f y
  | [], _, _, _, h => by simp at h
  | z :: l, 0, x, y, h => by
    simp at h; subst h
    simp only [List.set_cons_zero, List.map_cons, List.sum_cons]; omega
  | z :: l, n + 1, x, y, h => by
    have := sum_set (f := f) (l := l) (n := n) (x := x) (y := y) (by simpa using h)
    simp only [List.set_cons_succ, List.map_cons, List.sum_cons]; omega
theorem countP_le {α : Type} {p q : α → Bool} : ∀ {l : List α}, (∀ x ∈ l, p x = true → q x = true) → l.countP p ≤ l.countP q
  | [], _ => Nat.le_refl _
  | x :: l, h => by
    have h1 := h x List.mem_cons_self
    have h2 := countP_le (l := l) fun y hy => h y (List.mem_cons_of_mem _ hy)
    simp only [List.countP_cons]
    cases hp : p x with
    | true => rw [h1 hp]; simpa using h2
    | false => simp; omega
theorem countP_lt {α : Type} {p q : α → Bool} : ∀ {l : List α}, (∀ x ∈ l, p x = true → q x = true) → (∃ x ∈ l, q x = true ∧ p x = false) → l.countP p < l.countP q
  | [], _, ⟨_, h, _⟩ => by simp at h
  | x :: l, h, ⟨y, hy, hq, hp⟩ => by
    have h1 := h x List.mem_cons_self
    have h2 := countP_le (l := l) fun y hy => h y (List.mem_cons_of_mem _ hy)
    simp only [List.countP_cons]
    rcases List.mem_cons.1 hy with e | e
    · subst e; rw [hq, hp]; simp; omega
    · have h3 := countP_lt (l := l) (fun y hy => h y (List.mem_cons_of_mem _ hy)) ⟨y, e, hq, hp⟩
      cases hp : p x with
      | true => rw [h1 hp]; simpa using h3
      | false => simp; omega

def wtA (U : List Int) (T : Nat → Int → Bool) : Option Nat → Nat
  | none => U.length + 1
  | some r => U.countP (T r)
def muA (U : List Int) (A : List (Option Nat)) (T : Nat → Int → Bool) : Nat := (A.map (wtA U T)).sum
def upT (T : Nat → Int → Bool) (r : Nat) (t : Int → Bool) : Nat → Int → Bool := fun q => if q = r then t else T q
theorem upT_self (T : Nat → Int → Bool) (r : Nat) (t : Int → Bool) : upT T r t r = t := by simp [upT]
theorem upT_ne {T : Nat → Int → Bool} {r q : Nat} {t : Int → Bool} (h : q ≠ r) : upT T r t q = T q := by simp [upT, h]

structure KW (hB hh : V) (s : Sl) (U : List Int) (A : List (Option Nat)) (T : Nat → Int → Bool) : Prop where
  le : Le hB hh
  own : OwnS hB hh s 29 1 (A.map Value.map)
  set : ∀ (n : Nat) r, A[n]? = some (some r) → ∃ o, hh r = some o ∧ SetRep o (T r)
  new : ∀ (n : Nat) r, A[n]? = some (some r) → hB r = none
  inU : ∀ (n : Nat) r, A[n]? = some (some r) → ∀ v, T r v = true → v ∈ U
  zero : ∀ r, A[0]? = some (some r) → ∀ v, T r v = false

theorem noCells {cs : Array Value} {t : TypeId} {g : Nat × Nat} {s : Int → Bool} (h : SetRep (.cells cs t g) s) : False := by
  obtain ⟨m, hm, _⟩ := h
  obtain ⟨es, clk, e, _⟩ := hm.ex
  cases e
theorem KW.ne {hB hh : V} {s : Sl} {U : List Int} {A : List (Option Nat)} {T : Nat → Int → Bool} (k : KW hB hh s U A T) {r : Nat} {o : Obj} {t : Int → Bool} (hr : hh r = some o) (hs : SetRep o t) : ∀ a, s.a = some a → r ≠ a.block := by
  intro a ha e
  obtain ⟨_, arr, harr⟩ := k.own.blk ha
  rw [← e, hr] at harr
  cases harr
  exact noCells hs
theorem KW.maps {hB hh : V} {s : Sl} {U : List Int} {A : List (Option Nat)} {T : Nat → Int → Bool} (k : KW hB hh s U A T) : isSl (fun h a x => cellq h a = some (Value.map x)) 1 hh s A := k.own.sl fun _ _ _ h => h
/- a store of a set into the slice -/
theorem KW.put {hB hh h' : V} {s : Sl} {U : List Int} {A : List (Option Nat)} {T : Nat → Int → Bool} (k : KW hB hh s U A T) {n r2 : Nat} {o2 : Obj} (hn : n < A.length) (hr2 : hh r2 = some o2) (hs2 : SetRep o2 (T r2)) (hB2 : hB r2 = none) (hU2 : ∀ v, T r2 v = true → v ∈ U) (h0 : n = 0 → ∀ v, T r2 v = false)
    (l' : Le hB h') (o' : OwnS hB h' s 29 1 ((A.set n (some r2)).map Value.map)) (f' : ∀ b, (∀ a, s.a = some a → b ≠ a.block) → h' b = hh b) : KW hB h' s U (A.set n (some r2)) T ∧ h' r2 = some o2 := by
  have hr2' : h' r2 = some o2 := (f' r2 (k.ne hr2 hs2)).trans hr2
  have hget : ∀ (m : Nat) r, (A.set n (some r2))[m]? = some (some r) → (m = n ∧ r = r2) ∨ (m ≠ n ∧ A[m]? = some (some r)) := by
    intro m r h
    rw [List.getElem?_set] at h
    by_cases e : n = m
    · subst e
      simp [hn] at h
      exact .inl ⟨rfl, h.symm⟩
    · rw [if_neg e] at h; exact .inr ⟨fun x => e x.symm, h⟩
  refine ⟨⟨l', o', fun m r h => ?_, fun m r h => ?_, fun m r h v hv => ?_, fun r h v => ?_⟩, hr2'⟩
  · rcases hget m r h with ⟨_, rfl⟩ | ⟨_, h⟩
    · exact ⟨o2, hr2', hs2⟩
    · obtain ⟨o, ho, hs⟩ := k.set m r h
      exact ⟨o, (f' r (k.ne ho hs)).trans ho, hs⟩
  · rcases hget m r h with ⟨_, rfl⟩ | ⟨_, h⟩
    · exact hB2
    · exact k.new m r h
  · rcases hget m r h with ⟨_, rfl⟩ | ⟨_, h⟩
    · exact hU2 v hv
    · exact k.inU m r h v hv
  · rcases hget 0 r h with ⟨e, rfl⟩ | ⟨_, h⟩
    · exact h0 e.symm v
    · exact k.zero r h v
theorem mu_put {U : List Int} {A : List (Option Nat)} {T : Nat → Int → Bool} {n r2 : Nat} (hn : A[n]? = some none) : muA U (A.set n (some r2)) T < muA U A T := by
  have h1 := sum_set (f := wtA U T) (y := some r2) hn
  have h2 : U.countP (T r2) ≤ U.length := List.countP_le_length
  simp only [wtA] at h1
  unfold muA
  omega
theorem mu_cong {U : List Int} {A : List (Option Nat)} {T T' : Nat → Int → Bool} (h : ∀ (n : Nat) r, A[n]? = some (some r) → T' r = T r) : muA U A T' = muA U A T := by
  unfold muA
  congr 1
  apply List.map_congr_left
  intro x hx
  cases x with
  | none => rfl
  | some r =>
    obtain ⟨n, hn, hx⟩ := List.getElem_of_mem hx
    simp only [wtA]
    rw [h n r (by rw [List.getElem?_eq_getElem hn, hx])]

/- what meeting does, by the maps' own names -/
noncomputable def meetW (A : List (Option Nat)) (T : Nat → Int → Bool) (n r2 : Nat) : List (Option Nat) × (Nat → Int → Bool) × Bool := match A[n]? with
  | some (some r1) => (A, upT T r1 (fun v => T r1 v && T r2 v), loses (T r1) (T r2))
  | some none => (A.set n (some r2), T, true)
  | none => (A, T, false)
theorem c_meet {hB hh : V} {s : Sl} {U : List Int} {A : List (Option Nat)} {T : Nat → Int → Bool} {n : Int} {r2 : Nat} {o2 : Obj} {R : Value → V → Prop} (k : KW hB hh s U A T) (h0 : 1 ≤ n) (hn : n.toNat < A.length)
    (hr2 : hh r2 = some o2) (hs2 : SetRep o2 (T r2)) (hB2 : hB r2 = none) (hU2 : ∀ v, T r2 v = true → v ∈ U)
    (hR : ∀ h' A' T' b, meetW A T n.toNat r2 = (A', T', b) → (∀ q, hh q ≠ none → h' q ≠ none) → KW hB h' s U A' T' → (∃ o, h' r2 = some o ∧ SetRep o (T' r2)) → T' r2 = T r2 → A'.length = A.length → (b = true → muA U A' T' < muA U A T) →
      (b = false → A' = A ∧ T' = T ∧ ∃ r1, A[n.toNat]? = some (some r1) ∧ ∀ v, T r1 v = true → T r2 v = true) → R (.bool b) h') : ACalls Try.prog 44 [sV s, iV n, .map (some r2)] hh R := by
  cases hA : A[n.toNat]'hn with
  | none =>
    have hA' : A[n.toNat]? = some none := by rw [List.getElem?_eq_getElem hn, hA]
    refine c_meet_new k.le k.own (by omega) hA' fun h' l' o' f' => ?_
    obtain ⟨k', hr2'⟩ := k.put hn hr2 hs2 hB2 hU2 (fun e => by omega) l' o' f'
    have live : ∀ q, hh q ≠ none → h' q ≠ none := fun q hq => by
      by_cases e : ∃ a, s.a = some a ∧ q = a.block
      · obtain ⟨a, ha, rfl⟩ := e
        obtain ⟨_, arr, harr⟩ := o'.blk ha
        rw [harr]; simp
      · rw [f' q fun a ha x => e ⟨a, ha, x⟩]; exact hq
    exact hR h' _ T true (by unfold meetW; rw [hA']) live k' ⟨o2, hr2', hs2⟩ rfl (by simp) (fun _ => mu_put hA') (fun e => by cases e)
  | some r1 =>
    have hA' : A[n.toNat]? = some (some r1) := by rw [List.getElem?_eq_getElem hn, hA]
    obtain ⟨o1, hr1, hs1⟩ := k.set _ _ hA'
    refine c_meet_old k.maps (by omega) hA' hr1 hs1 hr2 hs2 fun h' o1' hr1' hs1' f' => ?_
    have l' : Le hB h' := fun b ob hb => by
      have e : b ≠ r1 := fun e => by subst e; rw [k.new _ _ hA'] at hb; cases hb
      have := k.le b ob hb
      rw [f' b e (by rw [this]; simp)]; exact this
    have own' : OwnS hB h' s 29 1 (A.map Value.map) := k.own.frame fun a ob ha hob => by
      rw [f' a.block (fun e => k.ne hr1 hs1 a ha e.symm) (by rw [hob]; simp)]; exact hob
    have hset : ∀ r o t, hh r = some o → SetRep o t → (r = r1 → t = T r1) → ∃ o', h' r = some o' ∧ SetRep o' (if r = r1 then (fun v => T r1 v && T r2 v) else t) := by
      intro r o t ho hs _
      by_cases e : r = r1
      · subst e; rw [if_pos rfl]; exact ⟨o1', hr1', hs1'⟩
      · rw [if_neg e]; exact ⟨o, (f' r e (by rw [ho]; simp)).trans ho, hs⟩
    have hup : ∀ r, upT T r1 (fun v => T r1 v && T r2 v) r = if r = r1 then (fun v => T r1 v && T r2 v) else T r := fun r => rfl
    have hsub : ∀ r v, upT T r1 (fun v => T r1 v && T r2 v) r v = true → T r v = true := by
      intro r v h
      rw [hup] at h
      by_cases e : r = r1
      · subst e; rw [if_pos rfl] at h; exact (Bool.and_eq_true_iff.1 h).1
      · rw [if_neg e] at h; exact h
    have e2 : upT T r1 (fun v => T r1 v && T r2 v) r2 = T r2 := by
      rw [hup]
      by_cases e : r2 = r1
      · subst e; rw [if_pos rfl]; funext v; simp
      · rw [if_neg e]
    have k' : KW hB h' s U A (upT T r1 (fun v => T r1 v && T r2 v)) := by
      refine ⟨l', own', fun m r h => ?_, k.new, fun m r h v hv => k.inU m r h v (hsub r v hv), fun r h v => ?_⟩
      · obtain ⟨o, ho, hs⟩ := k.set m r h
        exact hset r o _ ho hs (fun e => by rw [e])
      · cases hv : upT T r1 (fun v => T r1 v && T r2 v) r v with
        | false => rfl
        | true => rw [← k.zero r h v]; exact (hsub r v hv).symm
    have live : ∀ q, hh q ≠ none → h' q ≠ none := fun q hq => by
      by_cases e : q = r1
      · subst e; rw [hr1']; simp
      · rw [f' q e hq]; exact hq
    refine hR h' A _ _ (by unfold meetW; rw [hA']) live k' ?_ e2 rfl (fun hl => ?_) (fun hl => ?_)
    · exact hset r2 o2 _ hr2 hs2 (fun e => by rw [e])
    · obtain ⟨v, hv1, hv2⟩ := loses_true.1 hl
      refine sum_lt (fun x _ => ?_) ⟨some r1, List.mem_of_getElem? hA', ?_⟩
      · cases x with
        | none => exact Nat.le_refl _
        | some r => exact countP_le fun v _ h => hsub r v h
      · refine countP_lt (fun v _ h => hsub r1 v h) ⟨v, k.inU _ _ hA' v hv1, hv1, ?_⟩
        rw [upT_self, hv2]; simp
    · have hl := loses_false.1 hl
      refine ⟨rfl, ?_, r1, hA', hl⟩
      funext r v
      rw [hup]
      by_cases e : r = r1
      · subst e
        rw [if_pos rfl]
        cases hv : T r v with
        | false => simp
        | true => simp [hl v hv]
      · rw [if_neg e]
end Go.Proofs.Ytaefmhephoilmaa

/- What known computes, by names of one's own: the same whatever the memory is. -/
namespace Go.Proofs.Ytaefmhephoilmaa
open Go Go.VL

structure KSt where
  A : List (Option Nat)
  S : List (Int → Bool)
noncomputable def meetF (st : KSt) (n h2 : Nat) : KSt × Bool := match st.A[n]? with
  | some (some h1) => (⟨st.A, st.S.set h1 (fun v => (st.S.getD h1 fun _ => false) v && (st.S.getD h2 fun _ => false) v)⟩, loses (st.S.getD h1 fun _ => false) (st.S.getD h2 fun _ => false))
  | some none => (⟨st.A.set n (some h2), st.S⟩, true)
  | none => (st, false)
noncomputable def waysF (h2 : Nat) (s : KSt × Bool) (w : EdgeD) : KSt × Bool := ((meetF s.1 w.to.toNat h2).1, s.2 || (meetF s.1 w.to.toNat h2).2)
noncomputable def rchB (bs : List BlockD) (n : Nat) : Bool := @decide (Rch bs n) (Classical.propDecidable _)
theorem rchB_iff {bs : List BlockD} {n : Nat} : rchB bs n = true ↔ Rch bs n := by unfold rchB; exact @decide_eq_true_iff _ (Classical.propDecidable _)
/- the block's way through, once its set is there -/
noncomputable def goF (bk : BlockD) (h : Nat) (s : KSt × Bool) : KSt × Bool :=
  bk.e.ways.foldl (waysF s.1.S.length) (⟨s.1.A, s.1.S ++ [afterD (s.1.S.getD h (fun _ => false)) bk]⟩, s.2)
noncomputable def blockF (bs : List BlockD) (k : Nat) (s : KSt × Bool) : KSt × Bool :=
  if rchB bs k = true then
    match bs[k]? with
    | none => s
    | some bk =>
      match s.1.A[k]? with
      | some (some h) => goF bk h s
      | some none => if k = 0 then goF bk s.1.S.length (⟨s.1.A.set 0 (some s.1.S.length), s.1.S ++ [fun (_ : Int) => false]⟩, true) else s
      | none => s
  else s
noncomputable def roundF (bs : List BlockD) : Nat → KSt → KSt × Bool
  | 0, st => (st, false)
  | k + 1, st => blockF bs k (roundF bs k st)
inductive KRun (bs : List BlockD) : KSt → KSt → Prop where
  | stop {st : KSt} : (roundF bs bs.length st).2 = false → KRun bs st (roundF bs bs.length st).1
  | go {st f : KSt} : (roundF bs bs.length st).2 = true → KRun bs (roundF bs bs.length st).1 f → KRun bs st f
theorem KRun.det {bs : List BlockD} {st f g : KSt} (h1 : KRun bs st f) (h2 : KRun bs st g) : f = g := by
  induction h1 with
  | stop e =>
    cases h2 with
    | stop _ => rfl
    | go e' _ => rw [e] at e'; cases e'
  | go e _ ih =>
    cases h2 with
    | stop e' => rw [e] at e'; cases e'
    | go _ h => exact ih h

structure Ref (hh : V) (ids : List Nat) (st : KSt) (A : List (Option Nat)) (T : Nat → Int → Bool) : Prop where
  a : A = st.A.map (Option.map fun h => ids.getD h 0)
  len : ids.length = st.S.length
  t : ∀ (h : Nat) r, ids[h]? = some r → st.S.getD h (fun _ => false) = T r
  nd : ids.Nodup
  bd : ∀ (n : Nat) h, st.A[n]? = some (some h) → h < ids.length
  live : ∀ r ∈ ids, hh r ≠ none
theorem Ref.view {hh h' : V} {ids : List Nat} {st : KSt} {A : List (Option Nat)} {T : Nat → Int → Bool} (r : Ref hh ids st A T) (l : ∀ q, hh q ≠ none → h' q ≠ none) : Ref h' ids st A T := ⟨r.a, r.len, r.t, r.nd, r.bd, fun q hq => l q (r.live q hq)⟩
theorem Ref.le {hh h' : V} {ids : List Nat} {st : KSt} {A : List (Option Nat)} {T : Nat → Int → Bool} (r : Ref hh ids st A T) (l : Le hh h') : Ref h' ids st A T := r.view fun q hq => by
  cases e : hh q with
  | none => exact absurd e hq
  | some o => rw [l _ _ e]; simp
theorem Ref.get {hh : V} {ids : List Nat} {st : KSt} {A : List (Option Nat)} {T : Nat → Int → Bool} (r : Ref hh ids st A T) (n : Nat) : A[n]? = (st.A[n]?).map (Option.map fun h => ids.getD h 0) := by rw [r.a, List.getElem?_map]
theorem Ref.isS {hh : V} {ids : List Nat} {st : KSt} {A : List (Option Nat)} {T : Nat → Int → Bool} (r : Ref hh ids st A T) {n q : Nat} (h : A[n]? = some (some q)) : ∃ i, st.A[n]? = some (some i) ∧ ids[i]? = some q ∧ st.S.getD i (fun _ => false) = T q := by
  rw [r.get n] at h
  cases e : st.A[n]? with
  | none => rw [e] at h; cases h
  | some x =>
    rw [e] at h
    cases x with
    | none => simp at h
    | some i =>
      have hi := r.bd n i e
      simp [List.getElem?_eq_getElem hi] at h
      have : ids[i]? = some q := by rw [List.getElem?_eq_getElem hi, h]
      exact ⟨i, rfl, this, r.t i q this⟩
theorem Ref.isN {hh : V} {ids : List Nat} {st : KSt} {A : List (Option Nat)} {T : Nat → Int → Bool} (r : Ref hh ids st A T) {n : Nat} (h : A[n]? = some none) : st.A[n]? = some none := by
  rw [r.get n] at h
  cases e : st.A[n]? with
  | none => rw [e] at h; cases h
  | some x =>
    rw [e] at h
    cases x with
    | none => rfl
    | some i => simp at h
theorem Ref.fresh {hh h' : V} {ids : List Nat} {st : KSt} {A : List (Option Nat)} {T : Nat → Int → Bool} (r : Ref hh ids st A T) {q : Nat} {t : Int → Bool} (hq : hh q = none) (l : Le hh h') (hq' : h' q ≠ none) :
    Ref h' (ids ++ [q]) ⟨st.A, st.S ++ [t]⟩ A (upT T q t) ∧ (ids ++ [q])[st.S.length]? = some q := by
  have hni : q ∉ ids := fun hm => r.live q hm hq
  have r' := r.le l
  have hA : st.A.map (Option.map fun h => ids.getD h 0) = st.A.map (Option.map fun h => (ids ++ [q]).getD h 0) := by
    apply List.map_congr_left
    intro x hx
    cases x with
    | none => rfl
    | some i =>
      obtain ⟨n, hn, hx⟩ := List.getElem_of_mem hx
      have hi := r.bd n i (by rw [List.getElem?_eq_getElem hn, hx])
      simp only [Option.map_some, List.getD_eq_getElem?_getD, List.getElem?_append_left hi]
  refine ⟨⟨by rw [r.a]; exact hA, by simp [r.len], fun h x hx => ?_, ?_, fun n h hn => ?_, fun x hx => ?_⟩, ?_⟩
  · rcases Nat.lt_or_ge h ids.length with g | g
    · rw [List.getElem?_append_left g] at hx
      have hxm : x ∈ ids := List.mem_of_getElem? hx
      have : x ≠ q := fun e => hni (e ▸ hxm)
      rw [upT_ne this, ← r.t h x hx]
      simp only [List.getD_eq_getElem?_getD]
      rw [List.getElem?_append_left (by rw [← r.len]; exact g)]
    · rw [List.getElem?_append_right g] at hx
      have e : h - ids.length = 0 := by
        have := (List.getElem?_eq_some_iff.1 hx).1
        simp at this; omega
      rw [e] at hx
      simp at hx
      subst hx
      have e2 : h = st.S.length := by rw [← r.len]; omega
      subst e2
      rw [upT_self]
      simp [List.getD_eq_getElem?_getD]
  · rw [List.nodup_append]
    refine ⟨r.nd, by simp, fun a ha b hb => ?_⟩
    rw [List.mem_singleton.1 hb]
    exact fun e => hni (e ▸ ha)
  · have := r.bd n h hn
    simp; omega
  · rcases List.mem_append.1 hx with g | g
    · exact r'.live x g
    · rw [List.mem_singleton.1 g]; exact hq'
  · rw [← r.len]; simp
theorem Ref.meet {hh h' : V} {ids : List Nat} {st : KSt} {A A' : List (Option Nat)} {T T' : Nat → Int → Bool} {n h2 r2 : Nat} {b : Bool} (r : Ref hh ids st A T) (h2r : ids[h2]? = some r2) (e : meetW A T n r2 = (A', T', b)) (live : ∀ q, hh q ≠ none → h' q ≠ none) :
    Ref h' ids (meetF st n h2).1 A' T' ∧ (meetF st n h2).2 = b := by
  have r' := r.view live
  have e2 := r.t h2 r2 h2r
  unfold meetW at e
  cases hA : A[n]? with
  | none =>
    rw [hA] at e
    cases e
    have : st.A[n]? = none := by
      have := r.get n
      rw [hA] at this
      cases x : st.A[n]? with
      | none => rfl
      | some y => rw [x] at this; cases this
    unfold meetF
    rw [this]
    exact ⟨r', rfl⟩
  | some x =>
    cases x with
    | none =>
      rw [hA] at e
      cases e
      unfold meetF
      rw [r.isN hA]
      refine ⟨⟨?_, r.len, r.t, r.nd, fun m h hm => ?_, r'.live⟩, rfl⟩
      · rw [r.a, List.map_set]
        simp [List.getD_eq_getElem?_getD, h2r]
      · simp only [List.getElem?_set] at hm
        split at hm
        · split at hm
          · cases hm; exact (List.getElem?_eq_some_iff.1 h2r).1
          · cases hm
        · exact r.bd m h hm
    | some r1 =>
      rw [hA] at e
      obtain ⟨h1, a1, i1, t1⟩ := r.isS hA
      cases e
      unfold meetF
      rw [a1]
      refine ⟨⟨r.a, by simp [r.len], fun h x hx => ?_, r.nd, r.bd, r'.live⟩, by show loses _ _ = _; rw [t1, e2]⟩
      have hlt := (List.getElem?_eq_some_iff.1 hx).1
      rw [r.len] at hlt
      simp only [List.getD_eq_getElem?_getD, List.getElem?_set]
      by_cases g : h1 = h
      · subst g
        rw [i1] at hx
        cases hx
        rw [upT_self]
        simp only [List.getD_eq_getElem?_getD] at t1 e2
        rw [if_pos rfl, if_pos hlt, Option.getD_some, t1, e2]
      · have : x ≠ r1 := fun ex => by
          subst ex
          exact g ((List.getElem?_inj (List.getElem?_eq_some_iff.1 i1).1 r.nd).1 (i1.trans hx.symm))
        rw [if_neg g, upT_ne this, ← r.t h x hx, List.getD_eq_getElem?_getD]
end Go.Proofs.Ytaefmhephoilmaa

/- Contracts of package ssa: known, at last. -/
namespace Go.Proofs.Ytaefmhephoilmaa
open Go Go.VL

def wayFix (A : List (Option Nat)) (T : Nat → Int → Bool) (t : Int → Bool) (w : EdgeD) : Prop := ∃ r1, A[w.to.toNat]? = some (some r1) ∧ ∀ v, T r1 v = true → t v = true
def blockFix (A : List (Option Nat)) (T : Nat → Int → Bool) (b : Nat) (bk : BlockD) : Prop :=
  (b = 0 → ∃ r, A[0]? = some (some r)) ∧ ∀ r, A[b]? = some (some r) → ∀ w ∈ bk.e.ways, wayFix A T (afterD (T r) bk) w
def FixA (bs : List BlockD) (A : List (Option Nat)) (T : Nat → Int → Bool) : Prop := ∀ (b : Nat) bk, Rch bs b → bs[b]? = some bk → blockFix A T b bk
def agreeT (A : List (Option Nat)) (T T' : Nat → Int → Bool) : Prop := ∀ (n : Nat) r, A[n]? = some (some r) → T' r = T r

/- what holds within a round that began with A0, T0 -/
structure KJ (hB hh : V) (s : Sl) (U : List Int) (A0 : List (Option Nat)) (T0 : Nat → Int → Bool) (turned : Bool) (A : List (Option Nat)) (T : Nat → Int → Bool) : Prop where
  w : KW hB hh s U A T
  len : A.length = A0.length
  mu : muA U A T ≤ muA U A0 T0
  lt : turned = true → muA U A T < muA U A0 T0
  eq : turned = false → A = A0 ∧ agreeT A0 T0 T
theorem KJ.view {hB hh h' : V} {s : Sl} {U : List Int} {A0 A : List (Option Nat)} {T0 T : Nat → Int → Bool} {tu : Bool} (k : KJ hB hh s U A0 T0 tu A T) (l : Le hh h') : KJ hB h' s U A0 T0 tu A T :=
  ⟨⟨k.w.le.trans l, k.w.own.le l, fun n r h => let ⟨o, h1, h2⟩ := k.w.set n r h; ⟨o, l _ _ h1, h2⟩, k.w.new, k.w.inU, k.w.zero⟩, k.len, k.mu, k.lt, k.eq⟩
theorem KW.view {hB hh h' : V} {s : Sl} {U : List Int} {A : List (Option Nat)} {T : Nat → Int → Bool} (k : KW hB hh s U A T) (l : Le hh h') : KW hB h' s U A T :=
  ⟨k.le.trans l, k.own.le l, fun n r h => let ⟨o, h1, h2⟩ := k.set n r h; ⟨o, l _ _ h1, h2⟩, k.new, k.inU, k.zero⟩
/- a new set, beside those of the slice -/
theorem KJ.fresh {hB hh h' : V} {s : Sl} {U : List Int} {A0 A : List (Option Nat)} {T0 T : Nat → Int → Bool} {tu : Bool} (k : KJ hB hh s U A0 T0 tu A T) {r : Nat} {t : Int → Bool} (hr : hh r = none) (l : Le hh h') :
    KJ hB h' s U A0 T0 tu A (upT T r t) ∧ ∀ (n : Nat) q, A[n]? = some (some q) → upT T r t q = T q := by
  have hne : ∀ (n : Nat) q, A[n]? = some (some q) → upT T r t q = T q := fun n q hq => by
    obtain ⟨o, ho, _⟩ := k.w.set n q hq
    exact upT_ne fun e => by subst e; rw [hr] at ho; cases ho
  have hmu : muA U A (upT T r t) = muA U A T := mu_cong hne
  refine ⟨⟨⟨k.w.le.trans l, k.w.own.le l, fun n q h => ?_, k.w.new, fun n q h v hv => ?_, fun q h v => ?_⟩, k.len, by rw [hmu]; exact k.mu, fun h => by rw [hmu]; exact k.lt h, fun h => ?_⟩, hne⟩
  · obtain ⟨o, h1, h2⟩ := k.w.set n q h
    rw [hne n q h]; exact ⟨o, l _ _ h1, h2⟩
  · rw [hne n q h] at hv; exact k.w.inU n q h v hv
  · rw [hne 0 q h]; exact k.w.zero q h v
  · obtain ⟨e1, e2⟩ := k.eq h
    refine ⟨e1, fun n q hq => ?_⟩
    subst e1
    rw [hne n q hq]; exact e2 n q hq

theorem made_mem {bs : List BlockD} {b : BlockD} (hb : b ∈ bs) {s : Int → Bool} (hs : ∀ v, s v = true → v ∈ bs.flatMap madeB) : ∀ v, afterD s b v = true → v ∈ bs.flatMap madeB := by
  intro v hv
  unfold afterD at hv
  rw [Bool.or_eq_true_iff, Bool.or_eq_true_iff] at hv
  rcases hv with (h | h) | h
  · exact hs v h
  · exact List.mem_flatMap.2 ⟨b, hb, List.mem_append_left _ (List.contains_iff_mem.1 h)⟩
  · exact List.mem_flatMap.2 ⟨b, hb, List.mem_append_right _ (List.contains_iff_mem.1 h)⟩

theorem c_known {h : V} {nm : ByteArray} {s : Sl} {bs : List BlockD} {R : Value → V → Prop} (hs : isBlocks h s bs) (hfew : bs.length ≤ 1048576) (hto : ∀ b ∈ bs, ∀ w ∈ b.e.ways, 1 ≤ w.to ∧ w.to.toNat < bs.length)
    (hR : ∀ s' h' A T, Le h h' → isSl (fun h a x => cellq h a = some (Value.map x)) 1 h' s' A → A.length = bs.length → (∀ (n : Nat) r, A[n]? = some (some r) → ∃ o, h' r = some o ∧ SetRep o (T r)) → (∀ r, A[0]? = some (some r) → ∀ v, T r v = false) → FixA bs A T → (∃ ids st, Ref h' ids st A T ∧ KRun bs ⟨List.replicate bs.length none, []⟩ st) → R (sV s') h') :
    ACalls Try.prog 27 [.agg ⟨[.string nm, sV s]⟩] h R := by
  refine S27_ok _ _ _ _ (New_box fun r1 h1 hr1 l1 b1 => ⟨s, b1.cell rfl, ?_⟩)
  refine MkSl_own (by rw [hs.len]; omega) (by omega) fun s14 h2 l2 o2 n2 f2 a2 => ?_
  rw [hs.len] at o2 n2
  refine ⟨(nm, s, ()), (b1.le l2).cells, c_Reach (hs.le mono_block (l1.trans l2)) hfew fun x16 h3 out l3 o3 outl hout => ⟨_, rfl, ?_⟩⟩
  obtain ⟨a14, ha14⟩ := a2
  obtain ⟨n14, arr14, h14⟩ := o2.blk ha14
  -- what stays through it all: everything but the slice of sets
  have lB : Le (V.del h3 a14.block) h3 := del_le _ _
  have lhB : Le h1 (V.del h3 a14.block) := fun b ob hb => by
    have e : b ≠ a14.block := fun e => by subst e; rw [n14] at hb; cases hb
    rw [del_ne e]; exact l3 _ _ (l2 _ _ hb)
  have hsB : isBlocks (V.del h3 a14.block) s bs := hs.le mono_block (l1.trans lhB)
  have b1B : Box (V.del h3 a14.block) r1 [.string nm, sV s] 46 := b1.le lhB
  have xB : isSl repBool 1 (V.del h3 a14.block) x16 out := by
    refine (OwnS.frame (h0 := h2) (h := h3) o3 fun a ob ha hob => ?_).bools
    rw [del_ne (fun e => ?_)]
    · exact hob
    · obtain ⟨e1, _⟩ := o3.blk ha
      rw [e, h14] at e1; cases e1
  have hrep : List.replicate bs.length (Value.map none) = (List.replicate bs.length (none : Option Nat)).map Value.map := by rw [List.map_replicate]
  have oB : OwnS (V.del h3 a14.block) h3 s14 29 1 ((List.replicate bs.length (none : Option Nat)).map Value.map) := by
    rw [← hrep]
    obtain ⟨p1, p2, p3, p4⟩ := o2.le l3
    rcases p4 with ⟨ha, _⟩ | ⟨r, off, arr, ha, _, hr, hz, ht⟩
    · rw [ha14] at ha; cases ha
    · refine ⟨p1, p2, p3, .inr ⟨r, off, arr, ha, ?_, hr, hz, ht⟩⟩
      rw [ha14] at ha
      have e : a14 = ⟨r, off, none⟩ := Option.some.inj ha
      rw [e]; exact del_self _ _
  generalize V.del h3 a14.block = hB at *
  have lhh : Le h hB := l1.trans lhB
  have hno : ∀ (n : Nat) r, (List.replicate bs.length (none : Option Nat))[n]? ≠ some (some r) := by
    intro n r e
    rw [List.getElem?_replicate] at e
    split at e <;> simp at e
  have k0 : KW hB h3 s14 (bs.flatMap madeB) (List.replicate bs.length none) (fun _ _ => false) := ⟨lB, oB, fun n r e => absurd e (hno n r), fun n r e => absurd e (hno n r), fun n r e => absurd e (hno n r), fun r e => absurd e (hno 0 r)⟩
  have ref0 : Ref h3 [] ⟨List.replicate bs.length none, []⟩ (List.replicate bs.length none) (fun _ _ => false) := by
    refine ⟨by simp, rfl, fun h r hr => by simp at hr, List.nodup_nil, fun n h hn => absurd hn (hno n h), fun r hr => by simp at hr⟩
  refine Lp_inv (fun n st hh => ∃ A T, KW hB hh s14 (bs.flatMap madeB) A T ∧ A.length = bs.length ∧ (st.1 = true → muA (bs.flatMap madeB) A T + 1 ≤ n) ∧ (st.1 = false → FixA bs A T) ∧ ∃ ids ks, Ref hh ids ks A T ∧ (st.1 = true → ∀ f, KRun bs ks f → KRun bs ⟨List.replicate bs.length none, []⟩ f) ∧ (st.1 = false → KRun bs ⟨List.replicate bs.length none, []⟩ ks))
    ⟨_, _, k0, by simp, fun _ => Nat.le_refl _, fun e => (by cases e), [], _, ref0, fun _ f hf => hf, fun e => by cases e⟩ ?_
  rintro n ⟨tu, u⟩ h4 K ⟨A0, T0, k0, len0, m0, x0, ids0, ks0, r0, go0, stop0⟩ hK
  refine cond_b (fun ht => ⟨s, (b1B.le k0.le).cell rfl, ?_⟩) (fun ht => Wk_self (hR s14 h4 A0 T0 (lhh.trans k0.le) k0.maps len0 k0.set k0.zero (x0 ht) ⟨ids0, ks0, r0, stop0 ht⟩))
  have m0 := m0 ht
  refine Lp_count bs.length (fun k st hh => ∃ A T, KJ hB hh s14 (bs.flatMap madeB) A0 T0 st.1 A T ∧ st.2 = ((k : Int), ()) ∧ (st.1 = false → ∀ b bk, b < k → Rch bs b → bs[b]? = some bk → blockFix A0 T0 b bk) ∧ ∃ ids, Ref hh ids (roundF bs k ks0).1 A T ∧ (roundF bs k ks0).2 = st.1)
    ⟨A0, T0, ⟨k0, rfl, Nat.le_refl _, fun e => (by cases e), fun _ => ⟨rfl, fun _ _ _ => rfl⟩⟩, rfl, fun _ b bk hb => by omega, ids0, r0, rfl⟩ ?_
  rintro k ⟨tu1, kk, u⟩ h5 K1 hk ⟨A1, T1, j1, hk2, hf1, ids1, rf1, fl1⟩ hK1
  obtain ⟨rfl, -⟩ := hk2
  refine cond_dec (fun hlt => ?_) (fun hge => ?_)
  · have hk' : k < bs.length := by have := hs.len; simp only at hlt; omega
    have hbm : bs[k] ∈ bs := List.getElem_mem hk'
    have hbk : bs[k]? = some bs[k] := List.getElem?_eq_getElem hk'
    refine elem_block hsB j1.w.le hk' rfl rfl fun p i w hp hi hw q7 h7 l7 l7' hr7 b7 => ?_
    have j7 := j1.view l7'
    have len1 : A1.length = bs.length := j1.len.trans len0
    -- a block that is passed over
    have r7 : Ref h7 ids1 (roundF bs k ks0).1 A1 T1 := rf1.le l7'
    have fl1 : (roundF bs k ks0).2 = tu1 := fl1
    have skip : ∀ hh, KJ hB hh s14 (bs.flatMap madeB) A0 T0 tu1 A1 T1 → Ref hh ids1 (roundF bs k ks0).1 A1 T1 → blockF bs k (roundF bs k ks0) = roundF bs k ks0 → (Rch bs k → tu1 = false → blockFix A0 T0 k bs[k]) → Wk hh fun h' => K1 (tu1, IntKind.wrap .i64 ((k : Int) + 1), ()) h' := by
      intro hh jj rr sk hx
      refine Wk_self (hK1 _ _ hk' ⟨A1, T1, jj, by rw [wnat hk' hs.bd], fun h b bk hb hr hbk' => ?_, ids1, by show Ref hh ids1 (blockF bs k (roundF bs k ks0)).1 A1 T1; rw [sk]; exact rr, by show (blockF bs k (roundF bs k ks0)).2 = _; rw [sk]; exact fl1⟩)
      rcases Nat.lt_or_ge b k with g | g
      · exact hf1 h b bk g hr hbk'
      · have e : b = k := by omega
        subst e
        rw [hbk] at hbk'
        cases hbk'
        exact hx hr h
    refine Cut_i (fun _ hh => h7 = hh ∧ Rch bs k ∧ (k ≠ 0 → ∃ r, A1[k]? = some (some r))) (fun J hJ => ?_) ?_
    · refine (xB.le mono_bool l7).ixn (by omega) fun a ha => ⟨_, ha, cond_not (fun hn => ?_) (fun hy => cond_dec (fun hpos => ?_) (fun hz => ?_))⟩
      · have nork : ¬ Rch bs k := fun hr => by
          have := (hout k).2 hr
          rw [List.getElem?_eq_getElem (by omega)] at this
          have hn : out[k] = false := hn
          rw [hn] at this; cases this
        refine skip h7 j7 r7 (by unfold blockF; rw [if_neg (fun e => nork (rchB_iff.1 e))]) fun hr => ?_
        have := (hout k).2 hr
        rw [List.getElem?_eq_getElem (by omega)] at this
        have hn : out[k] = false := hn
        rw [hn] at this; cases this
      · have hrk : Rch bs k := (hout k).1 (by rw [List.getElem?_eq_getElem (by omega)]; exact congrArg some hy)
        have hpos : (k : Int) > 0 := hpos
        cases hx : A1[k]'(by omega) with
        | none =>
          have hn1 := r7.isN (n := k) (by rw [List.getElem?_eq_getElem (by omega), hx])
          refine j7.w.maps.ixn (by omega) fun a ha => ⟨_, ha, cond_b (fun _ => skip h7 j7 r7 (by unfold blockF; rw [if_pos (rchB_iff.2 hrk), hbk]; simp only [hn1]; rw [if_neg (by omega)]) fun _ h => ⟨fun e => by omega, fun r hr => ?_⟩) (fun e => by rw [hx] at e; cases e)⟩
          rw [← (j1.eq h).1, List.getElem?_eq_getElem (by omega), hx] at hr
          cases hr
        | some r =>
          refine j7.w.maps.ixn (by omega) fun a ha => ⟨_, ha, cond_b (fun e => by rw [hx] at e; cases e) (fun _ => Wk_self (hJ _ _ ⟨rfl, hrk, fun _ => ⟨r, by rw [List.getElem?_eq_getElem (by omega), hx]⟩⟩))⟩
      · have hrk : Rch bs k := (hout k).1 (by rw [List.getElem?_eq_getElem (by omega)]; exact congrArg some hy)
        have hz : ¬ (k : Int) > 0 := hz
        exact Wk_self (hJ _ _ ⟨rfl, hrk, fun e => by omega⟩)
    · rintro _ _ ⟨rfl, hrk, hsome⟩
      -- the set of the first block
      refine Cut_i (fun st hh => ∃ A2 T2 r, KJ hB hh s14 (bs.flatMap madeB) A0 T0 st.1 A2 T2 ∧ A2[k]? = some (some r) ∧ Box hh q7 (blockV bs[k] p i w) 55 ∧ (st.1 = false → tu1 = false) ∧ ∃ ids ks i2, Ref hh ids ks A2 T2 ∧ ids[i2]? = some r ∧ blockF bs k (roundF bs k ks0) = goF bs[k] i2 (ks, st.1)) (fun J hJ => ?_) ?_
      · cases hx : A1[k]'(by omega) with
        | some r =>
          obtain ⟨i2, e1, e2, _⟩ := r7.isS (n := k) (q := r) (by rw [List.getElem?_eq_getElem (by omega), hx])
          refine j7.w.maps.ixn (by omega) fun a ha => ⟨_, ha, cond_b (fun e => by rw [hx] at e; cases e) (fun _ => Wk_self (hJ _ _ ⟨A1, T1, r, j7, by rw [List.getElem?_eq_getElem (by omega), hx], b7, fun h => h, ids1, _, i2, r7, e2, ?_⟩))⟩
          unfold blockF
          rw [if_pos (rchB_iff.2 hrk), hbk]
          simp only [e1]
          rw [← fl1]
        | none =>
          have hk0 : k = 0 := by
            apply Classical.byContradiction
            intro e
            obtain ⟨r, hr⟩ := hsome e
            rw [List.getElem?_eq_getElem (by omega), hx] at hr
            cases hr
          have hnone : A1[k]? = some none := by rw [List.getElem?_eq_getElem (by omega), hx]
          refine j7.w.maps.ixn (by omega) fun a ha => ⟨_, ha, cond_b (fun _ => ?_) (fun e => by rw [hx] at e; cases e)⟩
          intro r49 hr49
          have l8 := le_upd hr49 (.map #[] 0)
          obtain ⟨j8, hne8⟩ := j7.fresh (t := fun _ => false) hr49 l8
          obtain ⟨rf8, i8⟩ := r7.fresh (t := fun _ => false) hr49 l8 (by rw [upd_self]; simp)
          have ho8 : (h7.upd r49 (.map #[] 0)) r49 = some (.map #[] 0) := upd_self _ _ _
          have b8 := b7.le l8
          generalize h7.upd r49 (.map #[] 0) = h8 at *
          have hB49 : hB r49 = none := (j7.w.le).nil hr49
          refine OwnS.set j8.w.own j8.w.le (i := (k : Int)) (by omega) (by simpa using (by omega : k < A1.length)) fun h9 l9 o9 f9 => ?_
          have o9 : OwnS hB h9 s14 29 1 ((A1.set k (some r49)).map Value.map) := by rw [List.map_set]; simpa using o9
          obtain ⟨k9, hr9⟩ := j8.w.put (by omega) ho8 (by rw [upT_self]; exact SetRep.empty) hB49 (fun v hv => by rw [upT_self] at hv; cases hv) (fun _ v => by rw [upT_self]) l9 o9 f9
          have hmu := mu_put (U := bs.flatMap madeB) (T := upT T1 r49 fun _ => false) (r2 := r49) hnone
          have b9 : Box h9 q7 (blockV bs[k] p i w) 55 := by
            refine (f9 q7 fun a ha e => ?_).trans b8
            obtain ⟨_, arr, harr⟩ := j1.w.own.blk ha
            rw [← e, hr7] at harr; cases harr
          have live9 : ∀ q, h8 q ≠ none → h9 q ≠ none := fun q hq => by
            by_cases e : ∃ a, s14.a = some a ∧ q = a.block
            · obtain ⟨a, ha, rfl⟩ := e
              obtain ⟨_, arr, harr⟩ := o9.blk ha
              rw [harr]; simp
            · rw [f9 q fun a ha x => e ⟨a, ha, x⟩]; exact hq
          obtain ⟨rf9, _⟩ := rf8.meet (h' := h9) (n := k) (b := true) (A' := A1.set k (some r49)) i8 (by unfold meetW; rw [hnone]) live9
          refine Wk_self (hJ _ _ ⟨_, _, r49, ⟨k9, by simpa using j8.len, by have := j8.mu; omega, fun _ => by have := j8.mu; omega, fun e => by cases e⟩, by simp [show k < A1.length by omega], b9, fun e => (by cases e), _, _, _, rf9, i8, ?_⟩)
          have hn1 := r7.isN (n := k) hnone
          unfold blockF meetF
          rw [if_pos (rchB_iff.2 hrk), hbk]
          simp only [hn1]
          rw [if_pos hk0]
          subst hk0
          rfl
      · rintro ⟨tu3, u⟩ h9 ⟨A2, T2, r, j2, hr2, b9, htu, ids2, ks2, i2, rf2, hi2, heq2⟩
        have len2 : A2.length = bs.length := j2.len.trans len0
        have hx2 : A2[k]'(by omega) = some r := by rw [List.getElem?_eq_getElem (by omega)] at hr2; exact Option.some.inj hr2
        obtain ⟨ob, hob, hsob⟩ := j2.w.set _ _ hr2
        refine j2.w.maps.ixn (by omega) fun a ha => ⟨some r, by rw [← hx2]; exact ha, (p, i, bs[k].e.kind, bs[k].e.val, w, bs[k].e.trap, ()), b9.cells, ?_⟩
        refine c_after hob hsob (hp.le mono_int j2.w.le) (hi.le mono_ins j2.w.le) fun r' o' h10 l10 hn' ho' hs' => ⟨_, rfl, w, by rw [Addr.add_add]; exact (b9.le l10).cell rfl, ?_⟩
        obtain ⟨j3, hne3⟩ := j2.fresh (t := afterD (T2 r) bs[k]) hn' l10
        obtain ⟨rf3, hi3⟩ := rf2.fresh (t := afterD (T2 r) bs[k]) hn' l10 (by rw [ho']; simp)
        have hB' : hB r' = none := j2.w.le.nil hn'
        have hU' := made_mem hbm (j2.w.inU _ _ hr2)
        refine Lp_count bs[k].e.ways.length (fun j st hh => ∃ A T, KJ hB hh s14 (bs.flatMap madeB) A0 T0 st.1 A T ∧ st.2 = ((j : Int), ()) ∧ T r' = afterD (T2 r) bs[k] ∧ (∃ o, hh r' = some o ∧ SetRep o (T r')) ∧
            (st.1 = false → tu3 = false ∧ ∀ v ∈ bs[k].e.ways.take j, wayFix A0 T0 (afterD (T2 r) bs[k]) v) ∧
            Ref hh (ids2 ++ [r']) ((bs[k].e.ways.take j).foldl (waysF ks2.S.length) (⟨ks2.A, ks2.S ++ [afterD (T2 r) bs[k]]⟩, tu3)).1 A T ∧ ((bs[k].e.ways.take j).foldl (waysF ks2.S.length) (⟨ks2.A, ks2.S ++ [afterD (T2 r) bs[k]]⟩, tu3)).2 = st.1)
          ⟨A2, _, j3, rfl, upT_self _ _ _, ⟨o', ho', by rw [upT_self]; exact hs'⟩, fun e => ⟨e, by simp⟩, rf3, rfl⟩ ?_
        rintro j ⟨tu4, jj, u⟩ h11 K2 hj ⟨A4, T4, j4, hj2, hT4, ⟨o4, ho4, hs4⟩, hf4, rf4, fl4⟩ hK2
        obtain ⟨rfl, -⟩ := hj2
        refine cond_dec (fun hlt => ?_) (fun hge => ?_)
        · have hj' : j < bs[k].e.ways.length := by have := hw.len; simp only at hlt; omega
          have hwm : bs[k].e.ways[j] ∈ bs[k].e.ways := List.getElem_mem hj'
          obtain ⟨hto1, hto2⟩ := hto _ hbm _ hwm
          have len4 : A4.length = bs.length := j4.len.trans len0
          refine elem_edge hw j4.w.le hj' rfl rfl fun q hq r10 h13 l13 l13' hr10 b10 => ⟨_, b10.cell rfl, ?_⟩
          have j5 := j4.view l13'
          refine c_meet j5.w hto1 (by omega) (l13' _ _ ho4) hs4 hB' (by rw [hT4]; exact hU') fun h14 A5 T5 tb em5 live5 k5 hr5 hT5 len5 hlt5 heq5 => ⟨_, rfl, ?_⟩
          obtain ⟨rf5, fl5⟩ := (rf4.le l13').meet (n := bs[k].e.ways[j].to.toNat) hi3 em5 live5
          have fold5 : (bs[k].e.ways.take (j + 1)).foldl (waysF ks2.S.length) (⟨ks2.A, ks2.S ++ [afterD (T2 r) bs[k]]⟩, tu3) = waysF ks2.S.length ((bs[k].e.ways.take j).foldl (waysF ks2.S.length) (⟨ks2.A, ks2.S ++ [afterD (T2 r) bs[k]]⟩, tu3)) bs[k].e.ways[j] := foldl_take _ _ _ hj'
          have keep : muA (bs.flatMap madeB) A5 T5 ≤ muA (bs.flatMap madeB) A4 T4 := by
            cases tb with
            | true => exact Nat.le_of_lt (hlt5 rfl)
            | false => obtain ⟨e1, e2, _⟩ := heq5 rfl; rw [e1, e2]; exact Nat.le_refl _
          have hT5' : T5 r' = afterD (T2 r) bs[k] := hT5.trans hT4
          refine cond_b (fun hy => ?_) (fun hn => ?_)
          · have hy : tb = true := hy
            have := j4.mu
            have := hlt5 hy
            exact Wk_self (hK2 _ _ hj' ⟨A5, T5, ⟨k5, len5.trans j4.len, by omega, fun _ => by omega, fun e => by cases e⟩, by rw [wnat hj' hw.bd], hT5', hr5, fun e => (by cases e), by rw [fold5]; exact rf5, by rw [fold5]; show (_ || _) = true; rw [fl5, hy, Bool.or_true]⟩)
          · have hn : tb = false := hn
            obtain ⟨e1, e2, r1, hr1, hsub⟩ := heq5 hn
            subst e1 e2
            refine Wk_self (hK2 _ _ hj' ⟨A5, T5, ⟨k5, j4.len, j4.mu, j4.lt, j4.eq⟩, by rw [wnat hj' hw.bd], hT4, hr5, fun e => ⟨(hf4 e).1, fun v hv => ?_⟩, by rw [fold5]; exact rf5, by rw [fold5]; show (_ || _) = tu4; rw [fl5, hn, Bool.or_false]; exact fl4⟩)
            rw [List.take_succ_eq_append_getElem hj'] at hv
            rcases List.mem_append.1 hv with g | g
            · exact (hf4 e).2 v g
            · rw [List.mem_singleton.1 g]
              obtain ⟨g1, g2⟩ := j4.eq e
              subst g1
              refine ⟨r1, hr1, fun v hv => ?_⟩
              rw [← hT4]
              exact hsub v (by rw [g2 _ _ hr1]; exact hv)
        · have : j = bs[k].e.ways.length := by have := hw.len; simp only at hge; omega
          subst this
          rw [List.take_of_length_le (Nat.le_refl _)] at hf4 rf4 fl4
          have er : roundF bs (k + 1) ks0 = bs[k].e.ways.foldl (waysF ks2.S.length) (⟨ks2.A, ks2.S ++ [afterD (T2 r) bs[k]]⟩, tu3) := by
            show blockF bs k (roundF bs k ks0) = _
            rw [heq2]
            unfold goF
            rw [rf2.t _ _ hi2]
          refine Wk_self (hK1 _ _ hk' ⟨A4, T4, j4, by rw [wnat hk' hs.bd], fun e b bk hb hr hbk' => ?_, _, by rw [er]; exact rf4, by rw [er]; exact fl4⟩)
          obtain ⟨e3, hways⟩ := hf4 e
          rcases Nat.lt_or_ge b k with g | g
          · exact hf1 (htu e3) b bk g hr hbk'
          · have eb : b = k := by omega
            subst eb
            rw [hbk] at hbk'
            cases hbk'
            obtain ⟨g1, g2⟩ := j2.eq e3
            subst g1
            refine ⟨fun e0 => ⟨r, by rw [← e0]; exact hr2⟩, fun q hq v hv => ?_⟩
            rw [hr2] at hq
            cases hq
            have := hways v hv
            rw [g2 _ _ hr2] at this
            exact this
  · have : k = bs.length := by have := hs.len; simp only at hge; omega
    subst this
    have fl1 : (roundF bs bs.length ks0).2 = tu1 := fl1
    refine Wk_self (hK (if tu1 then n - 1 else 0) _ _ ?_ ⟨A1, T1, j1.w, j1.len.trans len0, fun e => ?_, fun e => ?_, ids1, _, rf1, fun e f hf => go0 ht f (.go (fl1.trans e) hf), fun e => go0 ht _ (.stop (fl1.trans e))⟩)
    · split <;> omega
    · have e : tu1 = true := e
      rw [if_pos e]
      have := j1.lt e
      omega
    · have e : tu1 = false := e
      obtain ⟨g1, g2⟩ := j1.eq e
      subst g1
      intro b bk hr hbk
      have hb : b < bs.length := (List.getElem?_eq_some_iff.1 hbk).1
      have := hf1 e b bk hb hr hbk
      refine ⟨this.1, fun r hr v hv => ?_⟩
      obtain ⟨r1, h1, h2⟩ := this.2 r hr v hv
      refine ⟨r1, h1, fun v hv => ?_⟩
      rw [g2 _ _ h1] at hv
      rw [g2 _ _ hr]
      exact h2 v hv
end Go.Proofs.Ytaefmhephoilmaa

/- Contracts of package ssa: Check. -/
namespace Go.Proofs.Ytaefmhephoilmaa
open Go Go.VL

def arrOk (a : ArrD) : Prop := 0 ≤ a.size ∧ a.size ≤ 4096 ∧ 0 ≤ a.hold ∧ a.hold ≤ 2
def blockOk (p : ProgD) (f : FuncD) (b : BlockD) : Prop := endsD f.blocks b.e = true ∧ ∀ i ∈ b.ins, rightD p i = true
def knownRun (bs : List BlockD) : Prop := ∃ st, KRun bs ⟨List.replicate bs.length none, []⟩ st ∧ ∀ (b : Nat) h bk, st.A[b]? = some (some h) → bs[b]? = some bk → usedD (st.S.getD h fun _ => false) bk = true
def knownOk (bs : List BlockD) : Prop := knownRun bs ∧ ∃ A T, A.length = bs.length ∧ (∀ r, A[0]? = some (some r) → ∀ v, T r v = false) ∧ FixA bs A T ∧ ∀ (b : Nat) r bk, A[b]? = some (some r) → bs[b]? = some bk → usedD (T r) bk = true
def funcOk (p : ProgD) (f : FuncD) : Prop := f.blocks ≠ [] ∧ f.params.length ≤ 6 ∧ onceD f.blocks = true ∧ (∀ b ∈ f.blocks, blockOk p f b) ∧ knownOk f.blocks
structure CheckOk (p : ProgD) : Prop where
  arrs : ∀ a ∈ p.arrays, arrOk a
  main0 : 0 ≤ p.main
  main1 : p.main.toNat < p.funcs.length
  main2 : ∀ f, p.funcs[p.main.toNat]? = some f → f.params = []
  funcs : ∀ f ∈ p.funcs, funcOk p f

def fewB (bs : List BlockD) : Prop := bs.length ≤ 1024 ∧ ∀ b ∈ bs, b.params.length ≤ 1024 ∧ b.ins.length ≤ 1024
theorem wayOk_to {bs : List BlockD} {w : EdgeD} (h : wayOk bs w = true) : 1 ≤ w.to ∧ w.to.toNat < bs.length := by
  unfold wayOk at h
  rw [Bool.and_eq_true_iff] at h
  refine ⟨by simpa using h.1, ?_⟩
  have := h.2
  split at this
  · rename_i b hb; exact (List.getElem?_eq_some_iff.1 hb).1
  · cases this
theorem endsD_ways {bs : List BlockD} {e : EndD} (h : endsD bs e = true) : ∀ w ∈ e.ways, wayOk bs w = true := by
  unfold endsD at h
  repeat (split at h; · cases h)
  exact List.all_eq_true.1 h

theorem c_Check {h : V} {p : ProgD} {sa sf : Sl} {R : Value → V → Prop} (ha : isArrs h sa p.arrays) (hf : isFuncs h sf p.funcs) (hfew : ∀ f ∈ p.funcs, fewB f.blocks)
    (hR : ∀ n : Int, n = 0 ∨ n = 40 → (n = 0 ↔ CheckOk p) → R (iV n) h) : ACalls Try.prog 10 [.agg ⟨[sV sa, sV sf, iV p.main]⟩] h R := by
  have h40 : ¬ CheckOk p → R (iV 40) h := fun hn => hR 40 (.inr rfl) ⟨fun e => (by cases e), fun e => absurd e hn⟩
  refine S10_ok _ _ _ _ _ (New_box fun r1 h1 hr1 l1 b1 => ⟨sa, b1.cell rfl, ?_⟩)
  refine Lp_count p.arrays.length (fun k st hh => st = ((k : Int), ()) ∧ Le h1 hh ∧ ∀ a ∈ p.arrays.take k, arrOk a) ⟨rfl, Le.refl _, by simp⟩ ?_
  rintro k _ h2 K hk ⟨rfl, l2, hall⟩ hK
  refine cond_dec (fun hlt => ?_) (fun hge => ?_)
  · have hk' : k < p.arrays.length := by have := ha.len; simp only at hlt; omega
    refine elem_arr ha (l1.trans l2) hk' rfl rfl fun r4 h4 l4 l4' hr4 b4 => ?_
    have bad : ∀ {x : Prop}, x → (arrOk p.arrays[k] → ¬ x) → Wk h4 fun h' => R (iV 40) h' := fun hx hn => Wk_le l4 (h40 fun ok => hn (ok.arrs _ (List.getElem_mem hk')) hx)
    refine ⟨_, b4.cell rfl, cond_dec (fun n1 => bad (show p.arrays[k].size < 0 from n1) fun ok => by have := ok.1; omega) (fun n1 => ⟨_, b4.cell rfl, cond_dec (fun n2 => bad (show p.arrays[k].size > 4096 from n2) fun ok => by have := ok.2.1; omega) (fun n2 => ⟨_, b4.cell rfl, cond_dec (fun n3 => bad (show p.arrays[k].hold < 0 from n3) fun ok => by have := ok.2.2.1; omega) (fun n3 => ⟨_, b4.cell rfl, cond_dec (fun n4 => bad (show p.arrays[k].hold > 2 from n4) fun ok => by have := ok.2.2.2; omega) (fun n4 => ?_)⟩)⟩)⟩)⟩
    refine Wk_self (hK _ _ hk' ⟨by rw [wnat hk' ha.bd], l2.trans l4', fun a hm => ?_⟩)
    rw [List.take_succ_eq_append_getElem hk'] at hm
    rcases List.mem_append.1 hm with g | g
    · exact hall a g
    · rw [List.mem_singleton.1 g]
      have n1 : ¬ p.arrays[k].size < 0 := n1
      have n2 : ¬ p.arrays[k].size > 4096 := n2
      have n3 : ¬ p.arrays[k].hold < 0 := n3
      have n4 : ¬ p.arrays[k].hold > 2 := n4
      exact ⟨by omega, by omega, by omega, by omega⟩
  · have : k = p.arrays.length := by have := ha.len; simp only at hge; omega
    subst this
    rw [List.take_of_length_le (Nat.le_refl _)] at hall
    have l02 := l1.trans l2
    have b2 := b1.le l2
    have hf2 := hf.le mono_func l02
    refine Cut_i (fun _ hh => h2 = hh ∧ 0 ≤ p.main ∧ p.main.toNat < p.funcs.length ∧ ∀ f, p.funcs[p.main.toNat]? = some f → f.params = []) (fun J hJ => ?_) ?_
    · refine ⟨_, b2.cell rfl, cond_dec (fun m0 => Wk_le l02 (h40 fun ok => by have := ok.main0; have m0 : p.main < 0 := m0; omega)) (fun m0 => ⟨_, b2.cell rfl, _, b2.cell rfl, cond_dec (fun m1 => Wk_le l02 (h40 fun ok => by have := ok.main0; have := ok.main1; have := hf.len; have m1 : p.main ≥ (sf.n : Int) := m1; omega)) (fun m1 => ⟨_, b2.cell rfl, _, b2.cell rfl, ?_⟩)⟩)⟩
      have m0 : ¬ p.main < 0 := m0
      have m1 : ¬ p.main ≥ (sf.n : Int) := m1
      have mlt : p.main.toNat < p.funcs.length := ix_lt hf (by omega) (by omega)
      refine hf2.ix (by omega) mlt fun a ⟨s, hs, hc⟩ => ⟨((p.funcs[p.main.toNat]'mlt).name, s, ()), hc, c_Params hs fun s' hs' => ⟨_, rfl, cond_dec (fun m2 => Wk_le l02 (h40 fun ok => ?_)) (fun m2 => Wk_self (hJ _ _ ⟨rfl, by omega, mlt, fun f hf' => ?_⟩))⟩⟩
      · have m2 : (s'.n : Int) > 0 := m2
        have e : s'.n = (p.funcs[p.main.toNat]'mlt).params.length := hs'.len
        rw [ok.main2 _ (List.getElem?_eq_getElem mlt)] at e
        simp at e; omega
      rw [List.getElem?_eq_getElem mlt] at hf'
      cases hf'
      have m2 : ¬ (s'.n : Int) > 0 := m2
      have e : s'.n = (p.funcs[p.main.toNat]'mlt).params.length := hs'.len
      exact List.eq_nil_of_length_eq_zero (by omega)
    · rintro _ _ ⟨rfl, m0, m1, m2⟩
      refine ⟨sf, b2.cell rfl, ?_⟩
      refine Lp_count p.funcs.length (fun k st hh => st = ((k : Int), ()) ∧ Le h2 hh ∧ ∀ f ∈ p.funcs.take k, funcOk p f) ⟨rfl, Le.refl _, by simp⟩ ?_
      rintro k _ h11 K1 hk ⟨rfl, l11, hfs⟩ hK1
      refine cond_dec (fun hlt => ?_) (fun hge => ?_)
      · have hk' : k < p.funcs.length := by have := hf.len; simp only at hlt; omega
        have hfm : p.funcs[k] ∈ p.funcs := List.getElem_mem hk'
        obtain ⟨few1, few2⟩ := hfew _ hfm
        refine elem_func hf2 l11 hk' rfl rfl fun sb hsb r6 h13 l13 l13' hr6 b6 => ?_
        generalize hfd : p.funcs[k] = f at *
        have l03 := l02.trans l13
        have B40 : ∀ {hh}, Le h13 hh → ¬ funcOk p f → Wk hh fun h' => R (iV 40) h' := fun l hn => Wk_le (l03.trans l) (h40 fun ok => hn (ok.funcs _ hfm))
        refine Cut_i (fun _ hh => h13 = hh ∧ f.blocks ≠ [] ∧ f.params.length ≤ 6 ∧ onceD f.blocks = true) (fun J hJ => ?_) ?_
        · refine ⟨_, b6.cell rfl, cond_eqi (fun g0 => B40 (Le.refl _) fun ok => ?_) (fun g0 => ⟨(f.name, sb, ()), b6.cells, c_Params (hsb.le mono_block l13) fun s' hs' => ⟨_, rfl, cond_dec (fun g1 => B40 (Le.refl _) fun ok => ?_) (fun g1 => ⟨(f.name, sb, ()), b6.cells, c_once (hsb.le mono_block l13) few2 ⟨_, rfl, cond_not (fun g2 => B40 (Le.refl _) fun ok => by have g2 : onceD f.blocks = false := g2; rw [ok.2.2.1] at g2; cases g2) (fun g2 => Wk_self (hJ _ _ ⟨rfl, ?_, ?_, g2⟩))⟩⟩)⟩⟩)⟩
          · have g0 : (sb.n : Int) = 0 := g0
            exact ok.1 (List.eq_nil_of_length_eq_zero (by have := hsb.len; omega))
          · have g1 : (s'.n : Int) > 6 := g1
            have e : s'.n = f.params.length := hs'.len
            have := ok.2.1
            omega
          · intro e
            have g0 : (sb.n : Int) ≠ 0 := g0
            have := hsb.len
            rw [e] at this
            simp at this; omega
          · have g1 : ¬ (s'.n : Int) > 6 := g1
            have e : s'.n = f.params.length := hs'.len
            omega
        · rintro _ _ ⟨rfl, g0, g1, g2⟩
          refine ⟨sb, b6.cell rfl, ?_⟩
          refine Lp_count f.blocks.length (fun j st hh => st = ((j : Int), ()) ∧ Le h13 hh ∧ ∀ b ∈ f.blocks.take j, blockOk p f b) ⟨rfl, Le.refl _, by simp⟩ ?_
          rintro j _ h15 K2 hj ⟨rfl, l15, hbs⟩ hK2
          refine cond_dec (fun hlt => ?_) (fun hge => ?_)
          · have hj' : j < f.blocks.length := by have := hsb.len; simp only at hlt; omega
            refine elem_block (hsb.le mono_block l13) l15 hj' rfl rfl fun q i w hq hi hw r8 h17 l17 l17' hr8 b8 => ?_
            have b1' := b2.le (l13.trans l17)
            have hw' : isEdges h17 w f.blocks[j].e.ways := hw.le mono_edge l17
            refine ⟨(f.name, sb, ()), (b6.le l17).cells, (f.blocks[j].e.kind, f.blocks[j].e.val, w, f.blocks[j].e.trap, ()), ?_, c_ends ((hsb.le mono_block l13).le mono_block l17) hw' ⟨_, rfl, cond_not (fun e1 => B40 l17 fun ok => by have e1 : endsD f.blocks f.blocks[j].e = false := e1; rw [(ok.2.2.2.1 _ (List.getElem_mem hj')).1] at e1; cases e1) (fun e1 => ⟨i, b8.cell rfl, ?_⟩)⟩⟩
            · refine cellsAt_of fun n v hv => ?_
              rw [Addr.add_add]
              refine b8.cell ?_
              rw [Nat.zero_add]
              match n, hv with
              | 0, hv => exact hv
              | 1, hv => exact hv
              | 2, hv => exact hv
              | 3, hv => exact hv
            · refine c_contains_ins (q := fun i => !rightD p i) (hi.le mono_ins l17) (fun i' p' K' hp' hK' => ?_) ⟨_, rfl, cond_b (fun e2 => B40 l17 fun ok => ?_) (fun e2 => ?_)⟩
              · exact c_wrong b1'.cells (ha.le mono_arr (l03.trans l17)) (hf.le mono_func (l03.trans l17)) hp' ⟨_, rfl, hK'⟩
              · obtain ⟨i', hi', e3⟩ := List.any_eq_true.1 e2
                rw [(ok.2.2.2.1 _ (List.getElem_mem hj')).2 i' hi'] at e3
                cases e3
              · refine Wk_self (hK2 _ _ hj' ⟨by rw [wnat hj' hsb.bd], l17, fun b hm => ?_⟩)
                rw [List.take_succ_eq_append_getElem hj'] at hm
                rcases List.mem_append.1 hm with g | g
                · exact hbs b g
                · rw [List.mem_singleton.1 g]
                  refine ⟨e1, fun i' hi' => ?_⟩
                  have := List.any_eq_false.1 e2 i' hi'
                  simpa using this
          · have : j = f.blocks.length := by have := hsb.len; simp only at hge; omega
            subst this
            rw [List.take_of_length_le (Nat.le_refl _)] at hbs
            have hto : ∀ b ∈ f.blocks, ∀ w ∈ b.e.ways, 1 ≤ w.to ∧ w.to.toNat < f.blocks.length := fun b hb w hw => wayOk_to (endsD_ways (hbs b hb).1 w hw)
            have hsb5 := (hsb.le mono_block l13).le mono_block l15
            refine ⟨(f.name, sb, ()), (b6.le l15).cells, c_known hsb5 (by omega) hto fun s' h23 A T l23 hA lenA hset hzero hfix ⟨ids, st, rf, run⟩ => ⟨_, rfl, ?_⟩⟩
            have lA := l15.trans l23
            refine Lp_count A.length (fun m st hh => st = ((m : Int), ()) ∧ h23 = hh ∧ ∀ (b : Nat) r bk, b < m → A[b]? = some (some r) → f.blocks[b]? = some bk → usedD (T r) bk = true) ⟨rfl, rfl, fun b _ _ hb => by omega⟩ ?_
            rintro m _ _ K3 hm ⟨rfl, rfl, hused⟩ hK3
            refine cond_dec (fun hlt => ?_) (fun hge => ?_)
            · have hm' : m < A.length := by have := hA.len; simp only at hlt; omega
              have hmb : m < f.blocks.length := by omega
              refine hA.ixn hm' fun a ha' => ⟨A[m], ha', ?_⟩
              cases hx : A[m] with
              | none =>
                refine cond_not (fun e => by cases e) (fun _ => Wk_self (hK3 _ _ hm' ⟨by rw [wnat hm' hA.bd], rfl, fun b r bk hb hbr hbk => ?_⟩))
                rcases Nat.lt_or_ge b m with g | g
                · exact hused b r bk g hbr hbk
                · have : b = m := by omega
                  subst this
                  rw [List.getElem?_eq_getElem hm', hx] at hbr
                  cases hbr
              | some r =>
                have hAm : A[m]? = some (some r) := by rw [List.getElem?_eq_getElem hm', hx]
                obtain ⟨o, ho, hso⟩ := hset m r hAm
                refine cond_not (fun _ => ⟨sb, (b6.le lA).cell rfl, ?_⟩) (fun e => by cases e)
                refine (hsb5.le mono_block l23).ixn hmb fun a2 ⟨q, i, w, hq, hi, hw, hc⟩ => ⟨(q, i, _, _, w, _, ()), hc, c_used ho hso hq hi hw ⟨_, rfl, cond_not (fun hu => B40 lA fun ok => ?_) (fun hu => Wk_self (hK3 _ _ hm' ⟨by rw [wnat hm' hA.bd], rfl, fun b r' bk hb hbr hbk => ?_⟩))⟩⟩
                · obtain ⟨⟨st', run', hu'⟩, _⟩ := ok.2.2.2.2
                  cases run.det run'
                  obtain ⟨i3, e1, e2, e3⟩ := rf.isS hAm
                  have := hu' m i3 _ e1 (List.getElem?_eq_getElem hmb)
                  rw [e3] at this
                  have hu : usedD (T r) f.blocks[m] = false := hu
                  rw [hu] at this; cases this
                rcases Nat.lt_or_ge b m with g | g
                · exact hused b r' bk g hbr hbk
                · have : b = m := by omega
                  subst this
                  rw [hAm] at hbr
                  rw [List.getElem?_eq_getElem hmb] at hbk
                  cases hbr
                  cases hbk
                  exact hu
            · have : m = A.length := by have := hA.len; simp only at hge; omega
              subst this
              refine Wk_self (hK1 _ _ hk' ⟨by rw [wnat hk' hf.bd], (l11.trans l13').trans lA, fun f' hm => ?_⟩)
              rw [List.take_succ_eq_append_getElem hk'] at hm
              rcases List.mem_append.1 hm with g | g
              · exact hfs f' g
              · rw [List.mem_singleton.1 g, hfd]
                refine ⟨g0, g1, g2, hbs, ⟨st, run, fun b h bk hb hbk => ?_⟩, A, T, lenA, hzero, hfix, fun b r bk hb hbk => hused b r bk (List.getElem?_eq_some_iff.1 hb).1 hb hbk⟩
                have hlt := rf.bd b h hb
                have hi := List.getElem?_eq_getElem hlt
                have hA' : A[b]? = some (some ids[h]) := by rw [rf.get b, hb]; simp [List.getD_eq_getElem?_getD, hi]
                rw [rf.t h _ hi]
                exact hused b _ bk (List.getElem?_eq_some_iff.1 hA').1 hA' hbk
      · have : k = p.funcs.length := by have := hf.len; simp only at hge; omega
        subst this
        rw [List.take_of_length_le (Nat.le_refl _)] at hfs
        exact Wk_le (l02.trans l11) (hR 0 (.inl rfl) ⟨fun _ => ⟨hall, m0, m1, m2, hfs⟩, fun _ => rfl⟩)
end Go.Proofs.Ytaefmhephoilmaa

/- What functions of the program ask of a view of memory: printed by shal.py. -/
namespace Go.Proofs.Ytaefmhephoilmaa
open Go Go.VL
set_option maxRecDepth 100000
/- palings/palingslaw07.Few -/
def an8 : An := (.two .nil (.cut [] (.two .nil (.two (.two .nil .nil) .nil)) (.two (.two .nil (.one (.loop [(24, (.one (.int .i64)))] (.two .nil (.two (.two .nil .nil) (.two (.one (.two .nil (.cut [] (.two .nil (.two (.two .nil .nil) .nil)) (.two .nil (.one (.loop [(41, (.one (.int .i64)))] (.two .nil (.two (.two .nil .nil) (.two (.one (.two .nil (.cut [] (.two .nil (.two (.two .nil .nil) .nil)) (.two (.two .nil (.one (.loop [(65, (.one (.int .i64)))] (.two .nil (.two (.two .nil .nil) (.two (.one (.two .nil (.two .nil (.two (.two .nil .nil) .nil)))) .nil)))))) (.two .nil (.one (.loop [(78, (.one (.int .i64)))] (.two .nil (.two (.two .nil .nil) (.two (.one (.two .nil (.two .nil (.two (.two .nil .nil) .nil)))) .nil)))))))))) .nil))))))))) .nil)))))) (.two .nil .nil))))
def S8 (p0_0 : Sl) (p0_1 : Sl) (p0_2 : Int) (h : V) (R : Value → V → Prop) : Prop :=
  New h (.cells #[(.slice p0_0.a p0_0.n p0_0.c), (.slice p0_1.a p0_1.n p0_1.c), (.int .i64 p0_2)] 25) fun r1 h1 =>
  Cut (σ := (Unit)) (fun _ h2 =>
  Ld h2 (Addr.add (⟨r1, 0, none⟩) 1) .sl fun (x22 : Sl) =>
  Lp (σ := (Int × Unit)) (fun K s_1 h3 =>
  cond (decide (s_1.1 < (((x22.n : Nat) : Int))))
  (Ix x22 s_1.1 2 fun a26 =>
  LdA h3 a26 [.str, .sl] fun (x27 : ((ByteArray) × (Sl) × Unit)) =>
  New h3 (.cells #[(.string (⟨#[]⟩)), (.slice none 0 0)] 46) fun r4 h4 =>
  StL h4 (⟨r4, 0, none⟩) 0 [(.string x27.1), (.slice x27.2.1.a x27.2.1.n x27.2.1.c)] fun h5 =>
  Cut (σ := (Unit)) (fun _ h6 =>
  Ld h6 (Addr.add (⟨r4, 0, none⟩) 1) .sl fun (x39 : Sl) =>
  Lp (σ := (Int × Unit)) (fun K_1 s_3 h7 =>
  cond (decide (s_3.1 < (((x39.n : Nat) : Int))))
  (Ix x39 s_3.1 6 fun a43 =>
  LdA h7 a43 [.sl, .sl, (.int .i64), (.int .i64), .sl, (.int .i64)] fun (x44 : ((Sl) × (Sl) × (Int) × (Int) × (Sl) × (Int) × Unit)) =>
  New h7 (.cells #[(.slice none 0 0), (.slice none 0 0), (.int .i64 ((0 : Int))), (.int .i64 ((0 : Int))), (.slice none 0 0), (.int .i64 ((0 : Int)))] 55) fun r6 h8 =>
  StL h8 (⟨r6, 0, none⟩) 0 [(.slice x44.1.a x44.1.n x44.1.c), (.slice x44.2.1.a x44.2.1.n x44.2.1.c), (.int .i64 x44.2.2.1), (.int .i64 x44.2.2.2.1), (.slice x44.2.2.2.2.1.a x44.2.2.2.2.1.n x44.2.2.2.2.1.c), (.int .i64 x44.2.2.2.2.2.1)] fun h9 =>
  Cut (σ := (Unit)) (fun _ h10 =>
  Ld h10 (Addr.add (⟨r6, 0, none⟩) 1) .sl fun (x63 : Sl) =>
  Lp (σ := (Int × Unit)) (fun K_2 s_5 h11 =>
  cond (decide (s_5.1 < (((x63.n : Nat) : Int))))
  (Ix x63 s_5.1 7 fun a67 =>
  LdA h11 a67 [(.int .i64), (.int .i64), .sl, (.int .i64), (.int .i64), (.int .i64), (.int .i64)] fun (x68 : ((Int) × (Int) × (Sl) × (Int) × (Int) × (Int) × (Int) × Unit)) =>
  New h11 (.cells #[(.int .i64 ((0 : Int))), (.int .i64 ((0 : Int))), (.slice none 0 0), (.int .i64 ((0 : Int))), (.int .i64 ((0 : Int))), (.int .i64 ((0 : Int))), (.int .i64 ((0 : Int)))] 60) fun r8 h12 =>
  StL h12 (⟨r8, 0, none⟩) 0 [(.int .i64 x68.1), (.int .i64 x68.2.1), (.slice x68.2.2.1.a x68.2.2.1.n x68.2.2.1.c), (.int .i64 x68.2.2.2.1), (.int .i64 x68.2.2.2.2.1), (.int .i64 x68.2.2.2.2.2.1), (.int .i64 x68.2.2.2.2.2.2.1)] fun h13 =>
  Ld h13 (Addr.add (⟨r8, 0, none⟩) 2) .sl fun (x70 : Sl) =>
  cond (decide ((((x70.n : Nat) : Int)) > ((20 : Int))))
  (Wk h13 fun h14 => R (.bool false) h14)
  (Wk h13 fun h15 => K_2 (IntKind.wrap .i64 (s_5.1 + ((1 : Int))), ()) h15))
  (Ld h11 (Addr.add (Addr.add (⟨r6, 0, none⟩) 2) 2) .sl fun (x76 : Sl) =>
  Lp (σ := (Int × Unit)) (fun K_3 s_6 h16 =>
  cond (decide (s_6.1 < (((x76.n : Nat) : Int))))
  (Ix x76 s_6.1 2 fun a80 =>
  LdA h16 a80 [(.int .i64), .sl] fun (x81 : ((Int) × (Sl) × Unit)) =>
  New h16 (.cells #[(.int .i64 ((0 : Int))), (.slice none 0 0)] 74) fun r10 h17 =>
  StL h17 (⟨r10, 0, none⟩) 0 [(.int .i64 x81.1), (.slice x81.2.1.a x81.2.1.n x81.2.1.c)] fun h18 =>
  Ld h18 (Addr.add (⟨r10, 0, none⟩) 1) .sl fun (x83 : Sl) =>
  cond (decide ((((x83.n : Nat) : Int)) > ((20 : Int))))
  (Wk h18 fun h19 => R (.bool false) h19)
  (Wk h18 fun h20 => K_3 (IntKind.wrap .i64 (s_6.1 + ((1 : Int))), ()) h20))
  (Wk h16 fun h21 => K_1 (IntKind.wrap .i64 (s_3.1 + ((1 : Int))), ()) h21))
  ((0 : Int), ()) h11))
  ((0 : Int), ()) h10) fun J_2 =>
  Ld h9 (Addr.add (⟨r6, 0, none⟩) 0) .sl fun (x46 : Sl) =>
  cond (decide ((((x46.n : Nat) : Int)) > ((20 : Int))))
  (Wk h9 fun h22 => R (.bool false) h22)
  (Ld h9 (Addr.add (⟨r6, 0, none⟩) 1) .sl fun (x51 : Sl) =>
  cond (decide ((((x51.n : Nat) : Int)) > ((40 : Int))))
  (Wk h9 fun h23 => R (.bool false) h23)
  (Ld h9 (Addr.add (Addr.add (⟨r6, 0, none⟩) 2) 2) .sl fun (x58 : Sl) =>
  cond (decide ((((x58.n : Nat) : Int)) > ((5 : Int))))
  (Wk h9 fun h24 => R (.bool false) h24)
  (Wk h9 fun h25 => J_2 (()) h25))))
  (Wk h7 fun h26 => K (IntKind.wrap .i64 (s_1.1 + ((1 : Int))), ()) h26))
  ((0 : Int), ()) h6) fun J_1 =>
  Ld h5 (Addr.add (⟨r4, 0, none⟩) 1) .sl fun (x29 : Sl) =>
  cond (decide ((((x29.n : Nat) : Int)) > ((30 : Int))))
  (Wk h5 fun h27 => R (.bool false) h27)
  (Ld h5 (Addr.add (⟨r4, 0, none⟩) 0) .str fun (x34 : ByteArray) =>
  cond (decide ((((ByteArray.size x34 : Nat) : Int)) > ((40 : Int))))
  (Wk h5 fun h28 => R (.bool false) h28)
  (Wk h5 fun h29 => J_1 (()) h29)))
  (Wk h3 fun h30 => R (.bool true) h30))
  ((0 : Int), ()) h2) fun J =>
  Ld h1 (Addr.add (⟨r1, 0, none⟩) 0) .sl fun (x12 : Sl) =>
  cond (decide ((((x12.n : Nat) : Int)) > ((10 : Int))))
  (Wk h1 fun h31 => R (.bool false) h31)
  (Ld h1 (Addr.add (⟨r1, 0, none⟩) 1) .sl fun (x17 : Sl) =>
  cond (decide ((((x17.n : Nat) : Int)) > ((5 : Int))))
  (Wk h1 fun h32 => R (.bool false) h32)
  (Wk h1 fun h33 => J (()) h33))
theorem S8_eq (p0_0 : Sl) (p0_1 : Sl) (p0_2 : Int) (h : V) (R : Value → V → Prop) : ABody Try.prog an8 Try.f8 [(.agg ⟨[(.slice p0_0.a p0_0.n p0_0.c), (.slice p0_1.a p0_1.n p0_1.c), (.int .i64 p0_2)]⟩)] h R = S8 p0_0 p0_1 p0_2 h R := by kernel_rfl
theorem S8_ok (p0_0 : Sl) (p0_1 : Sl) (p0_2 : Int) (h : V) (R : Value → V → Prop) (hk : S8 p0_0 p0_1 p0_2 h R) : ACalls Try.prog 8 [(.agg ⟨[(.slice p0_0.a p0_0.n p0_0.c), (.slice p0_1.a p0_1.n p0_1.c), (.int .i64 p0_2)]⟩)] h R :=
  ABody_sound mixed Try.func8 Try.call8 (by kernel_rfl) (by kernel_rfl) (an := an8) (by rw [S8_eq]; exact hk)

/- palings/palingslaw12.head -/
def an7 : An := (.two .nil (.two .nil (.two .nil (.two .nil .nil))))
def S7  (h : V) (R : Value → V → Prop) : Prop :=
  New h (.cells #[(.string (⟨#[115]⟩)), (.int .i64 ((2 : Int))), (.int .i64 ((0 : Int)))] 66) fun r5 h1 =>
  New h1 (.cells #[(.int .i64 ((1 : Int))), (.int .i64 ((1 : Int)))] 3) fun r7 h2 =>
  New h2 (.cells #[(.int .i64 ((3 : Int))), (.int .i64 ((1 : Int))), (.slice none 0 0), (.int .i64 ((0 : Int))), (.int .i64 ((0 : Int))), (.int .i64 ((0 : Int))), (.int .i64 ((0 : Int))), (.int .i64 ((2 : Int))), (.int .i64 ((2 : Int))), (.slice ((some ⟨r7, 0, none⟩)) 2 2), (.int .i64 ((0 : Int))), (.int .i64 ((1 : Int))), (.int .i64 ((0 : Int))), (.int .i64 ((0 : Int)))] 60) fun r9 h3 =>
  New h3 (.cells #[(.slice none 0 0), (.slice ((some ⟨r9, 0, none⟩)) 2 2), (.int .i64 ((3 : Int))), (.int .i64 ((2 : Int))), (.slice none 0 0), (.int .i64 ((0 : Int)))] 55) fun r12 h4 =>
  New h4 (.cells #[(.string (⟨#[]⟩)), (.slice ((some ⟨r12, 0, none⟩)) 1 1)] 46) fun r14 h5 =>
  New h5 (.cells #[(.slice none 0 0), (.slice none 0 0), (.int .i64 ((0 : Int)))] 25) fun r1 h6 =>
  StL h6 (⟨r1, 0, none⟩) 0 [(.slice ((some ⟨r5, 0, none⟩)) 1 1), (.slice ((some ⟨r14, 0, none⟩)) 1 1), (.int .i64 ((0 : Int)))] fun h7 =>
  LdA h7 (⟨r1, 0, none⟩) [.sl, .sl, (.int .i64)] fun (x17 : ((Sl) × (Sl) × (Int) × Unit)) =>
  CallK Try.prog 9 [(.agg ⟨[(.slice x17.1.a x17.1.n x17.1.c), (.slice x17.2.1.a x17.2.1.n x17.2.1.c), (.int .i64 x17.2.2.1)]⟩), (.slice none 0 0)] h7 (.tup [(.agg [.sl, .sl, .sl, .sl]), (.one (.int .i64))]) fun (x18 : (((Sl) × (Sl) × (Sl) × (Sl) × Unit) × Int × Unit)) h8 =>
  New h8 (.cells #[(.slice none 0 0), (.slice none 0 0), (.slice none 0 0), (.slice none 0 0)] 33) fun r2 h9 =>
  StL h9 (⟨r2, 0, none⟩) 0 [(.slice x18.1.1.a x18.1.1.n x18.1.1.c), (.slice x18.1.2.1.a x18.1.2.1.n x18.1.2.1.c), (.slice x18.1.2.2.1.a x18.1.2.2.1.n x18.1.2.2.1.c), (.slice x18.1.2.2.2.1.a x18.1.2.2.2.1.n x18.1.2.2.2.1.c)] fun h10 =>
  cond (x18.2.1 == ((0 : Int)))
  (Ld h10 (Addr.add (⟨r2, 0, none⟩) 0) .sl fun (x25 : Sl) =>
  cond ((((x25.n : Nat) : Int)) == ((1 : Int)))
  (Ld h10 (Addr.add (⟨r2, 0, none⟩) 0) .sl fun (x31 : Sl) =>
  Ix x31 ((0 : Int)) 1 fun a32 =>
  Ld h10 a32 .mp fun (x33 : Option Nat) =>
  Look h10 x33 (.int .i64) (.int .i64 ((1 : Int))) (.one (.int .i64)) ((0 : Int)) fun (x34 : Int) _ =>
  cond (x34 == ((2 : Int)))
  (Ld h10 (Addr.add (⟨r2, 0, none⟩) 0) .sl fun (x39 : Sl) =>
  Ix x39 ((0 : Int)) 1 fun a40 =>
  Ld h10 a40 .mp fun (x41 : Option Nat) =>
  Look h10 x41 (.int .i64) (.int .i64 ((2 : Int))) (.one (.int .i64)) ((0 : Int)) fun (x42 : Int) _ =>
  cond (x42 == ((2 : Int)))
  (Ld h10 (Addr.add (⟨r2, 0, none⟩) 2) .sl fun (x47 : Sl) =>
  cond ((((x47.n : Nat) : Int)) == ((1 : Int)))
  (Ld h10 (Addr.add (⟨r2, 0, none⟩) 2) .sl fun (x53 : Sl) =>
  Ix x53 ((0 : Int)) 1 fun a54 =>
  Ld h10 a54 (.int .i64) fun (x55 : Int) =>
  cond (x55 == ((2 : Int)))
  (Ld h10 (Addr.add (⟨r2, 0, none⟩) 1) .sl fun (x60 : Sl) =>
  Wk h10 fun h11 => R (.bool ((((x60.n : Nat) : Int)) == ((1 : Int)))) h11)
  (Wk h10 fun h12 => R (.bool false) h12))
  (Wk h10 fun h13 => R (.bool false) h13))
  (Wk h10 fun h14 => R (.bool false) h14))
  (Wk h10 fun h15 => R (.bool false) h15))
  (Wk h10 fun h16 => R (.bool false) h16))
  (Wk h10 fun h17 => R (.bool false) h17)
theorem S7_eq  (h : V) (R : Value → V → Prop) : ABody Try.prog an7 Try.f7 [] h R = S7  h R := by kernel_rfl
theorem S7_ok  (h : V) (R : Value → V → Prop) (hk : S7  h R) : ACalls Try.prog 7 [] h R :=
  ABody_sound mixed Try.func7 Try.call7 (by kernel_rfl) (by kernel_rfl) (an := an7) (by rw [S7_eq]; exact hk)

end Go.Proofs.Ytaefmhephoilmaa

/- Contracts: Few. -/
namespace Go.Proofs.Ytaefmhephoilmaa
open Go Go.VL

structure FewIns (i : InsD) : Prop where
  args : i.args.length ≤ 20
structure FewBlock (b : BlockD) : Prop where
  params : b.params.length ≤ 20
  ins : b.ins.length ≤ 40
  ways : b.e.ways.length ≤ 5
  args : ∀ i ∈ b.ins, i.args.length ≤ 20
  wargs : ∀ w ∈ b.e.ways, w.args.length ≤ 20
structure FewFunc (f : FuncD) : Prop where
  blocks : f.blocks.length ≤ 30
  name : f.name.size ≤ 40
  all : ∀ b ∈ f.blocks, FewBlock b
structure FewOk (p : ProgD) : Prop where
  arrays : p.arrays.length ≤ 10
  funcs : p.funcs.length ≤ 5
  all : ∀ f ∈ p.funcs, FewFunc f

theorem mem_take_succ {α : Type} {l : List α} {k : Nat} {P : α → Prop} (hk : k < l.length) (h : ∀ x ∈ l.take k, P x) (hx : P l[k]) : ∀ x ∈ l.take (k + 1), P x := by
  intro x hm
  rw [List.take_succ_eq_append_getElem hk] at hm
  rcases List.mem_append.1 hm with g | g
  · exact h x g
  · rw [List.mem_singleton.1 g]; exact hx

theorem c_Few {h : V} {p : ProgD} {sa sf : Sl} {R : Value → V → Prop} (ha : isArrs h sa p.arrays) (hf : isFuncs h sf p.funcs) (hR : ∀ b : Bool, (b = true → FewOk p) → R (.bool b) h) : ACalls Try.prog 8 [.agg ⟨[sV sa, sV sf, iV p.main]⟩] h R := by
  have hF : R (.bool false) h := hR false (fun e => by cases e)
  refine S8_ok _ _ _ _ _ (New_box fun r1 h1 hr1 l1 b1 => ?_)
  refine Cut_i (fun _ hh => h1 = hh ∧ p.arrays.length ≤ 10 ∧ p.funcs.length ≤ 5) (fun J hJ => ?_) ?_
  · refine ⟨sa, b1.cell rfl, cond_dec (fun _ => Wk_le l1 hF) (fun g1 => ⟨sf, b1.cell rfl, cond_dec (fun _ => Wk_le l1 hF) (fun g2 => Wk_self (hJ _ _ ⟨rfl, ?_, ?_⟩))⟩)⟩
    · have g1 : ¬ (sa.n : Int) > 10 := g1
      have := ha.len; omega
    · have g2 : ¬ (sf.n : Int) > 5 := g2
      have := hf.len; omega
  · rintro _ _ ⟨rfl, g1, g2⟩
    refine ⟨sf, b1.cell rfl, ?_⟩
    refine Lp_count p.funcs.length (fun k st hh => st = ((k : Int), ()) ∧ Le h1 hh ∧ ∀ f ∈ p.funcs.take k, FewFunc f) ⟨rfl, Le.refl _, by simp⟩ ?_
    rintro k _ h3 K hk ⟨rfl, l3, hall⟩ hK
    refine cond_dec (fun hlt => ?_) (fun hge => ?_)
    · have hk' : k < p.funcs.length := by have := hf.len; simp only at hlt; omega
      refine elem_func hf (l1.trans l3) hk' rfl rfl fun sb hsb r4 h5 l5 l5' hr4 b4 => ?_
      refine Cut_i (fun _ hh => h5 = hh ∧ p.funcs[k].blocks.length ≤ 30 ∧ p.funcs[k].name.size ≤ 40) (fun J hJ => ?_) ?_
      · refine ⟨sb, b4.cell rfl, cond_dec (fun _ => Wk_le l5 hF) (fun g3 => ⟨p.funcs[k].name, b4.cell rfl, cond_dec (fun _ => Wk_le l5 hF) (fun g4 => Wk_self (hJ _ _ ⟨rfl, ?_, ?_⟩))⟩)⟩
        · have g3 : ¬ (sb.n : Int) > 30 := g3
          have := hsb.len; omega
        · have g4 : ¬ ((p.funcs[k].name.size : Nat) : Int) > 40 := g4
          omega
      · rintro _ _ ⟨rfl, g3, g4⟩
        refine ⟨sb, b4.cell rfl, ?_⟩
        refine Lp_count p.funcs[k].blocks.length (fun j st hh => st = ((j : Int), ()) ∧ Le h5 hh ∧ ∀ b ∈ p.funcs[k].blocks.take j, FewBlock b) ⟨rfl, Le.refl _, by simp⟩ ?_
        rintro j _ h7 K1 hj ⟨rfl, l7, hbs⟩ hK1
        refine cond_dec (fun hlt => ?_) (fun hge => ?_)
        · have hj' : j < p.funcs[k].blocks.length := by have := hsb.len; simp only at hlt; omega
          refine elem_block hsb (l5.trans l7) hj' rfl rfl fun q i w hq hi hw r6 h9 l9 l9' hr6 b6 => ?_
          refine Cut_i (fun _ hh => h9 = hh ∧ p.funcs[k].blocks[j].params.length ≤ 20 ∧ p.funcs[k].blocks[j].ins.length ≤ 40 ∧ p.funcs[k].blocks[j].e.ways.length ≤ 5) (fun J hJ => ?_) ?_
          · refine ⟨q, b6.cell rfl, cond_dec (fun _ => Wk_le l9 hF) (fun g5 => ⟨i, b6.cell rfl, cond_dec (fun _ => Wk_le l9 hF) (fun g6 => ⟨w, by rw [Addr.add_add]; exact b6.cell rfl, cond_dec (fun _ => Wk_le l9 hF) (fun g7 => Wk_self (hJ _ _ ⟨rfl, ?_, ?_, ?_⟩))⟩)⟩)⟩
            · have g5 : ¬ (q.n : Int) > 20 := g5
              have := hq.len; omega
            · have g6 : ¬ (i.n : Int) > 40 := g6
              have := hi.len; omega
            · have g7 : ¬ (w.n : Int) > 5 := g7
              have := hw.len; omega
          · rintro _ _ ⟨rfl, g5, g6, g7⟩
            refine ⟨i, b6.cell rfl, ?_⟩
            refine Lp_count p.funcs[k].blocks[j].ins.length (fun m st hh => st = ((m : Int), ()) ∧ Le h9 hh ∧ ∀ i ∈ p.funcs[k].blocks[j].ins.take m, i.args.length ≤ 20) ⟨rfl, Le.refl _, by simp⟩ ?_
            rintro m _ h11 K2 hm ⟨rfl, l11, his⟩ hK2
            refine cond_dec (fun hlt => ?_) (fun hge => ?_)
            · have hm' : m < p.funcs[k].blocks[j].ins.length := by have := hi.len; simp only at hlt; omega
              refine elem_ins hi (l9.trans l11) hm' rfl rfl fun z hz r8 h13 l13 l13' hr8 b8 => ?_
              refine ⟨z, b8.cell rfl, cond_dec (fun _ => Wk_le l13 hF) (fun g8 => Wk_self (hK2 _ _ hm' ⟨by rw [wnat hm' hi.bd], l11.trans l13', mem_take_succ hm' his ?_⟩))⟩
              have g8 : ¬ (z.n : Int) > 20 := g8
              have := hz.len; omega
            · have : m = p.funcs[k].blocks[j].ins.length := by have := hi.len; simp only at hge; omega
              subst this
              rw [List.take_of_length_le (Nat.le_refl _)] at his
              refine ⟨w, by rw [Addr.add_add]; exact (b6.le l11).cell rfl, ?_⟩
              refine Lp_count p.funcs[k].blocks[j].e.ways.length (fun m st hh => st = ((m : Int), ()) ∧ Le h11 hh ∧ ∀ i ∈ p.funcs[k].blocks[j].e.ways.take m, i.args.length ≤ 20) ⟨rfl, Le.refl _, by simp⟩ ?_
              rintro n _ h16 K3 hn ⟨rfl, l16, hws⟩ hK3
              refine cond_dec (fun hlt => ?_) (fun hge => ?_)
              · have hn' : n < p.funcs[k].blocks[j].e.ways.length := by have := hw.len; simp only at hlt; omega
                refine elem_edge hw ((l9.trans l11).trans l16) hn' rfl rfl fun z hz r10 h18 l18 l18' hr10 b10 => ?_
                refine ⟨z, b10.cell rfl, cond_dec (fun _ => Wk_le l18 hF) (fun g8 => Wk_self (hK3 _ _ hn' ⟨by rw [wnat hn' hw.bd], l16.trans l18', mem_take_succ hn' hws ?_⟩))⟩
                have g8 : ¬ (z.n : Int) > 20 := g8
                have := hz.len; omega
              · have : n = p.funcs[k].blocks[j].e.ways.length := by have := hw.len; simp only at hge; omega
                subst this
                rw [List.take_of_length_le (Nat.le_refl _)] at hws
                exact Wk_self (hK1 _ _ hj' ⟨by rw [wnat hj' hsb.bd], ((l7.trans l9').trans l11).trans l16, mem_take_succ hj' hbs ⟨g5, g6, g7, his, hws⟩⟩)
        · have : j = p.funcs[k].blocks.length := by have := hsb.len; simp only at hge; omega
          subst this
          rw [List.take_of_length_le (Nat.le_refl _)] at hbs
          exact Wk_self (hK _ _ hk' ⟨by rw [wnat hk' hf.bd], (l3.trans l5').trans l7, mem_take_succ hk' hall ⟨g3, g4, hbs⟩⟩)
    · have : k = p.funcs.length := by have := hf.len; simp only at hge; omega
      subst this
      rw [List.take_of_length_le (Nat.le_refl _)] at hall
      exact Wk_le (l1.trans l3) (hR true fun _ => ⟨g1, g2, hall⟩)
end Go.Proofs.Ytaefmhephoilmaa

/- Plain: labels that are raised, one by one, till nothing turns: the least ones that are let. -/
namespace Go.Proofs.Ytaefmhephoilmaa
open Go Go.VL

inductive Tgt where
  | val (f : Nat) (v : Int)
  | arr (i : Nat)
  | ret (f : Nat)
deriving DecidableEq
abbrev LabF := Tgt → Int
structure Con where
  tgt : Tgt
  src : LabF → Int
def putL (L : LabF) (t : Tgt) (x : Int) : LabF := fun u => if u = t then x else L u
theorem putL_self (L : LabF) (t : Tgt) (x : Int) : putL L t x t = x := by simp [putL]
theorem putL_ne {L : LabF} {t u : Tgt} {x : Int} (h : u ≠ t) : putL L t x u = L u := by simp [putL, h]
def stepC (s : LabF × Bool) (c : Con) : LabF × Bool := if s.1 c.tgt < c.src s.1 then (putL s.1 c.tgt (c.src s.1), true) else s
def runC (cs : List Con) (s : LabF × Bool) : LabF × Bool := cs.foldl stepC s
theorem runC_append (cs bs : List Con) (s : LabF × Bool) : runC (cs ++ bs) s = runC bs (runC cs s) := List.foldl_append
theorem runC_cons (c : Con) (bs : List Con) (s : LabF × Bool) : runC (c :: bs) s = runC bs (stepC s c) := rfl
theorem runC_nil (s : LabF × Bool) : runC [] s = s := rfl
theorem runC_one (c : Con) (s : LabF × Bool) : runC [c] s = stepC s c := rfl

def LeL (L M : LabF) : Prop := ∀ t, L t ≤ M t
theorem LeL.refl (L : LabF) : LeL L L := fun _ => Int.le_refl _
theorem LeL.trans {L M N : LabF} (h : LeL L M) (h' : LeL M N) : LeL L N := fun t => Int.le_trans (h t) (h' t)
theorem LeL.antisymm {L M : LabF} (h : LeL L M) (h' : LeL M L) : L = M := funext fun t => Int.le_antisymm (h t) (h' t)
def Con.mono (c : Con) : Prop := ∀ L M, LeL L M → c.src L ≤ c.src M
def Closed (cs : List Con) (M : LabF) : Prop := ∀ c ∈ cs, c.src M ≤ M c.tgt

theorem stepC_ge (s : LabF × Bool) (c : Con) : LeL s.1 (stepC s c).1 := by
  intro t
  unfold stepC
  split
  · rename_i h
    show s.1 t ≤ putL s.1 c.tgt (c.src s.1) t
    by_cases e : t = c.tgt
    · subst e; rw [putL_self]; omega
    · rw [putL_ne e]; exact Int.le_refl _
  · exact Int.le_refl _
theorem runC_ge : ∀ (cs : List Con) (s : LabF × Bool), LeL s.1 (runC cs s).1
  | [], s => LeL.refl _
  | c :: cs, s => (stepC_ge s c).trans (runC_ge cs (stepC s c))
theorem stepC_le {s : LabF × Bool} {c : Con} {M : LabF} (hm : c.mono) (hc : c.src M ≤ M c.tgt) (h : LeL s.1 M) : LeL (stepC s c).1 M := by
  intro t
  unfold stepC
  split
  · show putL s.1 c.tgt (c.src s.1) t ≤ M t
    by_cases e : t = c.tgt
    · subst e; rw [putL_self]; exact Int.le_trans (hm _ _ h) hc
    · rw [putL_ne e]; exact h t
  · exact h t
theorem runC_le {M : LabF} : ∀ (cs : List Con) (s : LabF × Bool), (∀ c ∈ cs, c.mono) → Closed cs M → LeL s.1 M → LeL (runC cs s).1 M
  | [], s, _, _, h => h
  | c :: cs, s, hm, hc, h => runC_le cs _ (fun c' h' => hm c' (List.mem_cons_of_mem _ h')) (fun c' h' => hc c' (List.mem_cons_of_mem _ h')) (stepC_le (hm c List.mem_cons_self) (hc c List.mem_cons_self) h)
theorem stepC_tu {s : LabF × Bool} {c : Con} (h : s.2 = true) : (stepC s c).2 = true := by
  unfold stepC; split
  · rfl
  · exact h
theorem runC_tu : ∀ (cs : List Con) (s : LabF × Bool), s.2 = true → (runC cs s).2 = true
  | [], _, h => h
  | c :: cs, s, h => runC_tu cs _ (stepC_tu h)
theorem runC_false : ∀ (cs : List Con) (s : LabF × Bool), (runC cs s).2 = false → s.2 = false ∧ runC cs s = s ∧ Closed cs s.1
  | [], s, h => ⟨h, rfl, fun c hc => by simp at hc⟩
  | c :: cs, s, h => by
    obtain ⟨h1, h2, h3⟩ := runC_false cs (stepC s c) h
    have hstep : stepC s c = s ∧ c.src s.1 ≤ s.1 c.tgt := by
      by_cases g : s.1 c.tgt < c.src s.1
      · unfold stepC at h1; rw [if_pos g] at h1; cases h1
      · exact ⟨by unfold stepC; rw [if_neg g], by omega⟩
    rw [hstep.1] at h1 h3
    rw [hstep.1] at h2
    refine ⟨h1, by rw [runC_cons, hstep.1]; exact h2, fun c' hc' => ?_⟩
    rcases List.mem_cons.1 hc' with e | e
    · subst e; exact hstep.2
    · exact h3 c' e

/- an end: each raise makes less of what is left -/
def Con.bd (c : Con) : Prop := ∀ L, (∀ t, L t ≤ 2) → c.src L ≤ 2
def muC (all : List Con) (L : LabF) : Nat := (all.map fun c => (2 - L c.tgt).toNat).sum
theorem muC_le {all : List Con} {L M : LabF} (h : LeL L M) : muC all M ≤ muC all L := sum_le fun c _ => by have := h c.tgt; omega
theorem stepC_bd {s : LabF × Bool} {c : Con} (hc : c.bd) (h : ∀ t, s.1 t ≤ 2) : ∀ t, (stepC s c).1 t ≤ 2 := by
  intro t
  unfold stepC; split
  · show putL s.1 c.tgt (c.src s.1) t ≤ 2
    by_cases e : t = c.tgt
    · subst e; rw [putL_self]; exact hc _ h
    · rw [putL_ne e]; exact h t
  · exact h t
theorem runC_bd : ∀ (cs : List Con) (s : LabF × Bool), (∀ c ∈ cs, c.bd) → (∀ t, s.1 t ≤ 2) → ∀ t, (runC cs s).1 t ≤ 2
  | [], _, _, h => h
  | c :: cs, s, hc, h => runC_bd cs _ (fun c' h' => hc c' (List.mem_cons_of_mem _ h')) (stepC_bd (hc c List.mem_cons_self) h)
theorem runC_mu {all : List Con} : ∀ (cs : List Con) (s : LabF × Bool), (∀ c ∈ cs, c ∈ all) → (∀ c ∈ cs, c.bd) → (∀ t, s.1 t ≤ 2) → s.2 = false → (runC cs s).2 = true → muC all (runC cs s).1 < muC all s.1
  | [], s, _, _, _, h, h' => by rw [runC_nil] at h'; rw [h] at h'; cases h'
  | c :: cs, s, ha, hb, hl, h, h' => by
    by_cases g : s.1 c.tgt < c.src s.1
    · have e : stepC s c = (putL s.1 c.tgt (c.src s.1), true) := by unfold stepC; rw [if_pos g]
      have h2 : c.src s.1 ≤ 2 := hb c List.mem_cons_self _ hl
      have hlt : muC all (stepC s c).1 < muC all s.1 := by
        refine sum_lt (fun d _ => by have := stepC_ge s c d.tgt; omega) ⟨c, ha c List.mem_cons_self, ?_⟩
        rw [e]; show (2 - putL s.1 c.tgt (c.src s.1) c.tgt).toNat < _
        rw [putL_self]; omega
      exact Nat.lt_of_le_of_lt (muC_le (runC_ge cs (stepC s c))) hlt
    · have e : stepC s c = s := by unfold stepC; rw [if_neg g]
      rw [runC_cons, e] at h' ⊢
      exact runC_mu cs s (fun c' h' => ha c' (List.mem_cons_of_mem _ h')) (fun c' h' => hb c' (List.mem_cons_of_mem _ h')) hl h h'

/- what instructions, ways and ends ask of labels -/
def staysD (l : Int) : Int := if l = 1 then 0 else l
theorem staysD_mono {a b : Int} (h : a ≤ b) : staysD a ≤ staysD b := by unfold staysD; split <;> split <;> omega
def valsOf (f : Nat) (args : List Int) (L : LabF) : Int := args.foldl (fun a v => imax a (L (.val f v))) 0
abbrev CutF := Nat → Int → Bool
def cutS (cut : CutF) (f : Nat) (v : Int) (x : Int) : Int := if cut f v = true then staysD x else x
def mayD (wr : List Bool) (i : InsD) : Int := if i.op = 5 then 1 else if i.op = 3 ∧ 0 ≤ i.arr ∧ wr[i.arr.toNat]? = some true then 1 else 0
def FuncD.at (p : ProgD) (f : Nat) : FuncD := p.funcs.getD f ⟨⟨#[]⟩, []⟩
def parCons (cut : CutF) (g : Nat) (ps : List Int) (src : Nat → LabF → Int) (k : Nat) : List Con := (List.range k).map fun j => ⟨.val g (ps.getD j 0), fun L => cutS cut g (ps.getD j 0) (src j L)⟩
def insCons (p : ProgD) (cut : CutF) (wr : List Bool) (f : Nat) (i : InsD) : List Con :=
  if i.op = 1 then [⟨.val f i.dst, fun _ => cutS cut f i.dst 0⟩]
  else if i.op = 2 then [⟨.val f i.dst, fun L => cutS cut f i.dst (valsOf f i.args L)⟩]
  else if i.op = 3 ∨ i.op = 5 then [⟨.val f i.dst, fun L => cutS cut f i.dst (imax (imax (L (.arr i.arr.toNat)) (valsOf f i.args L)) (mayD wr i))⟩]
  else if i.op = 4 then [⟨.arr i.arr.toNat, fun L => staysD (valsOf f i.args L)⟩]
  else if i.op = 6 then [⟨.arr i.arr.toNat, fun L => staysD (L (.val f (i.args.getD 1 0)))⟩]
  else if i.op = 7 then parCons cut i.fn.toNat (FuncD.at p i.fn.toNat).params (fun j L => staysD (L (.val f (i.args.getD j 0)))) (FuncD.at p i.fn.toNat).params.length ++ [⟨.val f i.dst, fun L => cutS cut f i.dst (L (.ret i.fn.toNat))⟩]
  else []
def wayCons (p : ProgD) (cut : CutF) (f : Nat) (w : EdgeD) : List Con := match (FuncD.at p f).blocks[w.to.toNat]? with
  | some b => parCons cut f b.params (fun j L => L (.val f (w.args.getD j 0))) b.params.length
  | none => []
def endCons (f : Nat) (e : EndD) : List Con := if e.kind = 3 then [⟨.ret f, fun L => staysD (L (.val f e.val))⟩] else []
def blockCons (p : ProgD) (cut : CutF) (wr : List Bool) (f : Nat) (b : BlockD) : List Con := b.ins.flatMap (insCons p cut wr f) ++ b.e.ways.flatMap (wayCons p cut f) ++ endCons f b.e
noncomputable def funcCons (p : ProgD) (cut : CutF) (wr : List Bool) (f : Nat) : List Con :=
  (List.range (FuncD.at p f).blocks.length).flatMap fun n => if rchB (FuncD.at p f).blocks n = true then (match (FuncD.at p f).blocks[n]? with | some b => blockCons p cut wr f b | none => []) else []
noncomputable def progCons (p : ProgD) (cut : CutF) (wr : List Bool) : List Con := (List.range p.funcs.length).flatMap (funcCons p cut wr)
end Go.Proofs.Ytaefmhephoilmaa

/- What functions of the program ask of a view of memory: printed by shal.py. -/
namespace Go.Proofs.Ytaefmhephoilmaa
open Go Go.VL
set_option maxRecDepth 100000
/- palings/taint.stays -/
def an38 : An := (.two .nil (.two (.two .nil (.two (.two .nil .nil) .nil)) (.two .nil .nil)))
def S38 (p0 : Int) (h : V) (R : Value → V → Prop) : Prop :=
  cond (p0 == ((1 : Int)))
  (Wk h fun h1 => R (.int .i64 ((0 : Int))) h1)
  (Wk h fun h2 => R (.int .i64 p0) h2)
theorem S38_eq (p0 : Int) (h : V) (R : Value → V → Prop) : ABody Try.prog an38 Try.f38 [(.int .i64 p0)] h R = S38 p0 h R := by kernel_rfl
theorem S38_ok (p0 : Int) (h : V) (R : Value → V → Prop) (hk : S38 p0 h R) : ACalls Try.prog 38 [(.int .i64 p0)] h R :=
  ABody_sound mixed Try.func38 Try.call38 (by kernel_rfl) (by kernel_rfl) (an := an38) (by rw [S38_eq]; exact hk)

/- (*palings/taint.solver).raise -/
def an37 : An := (.two .nil (.two (.two .nil .nil) .nil))
def S37 (p0 : Option Addr) (p1 : Option Addr) (p2 : Int) (h : V) (R : Value → V → Prop) : Prop :=
  OA p1 fun a7 =>
  Ld h a7 (.int .i64) fun (x8 : Int) =>
  cond (decide (x8 < p2))
  (OA p1 fun a13 =>
  StL h a13 0 [(.int .i64 p2)] fun h1 =>
  OA p0 fun a15 =>
  StL h1 (Addr.add a15 8) 0 [(.bool true)] fun h2 =>
  Wk h2 fun h3 => R (.tuple ⟨[]⟩) h3)
  (Wk h fun h4 => R (.tuple ⟨[]⟩) h4)
theorem S37_eq (p0 : Option Addr) (p1 : Option Addr) (p2 : Int) (h : V) (R : Value → V → Prop) : ABody Try.prog an37 Try.f37 [(.pointer p0), (.pointer p1), (.int .i64 p2)] h R = S37 p0 p1 p2 h R := by kernel_rfl
theorem S37_ok (p0 : Option Addr) (p1 : Option Addr) (p2 : Int) (h : V) (R : Value → V → Prop) (hk : S37 p0 p1 p2 h R) : ACalls Try.prog 37 [(.pointer p0), (.pointer p1), (.int .i64 p2)] h R :=
  ABody_sound mixed Try.func37 Try.call37 (by kernel_rfl) (by kernel_rfl) (an := an37) (by rw [S37_eq]; exact hk)

/- (*palings/taint.solver).val -/
def an36 : An := (.cut [(3, (.one (.int .i64)))] (.two .nil (.two .nil .nil)) (.two .nil (.two .nil (.perm [0, 1, 2, 3, 4, 5, 6, 7, 8, 9, 10] []))))
def S36 (p0 : Option Addr) (p1 : Int) (p2 : Int) (p3 : Int) (h : V) (R : Value → V → Prop) : Prop :=
  Cut (σ := (Int × Unit)) (fun s h1 =>
  OA p0 fun a22 =>
  Ld h1 (Addr.add (Addr.add a22 3) 0) .sl fun (x25 : Sl) =>
  Ix x25 p1 1 fun a27 =>
  Ld h1 a27 .mp fun (x28 : Option Nat) =>
  Look h1 x28 (.int .i64) (.int .i64 p2) (.one (.int .i64)) ((0 : Int)) fun (x30 : Int) _ =>
  New h1 (.cells #[(.int .i64 ((0 : Int)))] 42) fun r8 h2 =>
  StL h2 (⟨r8, 0, none⟩) 0 [(.int .i64 x30)] fun h3 =>
  CallK Try.prog 37 [(.pointer p0), (.pointer (some (⟨r8, 0, none⟩))), (.int .i64 s.1)] h3 (.tup []) fun (_ : (Unit)) h4 =>
  OA p0 fun a35 =>
  Ld h4 (Addr.add (Addr.add a35 3) 0) .sl fun (x38 : Sl) =>
  Ix x38 p1 1 fun a40 =>
  Ld h4 a40 .mp fun (x41 : Option Nat) =>
  Ld h4 (⟨r8, 0, none⟩) (.int .i64) fun (x43 : Int) =>
  MUpd h4 x41 (.int .i64) (.int .i64 p2) (.int .i64 x43) fun h5 =>
  Wk h5 fun h6 => R (.tuple ⟨[]⟩) h6) fun J =>
  OA p0 fun a10 =>
  Ld h (Addr.add (Addr.add a10 3) 3) .sl fun (x13 : Sl) =>
  Ix x13 p1 1 fun a15 =>
  Ld h a15 .mp fun (x16 : Option Nat) =>
  Look h x16 (.int .i64) (.int .i64 p2) (.one .bool) false fun (x18 : Bool) _ =>
  cond x18
  (CallK Try.prog 38 [(.int .i64 p3)] h (.un (.one (.int .i64))) fun (x20 : Int) h7 =>
  Wk h7 fun h8 => J (x20, ()) h8)
  (Wk h fun h9 => J (p3, ()) h9)
theorem S36_eq (p0 : Option Addr) (p1 : Int) (p2 : Int) (p3 : Int) (h : V) (R : Value → V → Prop) : ABody Try.prog an36 Try.f36 [(.pointer p0), (.int .i64 p1), (.int .i64 p2), (.int .i64 p3)] h R = S36 p0 p1 p2 p3 h R := by kernel_rfl
theorem S36_ok (p0 : Option Addr) (p1 : Int) (p2 : Int) (p3 : Int) (h : V) (R : Value → V → Prop) (hk : S36 p0 p1 p2 p3 h R) : ACalls Try.prog 36 [(.pointer p0), (.int .i64 p1), (.int .i64 p2), (.int .i64 p3)] h R :=
  ABody_sound mixed Try.func36 Try.call36 (by kernel_rfl) (by kernel_rfl) (an := an36) (by rw [S36_eq]; exact hk)

/- (*palings/taint.solver).of -/
def an51 : An := (.two .nil (.two .nil (.two (.two .nil (.one (.loop [(7, (.one (.int .i64))), (12, (.one (.int .i64)))] (.two .nil (.two (.two .nil .nil) (.two (.one (.two .nil .nil)) .nil)))))) (.two .nil .nil))))
def S51 (p0 : Option Addr) (p1 : Int) (p2 : Sl) (h : V) (R : Value → V → Prop) : Prop :=
  Lp (σ := (Int × Int × Unit)) (fun K s h1 =>
  cond (decide (s.2.1 < (((p2.n : Nat) : Int))))
  (Ix p2 s.2.1 1 fun a14 =>
  Ld h1 a14 (.int .i64) fun (x15 : Int) =>
  OA p0 fun a18 =>
  Ld h1 (Addr.add (Addr.add a18 3) 0) .sl fun (x21 : Sl) =>
  Ix x21 p1 1 fun a23 =>
  Ld h1 a23 .mp fun (x24 : Option Nat) =>
  Look h1 x24 (.int .i64) (.int .i64 x15) (.one (.int .i64)) ((0 : Int)) fun (x26 : Int) _ =>
  Wk h1 fun h2 => K (if x26 > s.1 then x26 else s.1, IntKind.wrap .i64 (s.2.1 + ((1 : Int))), ()) h2)
  (Wk h1 fun h3 => R (.int .i64 s.1) h3))
  ((0 : Int), (0 : Int), ()) h
theorem S51_eq (p0 : Option Addr) (p1 : Int) (p2 : Sl) (h : V) (R : Value → V → Prop) : ABody Try.prog an51 Try.f51 [(.pointer p0), (.int .i64 p1), (.slice p2.a p2.n p2.c)] h R = S51 p0 p1 p2 h R := by kernel_rfl
theorem S51_ok (p0 : Option Addr) (p1 : Int) (p2 : Sl) (h : V) (R : Value → V → Prop) (hk : S51 p0 p1 p2 h R) : ACalls Try.prog 51 [(.pointer p0), (.int .i64 p1), (.slice p2.a p2.n p2.c)] h R :=
  ABody_sound mixed Try.func51 Try.call51 (by kernel_rfl) (by kernel_rfl) (an := an51) (by rw [S51_eq]; exact hk)

/- palings/taint.May -/
def an52 : An := (.two .nil (.two (.two .nil (.two (.two .nil .nil) .nil)) (.two .nil .nil)))
def S52 (p0 : Sl) (p1_0 : Int) (p1_1 : Int) (p1_2 : Sl) (p1_3 : Int) (p1_4 : Int) (p1_5 : Int) (p1_6 : Int) (h : V) (R : Value → V → Prop) : Prop :=
  New h (.cells #[(.int .i64 p1_0), (.int .i64 p1_1), (.slice p1_2.a p1_2.n p1_2.c), (.int .i64 p1_3), (.int .i64 p1_4), (.int .i64 p1_5), (.int .i64 p1_6)] 60) fun r3 h1 =>
  Ld h1 (Addr.add (⟨r3, 0, none⟩) 0) (.int .i64) fun (x6 : Int) =>
  cond (x6 == ((5 : Int)))
  (Wk h1 fun h2 => R (.int .i64 ((1 : Int))) h2)
  (Ld h1 (Addr.add (⟨r3, 0, none⟩) 0) (.int .i64) fun (x10 : Int) =>
  cond (x10 == ((3 : Int)))
  (Ld h1 (Addr.add (⟨r3, 0, none⟩) 5) (.int .i64) fun (x14 : Int) =>
  cond (decide (x14 ≥ ((0 : Int))))
  (Ld h1 (Addr.add (⟨r3, 0, none⟩) 5) (.int .i64) fun (x19 : Int) =>
  cond (decide (x19 < (((p0.n : Nat) : Int))))
  (Ld h1 (Addr.add (⟨r3, 0, none⟩) 5) (.int .i64) fun (x27 : Int) =>
  Ix p0 x27 1 fun a28 =>
  Ld h1 a28 .bool fun (x29 : Bool) =>
  cond x29
  (Wk h1 fun h3 => R (.int .i64 ((1 : Int))) h3)
  (Wk h1 fun h4 => R (.int .i64 ((0 : Int))) h4))
  (Wk h1 fun h5 => R (.int .i64 ((0 : Int))) h5))
  (Wk h1 fun h6 => R (.int .i64 ((0 : Int))) h6))
  (Wk h1 fun h7 => R (.int .i64 ((0 : Int))) h7))
theorem S52_eq (p0 : Sl) (p1_0 : Int) (p1_1 : Int) (p1_2 : Sl) (p1_3 : Int) (p1_4 : Int) (p1_5 : Int) (p1_6 : Int) (h : V) (R : Value → V → Prop) : ABody Try.prog an52 Try.f52 [(.slice p0.a p0.n p0.c), (.agg ⟨[(.int .i64 p1_0), (.int .i64 p1_1), (.slice p1_2.a p1_2.n p1_2.c), (.int .i64 p1_3), (.int .i64 p1_4), (.int .i64 p1_5), (.int .i64 p1_6)]⟩)] h R = S52 p0 p1_0 p1_1 p1_2 p1_3 p1_4 p1_5 p1_6 h R := by kernel_rfl
theorem S52_ok (p0 : Sl) (p1_0 : Int) (p1_1 : Int) (p1_2 : Sl) (p1_3 : Int) (p1_4 : Int) (p1_5 : Int) (p1_6 : Int) (h : V) (R : Value → V → Prop) (hk : S52 p0 p1_0 p1_1 p1_2 p1_3 p1_4 p1_5 p1_6 h R) : ACalls Try.prog 52 [(.slice p0.a p0.n p0.c), (.agg ⟨[(.int .i64 p1_0), (.int .i64 p1_1), (.slice p1_2.a p1_2.n p1_2.c), (.int .i64 p1_3), (.int .i64 p1_4), (.int .i64 p1_5), (.int .i64 p1_6)]⟩)] h R :=
  ABody_sound mixed Try.func52 Try.call52 (by kernel_rfl) (by kernel_rfl) (an := an52) (by rw [S52_eq]; exact hk)

/- (*palings/taint.solver).ins -/
def an35 : An := (.two .nil (.two .nil (.two .nil (.one (.two .nil (.two .nil (.two .nil (.two .nil (.cut [(31, (.one .bool))] (.two .nil (.two .nil .nil)) (.two (.perm [0, 1, 2, 3, 4, 5, 6, 7, 8, 9, 10, 11, 12, 13, 14, 15, 16, 17, 18, 19, 20, 21] [19]) (.two .nil (.two (.perm [0, 1, 2, 3, 4, 5, 6, 7, 8, 9, 10, 11] [10]) (.two .nil (.two (.perm [0, 1, 2, 3, 4, 5, 6, 7, 8, 9, 10, 11, 12, 13, 14, 15, 16, 17, 18, 19, 20, 21, 22, 23] [22]) (.two .nil (.two (.two (.two (.perm [0, 1, 2, 3, 4, 5, 6, 7, 8, 11, 9, 10] []) (.one (.loop [(109, (.one (.int .i64)))] (.two .nil (.two (.two .nil .nil) (.two (.one (.two .nil (.perm [0, 1, 2, 3, 4, 5, 6, 7, 8, 9, 10, 11, 12, 13, 14, 15, 16, 17, 18, 19] [18]))) .nil)))))) (.perm [0, 1, 2, 3, 4, 5, 6, 7, 8, 9, 10, 11, 12, 13] [])) .nil))))))))))))))))
def S35 (p0 : Option Addr) (p1 : Int) (p2_0 : Int) (p2_1 : Int) (p2_2 : Sl) (p2_3 : Int) (p2_4 : Int) (p2_5 : Int) (p2_6 : Int) (h : V) (R : Value → V → Prop) : Prop :=
  New h (.cells #[(.int .i64 p2_0), (.int .i64 p2_1), (.slice p2_2.a p2_2.n p2_2.c), (.int .i64 p2_3), (.int .i64 p2_4), (.int .i64 p2_5), (.int .i64 p2_6)] 60) fun r5 h1 =>
  Ld h1 (Addr.add (⟨r5, 0, none⟩) 2) .sl fun (x12 : Sl) =>
  CallK Try.prog 51 [(.pointer p0), (.int .i64 p1), (.slice x12.a x12.n x12.c)] h1 (.un (.one (.int .i64))) fun (x13 : Int) h2 =>
  Ld h2 (Addr.add (⟨r5, 0, none⟩) 0) (.int .i64) fun (x15 : Int) =>
  cond (x15 == ((1 : Int)))
  (Ld h2 (Addr.add (⟨r5, 0, none⟩) 1) (.int .i64) fun (x21 : Int) =>
  CallK Try.prog 36 [(.pointer p0), (.int .i64 p1), (.int .i64 x21), (.int .i64 ((0 : Int)))] h2 (.tup []) fun (_ : (Unit)) h3 =>
  Wk h3 fun h4 => R (.tuple ⟨[]⟩) h4)
  (cond (x15 == ((2 : Int)))
  (Ld h2 (Addr.add (⟨r5, 0, none⟩) 1) (.int .i64) fun (x28 : Int) =>
  CallK Try.prog 36 [(.pointer p0), (.int .i64 p1), (.int .i64 x28), (.int .i64 x13)] h2 (.tup []) fun (_ : (Unit)) h5 =>
  Wk h5 fun h6 => R (.tuple ⟨[]⟩) h6)
  (Cut (σ := (Bool × Unit)) (fun s h7 =>
  cond s.1
  (Ld h7 (Addr.add (⟨r5, 0, none⟩) 1) (.int .i64) fun (x37 : Int) =>
  OA p0 fun a39 =>
  Ld h7 (Addr.add (Addr.add a39 3) 1) .sl fun (x42 : Sl) =>
  Ld h7 (Addr.add (⟨r5, 0, none⟩) 5) (.int .i64) fun (x44 : Int) =>
  Ix x42 x44 1 fun a45 =>
  Ld h7 a45 (.int .i64) fun (x46 : Int) =>
  OA p0 fun a49 =>
  Ld h7 (Addr.add a49 7) .sl fun (x51 : Sl) =>
  LdA h7 (⟨r5, 0, none⟩) [(.int .i64), (.int .i64), .sl, (.int .i64), (.int .i64), (.int .i64), (.int .i64)] fun (x52 : ((Int) × (Int) × (Sl) × (Int) × (Int) × (Int) × (Int) × Unit)) =>
  CallK Try.prog 52 [(.slice x51.a x51.n x51.c), (.agg ⟨[(.int .i64 x52.1), (.int .i64 x52.2.1), (.slice x52.2.2.1.a x52.2.2.1.n x52.2.2.1.c), (.int .i64 x52.2.2.2.1), (.int .i64 x52.2.2.2.2.1), (.int .i64 x52.2.2.2.2.2.1), (.int .i64 x52.2.2.2.2.2.2.1)]⟩)] h7 (.un (.one (.int .i64))) fun (x53 : Int) h8 =>
  Le h7 h8 ∧
  CallK Try.prog 36 [(.pointer p0), (.int .i64 p1), (.int .i64 x37), (.int .i64 (if x53 > (if x13 > x46 then x13 else x46) then x53 else (if x13 > x46 then x13 else x46)))] h8 (.tup []) fun (_ : (Unit)) h9 =>
  Wk h9 fun h10 => R (.tuple ⟨[]⟩) h10)
  (cond (x15 == ((4 : Int)))
  (OA p0 fun a60 =>
  Ld h7 (Addr.add (Addr.add a60 3) 1) .sl fun (x63 : Sl) =>
  Ld h7 (Addr.add (⟨r5, 0, none⟩) 5) (.int .i64) fun (x65 : Int) =>
  Ix x63 x65 1 fun a66 =>
  CallK Try.prog 38 [(.int .i64 x13)] h7 (.un (.one (.int .i64))) fun (x68 : Int) h11 =>
  Le h7 h11 ∧
  CallK Try.prog 37 [(.pointer p0), (.pointer (some a66)), (.int .i64 x68)] h11 (.tup []) fun (_ : (Unit)) h12 =>
  Wk h12 fun h13 => R (.tuple ⟨[]⟩) h13)
  (cond (x15 == ((6 : Int)))
  (OA p0 fun a74 =>
  Ld h7 (Addr.add (Addr.add a74 3) 1) .sl fun (x77 : Sl) =>
  Ld h7 (Addr.add (⟨r5, 0, none⟩) 5) (.int .i64) fun (x79 : Int) =>
  Ix x77 x79 1 fun a80 =>
  OA p0 fun a82 =>
  Ld h7 (Addr.add (Addr.add a82 3) 0) .sl fun (x85 : Sl) =>
  Ix x85 p1 1 fun a87 =>
  Ld h7 a87 .mp fun (x88 : Option Nat) =>
  Ld h7 (Addr.add (⟨r5, 0, none⟩) 2) .sl fun (x90 : Sl) =>
  Ix x90 ((1 : Int)) 1 fun a91 =>
  Ld h7 a91 (.int .i64) fun (x92 : Int) =>
  Look h7 x88 (.int .i64) (.int .i64 x92) (.one (.int .i64)) ((0 : Int)) fun (x93 : Int) _ =>
  CallK Try.prog 38 [(.int .i64 x93)] h7 (.un (.one (.int .i64))) fun (x94 : Int) h14 =>
  Le h7 h14 ∧
  CallK Try.prog 37 [(.pointer p0), (.pointer (some a80)), (.int .i64 x94)] h14 (.tup []) fun (_ : (Unit)) h15 =>
  Wk h15 fun h16 => R (.tuple ⟨[]⟩) h16)
  (cond (x15 == ((7 : Int)))
  (OA p0 fun a99 =>
  Ld h7 (Addr.add (Addr.add a99 0) 1) .sl fun (x102 : Sl) =>
  Ld h7 (Addr.add (⟨r5, 0, none⟩) 6) (.int .i64) fun (x104 : Int) =>
  Ix x102 x104 2 fun a105 =>
  LdA h7 a105 [.str, .sl] fun (x106 : ((ByteArray) × (Sl) × Unit)) =>
  CallK Try.prog 21 [(.agg ⟨[(.string x106.1), (.slice x106.2.1.a x106.2.1.n x106.2.1.c)]⟩)] h7 (.un (.one .sl)) fun (x107 : Sl) h17 =>
  Lp (σ := (Int × Unit)) (fun K s_1 h18 =>
  cond (decide (s_1.1 < (((x107.n : Nat) : Int))))
  (Ix x107 s_1.1 1 fun a112 =>
  Ld h18 a112 (.int .i64) fun (x113 : Int) =>
  Ld h18 (Addr.add (⟨r5, 0, none⟩) 6) (.int .i64) fun (x116 : Int) =>
  OA p0 fun a119 =>
  Ld h18 (Addr.add (Addr.add a119 3) 0) .sl fun (x122 : Sl) =>
  Ix x122 p1 1 fun a124 =>
  Ld h18 a124 .mp fun (x125 : Option Nat) =>
  Ld h18 (Addr.add (⟨r5, 0, none⟩) 2) .sl fun (x127 : Sl) =>
  Ix x127 s_1.1 1 fun a129 =>
  Ld h18 a129 (.int .i64) fun (x130 : Int) =>
  Look h18 x125 (.int .i64) (.int .i64 x130) (.one (.int .i64)) ((0 : Int)) fun (x131 : Int) _ =>
  CallK Try.prog 38 [(.int .i64 x131)] h18 (.un (.one (.int .i64))) fun (x132 : Int) h19 =>
  Le h18 h19 ∧
  CallK Try.prog 36 [(.pointer p0), (.int .i64 x116), (.int .i64 x113), (.int .i64 x132)] h19 (.tup []) fun (_ : (Unit)) h20 =>
  Wk h20 fun h21 => K (IntKind.wrap .i64 (s_1.1 + ((1 : Int))), ()) h21)
  (Ld h18 (Addr.add (⟨r5, 0, none⟩) 1) (.int .i64) fun (x138 : Int) =>
  OA p0 fun a140 =>
  Ld h18 (Addr.add (Addr.add a140 3) 2) .sl fun (x143 : Sl) =>
  Ld h18 (Addr.add (⟨r5, 0, none⟩) 6) (.int .i64) fun (x145 : Int) =>
  Ix x143 x145 1 fun a146 =>
  Ld h18 a146 (.int .i64) fun (x147 : Int) =>
  CallK Try.prog 36 [(.pointer p0), (.int .i64 p1), (.int .i64 x138), (.int .i64 x147)] h18 (.tup []) fun (_ : (Unit)) h22 =>
  Wk h22 fun h23 => R (.tuple ⟨[]⟩) h23))
  ((0 : Int), ()) h17)
  (Wk h7 fun h24 => R (.tuple ⟨[]⟩) h24))))) fun J =>
  cond (x15 == ((3 : Int)))
  (Wk h2 fun h25 => J (x15 == ((3 : Int)), ()) h25)
  (Wk h2 fun h26 => J (x15 == ((5 : Int)), ()) h26)))
theorem S35_eq (p0 : Option Addr) (p1 : Int) (p2_0 : Int) (p2_1 : Int) (p2_2 : Sl) (p2_3 : Int) (p2_4 : Int) (p2_5 : Int) (p2_6 : Int) (h : V) (R : Value → V → Prop) : ABody Try.prog an35 Try.f35 [(.pointer p0), (.int .i64 p1), (.agg ⟨[(.int .i64 p2_0), (.int .i64 p2_1), (.slice p2_2.a p2_2.n p2_2.c), (.int .i64 p2_3), (.int .i64 p2_4), (.int .i64 p2_5), (.int .i64 p2_6)]⟩)] h R = S35 p0 p1 p2_0 p2_1 p2_2 p2_3 p2_4 p2_5 p2_6 h R := by kernel_rfl
theorem S35_ok (p0 : Option Addr) (p1 : Int) (p2_0 : Int) (p2_1 : Int) (p2_2 : Sl) (p2_3 : Int) (p2_4 : Int) (p2_5 : Int) (p2_6 : Int) (h : V) (R : Value → V → Prop) (hk : S35 p0 p1 p2_0 p2_1 p2_2 p2_3 p2_4 p2_5 p2_6 h R) : ACalls Try.prog 35 [(.pointer p0), (.int .i64 p1), (.agg ⟨[(.int .i64 p2_0), (.int .i64 p2_1), (.slice p2_2.a p2_2.n p2_2.c), (.int .i64 p2_3), (.int .i64 p2_4), (.int .i64 p2_5), (.int .i64 p2_6)]⟩)] h R :=
  ABody_sound mixed Try.func35 Try.call35 (by kernel_rfl) (by kernel_rfl) (an := an35) (by rw [S35_eq]; exact hk)

/- (*palings/taint.solver).block -/
def an20 : An := (.two .nil (.two (.two .nil (.one (.loop [(15, (.one (.int .i64)))] (.two .nil (.two (.two .nil .nil) (.two (.one (.two .nil .nil)) .nil)))))) (.two (.two .nil (.one (.loop [(28, (.one (.int .i64)))] (.two .nil (.two (.two .nil .nil) (.two (.one (.two .nil (.two (.perm [0, 1, 2, 3, 4, 5, 6, 7, 8, 9, 10, 11, 12, 13, 14, 15] []) (.one (.loop [(47, (.one (.int .i64)))] (.two .nil (.two (.two .nil .nil) (.two (.one (.two .nil (.perm [0, 1, 2, 3, 4, 5, 6, 7, 8, 9, 10, 11, 12, 13, 14, 15, 16, 17] []))) .nil)))))))) .nil)))))) (.two .nil (.two (.perm [0, 1, 2, 3, 4, 5, 6, 7, 8, 9, 10, 11, 12, 13, 14, 15, 16, 17, 18, 19, 20, 21] [20]) .nil)))))
def S20 (p0 : Option Addr) (p1 : Int) (p2_0 : Sl) (p2_1 : Sl) (p2_2 : Int) (p2_3 : Int) (p2_4 : Sl) (p2_5 : Int) (h : V) (R : Value → V → Prop) : Prop :=
  New h (.cells #[(.slice p2_0.a p2_0.n p2_0.c), (.slice p2_1.a p2_1.n p2_1.c), (.int .i64 p2_2), (.int .i64 p2_3), (.slice p2_4.a p2_4.n p2_4.c), (.int .i64 p2_5)] 55) fun r5 h1 =>
  Ld h1 (Addr.add (⟨r5, 0, none⟩) 1) .sl fun (x13 : Sl) =>
  Lp (σ := (Int × Unit)) (fun K s h2 =>
  cond (decide (s.1 < (((x13.n : Nat) : Int))))
  (Ix x13 s.1 7 fun a17 =>
  LdA h2 a17 [(.int .i64), (.int .i64), .sl, (.int .i64), (.int .i64), (.int .i64), (.int .i64)] fun (x18 : ((Int) × (Int) × (Sl) × (Int) × (Int) × (Int) × (Int) × Unit)) =>
  New h2 (.cells #[(.int .i64 ((0 : Int))), (.int .i64 ((0 : Int))), (.slice none 0 0), (.int .i64 ((0 : Int))), (.int .i64 ((0 : Int))), (.int .i64 ((0 : Int))), (.int .i64 ((0 : Int)))] 60) fun r7 h3 =>
  StL h3 (⟨r7, 0, none⟩) 0 [(.int .i64 x18.1), (.int .i64 x18.2.1), (.slice x18.2.2.1.a x18.2.2.1.n x18.2.2.1.c), (.int .i64 x18.2.2.2.1), (.int .i64 x18.2.2.2.2.1), (.int .i64 x18.2.2.2.2.2.1), (.int .i64 x18.2.2.2.2.2.2.1)] fun h4 =>
  LdA h4 (⟨r7, 0, none⟩) [(.int .i64), (.int .i64), .sl, (.int .i64), (.int .i64), (.int .i64), (.int .i64)] fun (x21 : ((Int) × (Int) × (Sl) × (Int) × (Int) × (Int) × (Int) × Unit)) =>
  CallK Try.prog 35 [(.pointer p0), (.int .i64 p1), (.agg ⟨[(.int .i64 x21.1), (.int .i64 x21.2.1), (.slice x21.2.2.1.a x21.2.2.1.n x21.2.2.1.c), (.int .i64 x21.2.2.2.1), (.int .i64 x21.2.2.2.2.1), (.int .i64 x21.2.2.2.2.2.1), (.int .i64 x21.2.2.2.2.2.2.1)]⟩)] h4 (.tup []) fun (_ : (Unit)) h5 =>
  Wk h5 fun h6 => K (IntKind.wrap .i64 (s.1 + ((1 : Int))), ()) h6)
  (Ld h2 (Addr.add (Addr.add (⟨r5, 0, none⟩) 2) 2) .sl fun (x26 : Sl) =>
  Lp (σ := (Int × Unit)) (fun K_1 s_1 h7 =>
  cond (decide (s_1.1 < (((x26.n : Nat) : Int))))
  (Ix x26 s_1.1 2 fun a30 =>
  LdA h7 a30 [(.int .i64), .sl] fun (x31 : ((Int) × (Sl) × Unit)) =>
  New h7 (.cells #[(.int .i64 ((0 : Int))), (.slice none 0 0)] 74) fun r9 h8 =>
  StL h8 (⟨r9, 0, none⟩) 0 [(.int .i64 x31.1), (.slice x31.2.1.a x31.2.1.n x31.2.1.c)] fun h9 =>
  OA p0 fun a33 =>
  Ld h9 (Addr.add (Addr.add a33 0) 1) .sl fun (x36 : Sl) =>
  Ix x36 p1 2 fun a38 =>
  Ld h9 (Addr.add a38 1) .sl fun (x40 : Sl) =>
  Ld h9 (Addr.add (⟨r9, 0, none⟩) 0) (.int .i64) fun (x42 : Int) =>
  Ix x40 x42 6 fun a43 =>
  Ld h9 (Addr.add a43 0) .sl fun (x45 : Sl) =>
  Lp (σ := (Int × Unit)) (fun K_2 s_2 h10 =>
  cond (decide (s_2.1 < (((x45.n : Nat) : Int))))
  (Ix x45 s_2.1 1 fun a50 =>
  Ld h10 a50 (.int .i64) fun (x51 : Int) =>
  OA p0 fun a56 =>
  Ld h10 (Addr.add (Addr.add a56 3) 0) .sl fun (x59 : Sl) =>
  Ix x59 p1 1 fun a61 =>
  Ld h10 a61 .mp fun (x62 : Option Nat) =>
  Ld h10 (Addr.add (⟨r9, 0, none⟩) 1) .sl fun (x64 : Sl) =>
  Ix x64 s_2.1 1 fun a66 =>
  Ld h10 a66 (.int .i64) fun (x67 : Int) =>
  Look h10 x62 (.int .i64) (.int .i64 x67) (.one (.int .i64)) ((0 : Int)) fun (x68 : Int) _ =>
  CallK Try.prog 36 [(.pointer p0), (.int .i64 p1), (.int .i64 x51), (.int .i64 x68)] h10 (.tup []) fun (_ : (Unit)) h11 =>
  Wk h11 fun h12 => K_2 (IntKind.wrap .i64 (s_2.1 + ((1 : Int))), ()) h12)
  (Wk h10 fun h13 => K_1 (IntKind.wrap .i64 (s_1.1 + ((1 : Int))), ()) h13))
  ((0 : Int), ()) h9)
  (Ld h7 (Addr.add (Addr.add (⟨r5, 0, none⟩) 2) 0) (.int .i64) fun (x74 : Int) =>
  cond (x74 == ((3 : Int)))
  (OA p0 fun a78 =>
  Ld h7 (Addr.add (Addr.add a78 3) 2) .sl fun (x81 : Sl) =>
  Ix x81 p1 1 fun a83 =>
  OA p0 fun a85 =>
  Ld h7 (Addr.add (Addr.add a85 3) 0) .sl fun (x88 : Sl) =>
  Ix x88 p1 1 fun a90 =>
  Ld h7 a90 .mp fun (x91 : Option Nat) =>
  Ld h7 (Addr.add (Addr.add (⟨r5, 0, none⟩) 2) 1) (.int .i64) fun (x94 : Int) =>
  Look h7 x91 (.int .i64) (.int .i64 x94) (.one (.int .i64)) ((0 : Int)) fun (x95 : Int) _ =>
  CallK Try.prog 38 [(.int .i64 x95)] h7 (.un (.one (.int .i64))) fun (x96 : Int) h14 =>
  Le h7 h14 ∧
  CallK Try.prog 37 [(.pointer p0), (.pointer (some a83)), (.int .i64 x96)] h14 (.tup []) fun (_ : (Unit)) h15 =>
  Wk h15 fun h16 => R (.tuple ⟨[]⟩) h16)
  (Wk h7 fun h17 => R (.tuple ⟨[]⟩) h17)))
  ((0 : Int), ()) h2))
  ((0 : Int), ()) h1
theorem S20_eq (p0 : Option Addr) (p1 : Int) (p2_0 : Sl) (p2_1 : Sl) (p2_2 : Int) (p2_3 : Int) (p2_4 : Sl) (p2_5 : Int) (h : V) (R : Value → V → Prop) : ABody Try.prog an20 Try.f20 [(.pointer p0), (.int .i64 p1), (.agg ⟨[(.slice p2_0.a p2_0.n p2_0.c), (.slice p2_1.a p2_1.n p2_1.c), (.int .i64 p2_2), (.int .i64 p2_3), (.slice p2_4.a p2_4.n p2_4.c), (.int .i64 p2_5)]⟩)] h R = S20 p0 p1 p2_0 p2_1 p2_2 p2_3 p2_4 p2_5 h R := by kernel_rfl
theorem S20_ok (p0 : Option Addr) (p1 : Int) (p2_0 : Sl) (p2_1 : Sl) (p2_2 : Int) (p2_3 : Int) (p2_4 : Sl) (p2_5 : Int) (h : V) (R : Value → V → Prop) (hk : S20 p0 p1 p2_0 p2_1 p2_2 p2_3 p2_4 p2_5 h R) : ACalls Try.prog 20 [(.pointer p0), (.int .i64 p1), (.agg ⟨[(.slice p2_0.a p2_0.n p2_0.c), (.slice p2_1.a p2_1.n p2_1.c), (.int .i64 p2_2), (.int .i64 p2_3), (.slice p2_4.a p2_4.n p2_4.c), (.int .i64 p2_5)]⟩)] h R :=
  ABody_sound mixed Try.func20 Try.call20 (by kernel_rfl) (by kernel_rfl) (an := an20) (by rw [S20_eq]; exact hk)

/- palings/taint.Of -/
def an9 : An := (.two .nil (.two (.two .nil (.two (.two .nil .nil) .nil)) (.two (.perm [0, 1, 2, 3, 4, 5] [2]) (.two (.two .nil (.one (.loop [(30, (.one (.int .i64)))] (.two .nil (.two (.two .nil .nil) (.two (.one (.two .nil (.two .nil (.two .nil (.cut [] (.two .nil (.two (.two .nil (.one (.loop [] (.two .nil (.two (.two .nil .nil) (.one (.two .nil .nil))))))) .nil)) .nil))))) .nil)))))) (.two .nil (.two (.two .nil (.one (.loop [(87, (.one (.int .i64)))] (.two .nil (.two (.two .nil .nil) (.two (.one (.two .nil (.two .nil (.cut [(13, (.one (.int .i64)))] (.two .nil (.two .nil .nil)) .nil)))) .nil)))))) (.two (.two .nil (.one (.loop [] (.two (.two .nil (.two .nil .nil)) (.one (.two .nil (.two .nil (.one (.loop [(120, (.one (.int .i64)))] (.two .nil (.two (.two .nil .nil) (.two (.one (.two .nil (.two .nil (.one (.loop [(128, (.one (.int .i64)))] (.two .nil (.two (.two .nil .nil) (.two (.one (.two .nil (.two .nil (.two .nil .nil)))) .nil)))))))) .nil)))))))))))) (.two .nil .nil))))))))
def S9 (p0_0 : Sl) (p0_1 : Sl) (p0_2 : Int) (p1 : Sl) (h : V) (R : Value → V → Prop) : Prop :=
  New h (.cells #[(.slice p0_0.a p0_0.n p0_0.c), (.slice p0_1.a p0_1.n p0_1.c), (.int .i64 p0_2)] 25) fun r2 h1 =>
  New h1 (.cells #[(.slice none 0 0), (.slice none 0 0), (.slice none 0 0), (.slice none 0 0)] 33) fun r4 h2 =>
  LdA h2 (⟨r2, 0, none⟩) [.sl, .sl, (.int .i64)] fun (x18 : ((Sl) × (Sl) × (Int) × Unit)) =>
  CallK Try.prog 10 [(.agg ⟨[(.slice x18.1.a x18.1.n x18.1.c), (.slice x18.2.1.a x18.2.1.n x18.2.1.c), (.int .i64 x18.2.2.1)]⟩)] h2 (.un (.one (.int .i64))) fun (x19 : Int) h3 =>
  cond (x19 != ((0 : Int)))
  (StL h3 (⟨r4, 0, none⟩) 0 [(.slice none 0 0), (.slice none 0 0), (.slice none 0 0), (.slice none 0 0)] fun h4 =>
  LdA h4 (⟨r4, 0, none⟩) [.sl, .sl, .sl, .sl] fun (y : ((Sl) × (Sl) × (Sl) × (Sl) × Unit)) =>
  Wk h4 fun h5 => R (.tuple ⟨[(.agg ⟨[(.slice y.1.a y.1.n y.1.c), (.slice y.2.1.a y.2.1.n y.2.1.c), (.slice y.2.2.1.a y.2.2.1.n y.2.2.1.c), (.slice y.2.2.2.1.a y.2.2.2.1.n y.2.2.2.1.c)]⟩), (.int .i64 ((40 : Int)))]⟩) h5)
  (LdA h3 (⟨r2, 0, none⟩) [.sl, .sl, (.int .i64)] fun (x22 : ((Sl) × (Sl) × (Int) × Unit)) =>
  LdA h3 (⟨r2, 0, none⟩) [.sl, .sl, (.int .i64)] fun (x23 : ((Sl) × (Sl) × (Int) × Unit)) =>
  CallK Try.prog 18 [(.agg ⟨[(.slice x23.1.a x23.1.n x23.1.c), (.slice x23.2.1.a x23.2.1.n x23.2.1.c), (.int .i64 x23.2.2.1)]⟩)] h3 (.un (.one .sl)) fun (x24 : Sl) h6 =>
  Le h3 h6 ∧
  New h6 (.cells #[(.slice x22.1.a x22.1.n x22.1.c), (.slice x22.2.1.a x22.2.1.n x22.2.1.c), (.int .i64 x22.2.2.1), (.slice none 0 0), (.slice none 0 0), (.slice none 0 0), (.slice none 0 0), (.slice x24.a x24.n x24.c), (.bool false)] 78) fun r26 h7 =>
  Ld h7 (Addr.add (⟨r2, 0, none⟩) 1) .sl fun (x28 : Sl) =>
  Lp (σ := (Int × Unit)) (fun K s h8 =>
  cond (decide (s.1 < (((x28.n : Nat) : Int))))
  (Ld h8 (Addr.add (Addr.add (⟨r26, 0, none⟩) 3) 0) .sl fun (x38 : Sl) =>
  New h8 (.map #[] 0) fun r39 h9 =>
  New h9 (.cells #[(.map ((some r39)))] 56) fun r40 h10 =>
  App h10 x38 ⟨(some ⟨r40, 0, none⟩), 1, 1⟩ 56 1 8 [(.map none)] fun s41 h11 =>
  StL h11 (Addr.add (Addr.add (⟨r26, 0, none⟩) 3) 0) 0 [(.slice s41.a s41.n s41.c)] fun h12 =>
  New h12 (.map #[] 0) fun r45 h13 =>
  Cut (σ := (Unit)) (fun _ h14 =>
  Ld h14 (Addr.add (Addr.add (⟨r26, 0, none⟩) 3) 3) .sl fun (x68 : Sl) =>
  New h14 (.cells #[(.map ((some r45)))] 29) fun r70 h15 =>
  App h15 x68 ⟨(some ⟨r70, 0, none⟩), 1, 1⟩ 29 1 8 [(.map none)] fun s71 h16 =>
  StL h16 (Addr.add (Addr.add (⟨r26, 0, none⟩) 3) 3) 0 [(.slice s71.a s71.n s71.c)] fun h17 =>
  Wk h17 fun h18 => K (IntKind.wrap .i64 (s.1 + ((1 : Int))), ()) h18) fun J =>
  cond (decide (s.1 < (((p1.n : Nat) : Int))))
  (Ix p1 s.1 1 fun a52 =>
  Ld h13 a52 .mp fun (x53 : Option Nat) =>
  Rng h13 x53 fun r54 h19 =>
  Lp (σ := (Unit)) (fun K_1 _ h20 =>
  Nxt h20 r54 (fun _ _ h21 =>
  Ent h21 r54 fun k57 v57 =>
  unK (.int .i64) k57 fun (x58 : Int) =>
  unK .bool v57 fun (x59 : Bool) =>
  MUpd h21 ((some r45)) (.int .i64) (.int .i64 x58) (.bool x59) fun h22 =>
  Wk h22 fun h23 => K_1 (()) h23)
  (Wk h20 fun h24 => J (()) h24))
  (()) h19)
  (Wk h13 fun h25 => J (()) h25))
  (Ld h8 (Addr.add (⟨r2, 0, none⟩) 1) .sl fun (x78 : Sl) =>
  MkSl h8 (((x78.n : Nat) : Int)) (((x78.n : Nat) : Int)) [(.int .i64 ((0 : Int)))] 42 8 fun s80 h26 =>
  StL h26 (Addr.add (Addr.add (⟨r26, 0, none⟩) 3) 2) 0 [(.slice s80.a s80.n s80.c)] fun h27 =>
  Ld h27 (Addr.add (⟨r2, 0, none⟩) 0) .sl fun (x85 : Sl) =>
  Lp (σ := (Int × Unit)) (fun K_2 s_3 h28 =>
  cond (decide (s_3.1 < (((x85.n : Nat) : Int))))
  (Ix x85 s_3.1 3 fun a89 =>
  LdA h28 a89 [.str, (.int .i64), (.int .i64)] fun (x90 : ((ByteArray) × (Int) × (Int) × Unit)) =>
  New h28 (.cells #[(.string (⟨#[]⟩)), (.int .i64 ((0 : Int))), (.int .i64 ((0 : Int)))] 66) fun r12 h29 =>
  StL h29 (⟨r12, 0, none⟩) 0 [(.string x90.1), (.int .i64 x90.2.1), (.int .i64 x90.2.2.1)] fun h30 =>
  Cut (σ := (Int × Unit)) (fun s_4 h31 =>
  Ld h31 (Addr.add (Addr.add (⟨r26, 0, none⟩) 3) 1) .sl fun (x99 : Sl) =>
  New h31 (.cells #[(.int .i64 s_4.1)] 42) fun r101 h32 =>
  App h32 x99 ⟨(some ⟨r101, 0, none⟩), 1, 1⟩ 42 1 8 [(.int .i64 ((0 : Int)))] fun s102 h33 =>
  StL h33 (Addr.add (Addr.add (⟨r26, 0, none⟩) 3) 1) 0 [(.slice s102.a s102.n s102.c)] fun h34 =>
  Wk h34 fun h35 => K_2 (IntKind.wrap .i64 (s_3.1 + ((1 : Int))), ()) h35) fun J_1 =>
  Ld h30 (Addr.add (⟨r12, 0, none⟩) 1) (.int .i64) fun (x92 : Int) =>
  cond (x92 == ((2 : Int)))
  (Wk h30 fun h36 => J_1 ((2 : Int), ()) h36)
  (Wk h30 fun h37 => J_1 ((0 : Int), ()) h37))
  (StL h28 (Addr.add (⟨r26, 0, none⟩) 8) 0 [(.bool true)] fun h38 =>
  Lp (σ := (Unit)) (fun K_3 _ h39 =>
  Ld h39 (Addr.add (⟨r26, 0, none⟩) 8) .bool fun (x113 : Bool) =>
  cond x113
  (StL h39 (Addr.add (⟨r26, 0, none⟩) 8) 0 [(.bool false)] fun h40 =>
  Ld h40 (Addr.add (⟨r2, 0, none⟩) 1) .sl fun (x118 : Sl) =>
  Lp (σ := (Int × Unit)) (fun K_4 s_6 h41 =>
  cond (decide (s_6.1 < (((x118.n : Nat) : Int))))
  (Ix x118 s_6.1 2 fun a123 =>
  LdA h41 a123 [.str, .sl] fun (x124 : ((ByteArray) × (Sl) × Unit)) =>
  New h41 (.cells #[(.string (⟨#[]⟩)), (.slice none 0 0)] 46) fun r15 h42 =>
  StL h42 (⟨r15, 0, none⟩) 0 [(.string x124.1), (.slice x124.2.1.a x124.2.1.n x124.2.1.c)] fun h43 =>
  LdA h43 (⟨r15, 0, none⟩) [.str, .sl] fun (x125 : ((ByteArray) × (Sl) × Unit)) =>
  CallK Try.prog 19 [(.agg ⟨[(.string x125.1), (.slice x125.2.1.a x125.2.1.n x125.2.1.c)]⟩)] h43 (.un (.one .sl)) fun (x126 : Sl) h44 =>
  Lp (σ := (Int × Unit)) (fun K_5 s_7 h45 =>
  cond (decide (s_7.1 < (((x126.n : Nat) : Int))))
  (Ix x126 s_7.1 1 fun a131 =>
  Ld h45 a131 .bool fun (x132 : Bool) =>
  cond x132
  (Ld h45 (Addr.add (⟨r15, 0, none⟩) 1) .sl fun (x137 : Sl) =>
  Ix x137 s_7.1 6 fun a139 =>
  LdA h45 a139 [.sl, .sl, (.int .i64), (.int .i64), .sl, (.int .i64)] fun (x140 : ((Sl) × (Sl) × (Int) × (Int) × (Sl) × (Int) × Unit)) =>
  CallK Try.prog 20 [(.pointer (some (⟨r26, 0, none⟩))), (.int .i64 s_6.1), (.agg ⟨[(.slice x140.1.a x140.1.n x140.1.c), (.slice x140.2.1.a x140.2.1.n x140.2.1.c), (.int .i64 x140.2.2.1), (.int .i64 x140.2.2.2.1), (.slice x140.2.2.2.2.1.a x140.2.2.2.2.1.n x140.2.2.2.2.1.c), (.int .i64 x140.2.2.2.2.2.1)]⟩)] h45 (.tup []) fun (_ : (Unit)) h46 =>
  Wk h46 fun h47 => K_5 (IntKind.wrap .i64 (s_7.1 + ((1 : Int))), ()) h47)
  (Wk h45 fun h48 => K_5 (IntKind.wrap .i64 (s_7.1 + ((1 : Int))), ()) h48))
  (Wk h45 fun h49 => K_4 (IntKind.wrap .i64 (s_6.1 + ((1 : Int))), ()) h49))
  ((0 : Int), ()) h44)
  (Wk h41 fun h50 => K_3 (()) h50))
  ((0 : Int), ()) h40)
  (LdA h39 (Addr.add (⟨r26, 0, none⟩) 3) [.sl, .sl, .sl, .sl] fun (x147 : ((Sl) × (Sl) × (Sl) × (Sl) × Unit)) =>
  StL h39 (⟨r4, 0, none⟩) 0 [(.slice x147.1.a x147.1.n x147.1.c), (.slice x147.2.1.a x147.2.1.n x147.2.1.c), (.slice x147.2.2.1.a x147.2.2.1.n x147.2.2.1.c), (.slice x147.2.2.2.1.a x147.2.2.2.1.n x147.2.2.2.1.c)] fun h51 =>
  LdA h51 (⟨r4, 0, none⟩) [.sl, .sl, .sl, .sl] fun (y_1 : ((Sl) × (Sl) × (Sl) × (Sl) × Unit)) =>
  Wk h51 fun h52 => R (.tuple ⟨[(.agg ⟨[(.slice y_1.1.a y_1.1.n y_1.1.c), (.slice y_1.2.1.a y_1.2.1.n y_1.2.1.c), (.slice y_1.2.2.1.a y_1.2.2.1.n y_1.2.2.1.c), (.slice y_1.2.2.2.1.a y_1.2.2.2.1.n y_1.2.2.2.1.c)]⟩), (.int .i64 ((0 : Int)))]⟩) h52))
  (()) h38))
  ((0 : Int), ()) h27))
  ((0 : Int), ()) h7)
theorem S9_eq (p0_0 : Sl) (p0_1 : Sl) (p0_2 : Int) (p1 : Sl) (h : V) (R : Value → V → Prop) : ABody Try.prog an9 Try.f9 [(.agg ⟨[(.slice p0_0.a p0_0.n p0_0.c), (.slice p0_1.a p0_1.n p0_1.c), (.int .i64 p0_2)]⟩), (.slice p1.a p1.n p1.c)] h R = S9 p0_0 p0_1 p0_2 p1 h R := by kernel_rfl
theorem S9_ok (p0_0 : Sl) (p0_1 : Sl) (p0_2 : Int) (p1 : Sl) (h : V) (R : Value → V → Prop) (hk : S9 p0_0 p0_1 p0_2 p1 h R) : ACalls Try.prog 9 [(.agg ⟨[(.slice p0_0.a p0_0.n p0_0.c), (.slice p0_1.a p0_1.n p0_1.c), (.int .i64 p0_2)]⟩), (.slice p1.a p1.n p1.c)] h R :=
  ABody_sound mixed Try.func9 Try.call9 (by kernel_rfl) (by kernel_rfl) (an := an9) (by rw [S9_eq]; exact hk)

end Go.Proofs.Ytaefmhephoilmaa

/- Contracts of package taint: the solver's memory, and raising. -/
namespace Go.Proofs.Ytaefmhephoilmaa
open Go Go.VL

def repMap (h : V) (a : Addr) (q : Nat) : Prop := cellq h a = some (Value.map (some q))
theorem mono_map : Mono repMap := fun _ _ _ _ l h => cellq_le l h
structure SolC (hB : V) (p : ProgD) (cut : CutF) (wr : List Bool) (sa sf vs cs ws : Sl) (ids : List Nat) : Prop where
  arrays : isArrs hB sa p.arrays
  funcs : isFuncs hB sf p.funcs
  vals : isSl repMap 1 hB vs ids
  len : ids.length = p.funcs.length
  nd : ids.Nodup
  cuts : ∃ cl, isSl repMap 1 hB cs cl ∧ cl.length = p.funcs.length ∧ ∀ (f : Nat) q, cl[f]? = some q → ∃ o m, hB q = some o ∧ MapRep .bool o m ∧ ∀ v, (mget m v).getD false = cut f v
  writes : isSl repBool 1 hB ws wr
theorem SolC.le {hB hC : V} {p : ProgD} {cut : CutF} {wr : List Bool} {sa sf vs cs ws : Sl} {ids : List Nat} (c : SolC hB p cut wr sa sf vs cs ws ids) (l : Le hB hC) : SolC hC p cut wr sa sf vs cs ws ids :=
  ⟨c.arrays.le mono_arr l, c.funcs.le mono_func l, c.vals.le mono_map l, c.len, c.nd, by
    obtain ⟨cl, h1, h2, h3⟩ := c.cuts
    exact ⟨cl, h1.le mono_map l, h2, fun f q hq => let ⟨o, m, g1, g2⟩ := h3 f q hq; ⟨o, m, l _ _ g1, g2⟩⟩, c.writes.le mono_bool l⟩

structure SolW (hB hh : V) (p : ProgD) (r : Nat) (sa sf vs ar rs cs ws : Sl) (ids : List Nat) (L : LabF) (tu : Bool) : Prop where
  le : Le hB hh
  box : Box hh r [sV sa, sV sf, iV p.main, sV vs, sV ar, sV rs, sV cs, sV ws, .bool tu] 78
  newr : hB r = none
  maps : ∀ (f : Nat) q, ids[f]? = some q → hB q = none ∧ ∃ o m, hh q = some o ∧ MapRep (.int .i64) o m ∧ ∀ v, (mget m v).getD (0 : Int) = L (.val f v)
  arrs : ∃ l : List Int, OwnS hB hh ar 42 1 (l.map (Value.int .i64)) ∧ l.length = p.arrays.length ∧ ∀ (i : Nat) x, l[i]? = some x → x = L (.arr i)
  rets : ∃ l : List Int, OwnS hB hh rs 42 1 (l.map (Value.int .i64)) ∧ l.length = p.funcs.length ∧ ∀ (i : Nat) x, l[i]? = some x → x = L (.ret i)
  dis : ∀ a b, ar.a = some a → rs.a = some b → a.block ≠ b.block

theorem MapRep.noCells {kd : Kd} {cs : Array Value} {t : TypeId} {g : Nat × Nat} {m : List (Int × kd.T)} (h : MapRep kd (.cells cs t g) m) : False := by
  obtain ⟨es, clk, e, _⟩ := h.ex
  cases e
section
variable {hB hh h' : V} {p : ProgD} {r : Nat} {sa sf vs ar rs cs ws : Sl} {ids : List Nat} {L : LabF} {tu : Bool} {cut : CutF} {wr : List Bool}
theorem SolW.ner (k : SolW hB hh p r sa sf vs ar rs cs ws ids L tu) {f q : Nat} (hq : ids[f]? = some q) : q ≠ r := by
  obtain ⟨_, o, m, h1, h2, _⟩ := k.maps f q hq
  intro e; subst e
  have := k.box
  unfold Box at this
  rw [h1] at this
  cases this
  exact MapRep.noCells h2
theorem SolW.nes (k : SolW hB hh p r sa sf vs ar rs cs ws ids L tu) {f q : Nat} (hq : ids[f]? = some q) {s : Sl} {T : TypeId} {xs : List Value} (o : OwnS hB hh s T 1 xs) {a : Addr} (ha : s.a = some a) : a.block ≠ q := by
  obtain ⟨_, ob, m, h1, h2, _⟩ := k.maps f q hq
  obtain ⟨_, arr, h3⟩ := o.blk ha
  intro e
  rw [e, h1] at h3
  cases h3
  exact MapRep.noCells h2
theorem SolW.nea (k : SolW hB hh p r sa sf vs ar rs cs ws ids L tu) {s : Sl} {xs : List Value} (o : OwnS hB hh s 42 1 xs) {a : Addr} (ha : s.a = some a) : a.block ≠ r := by
  obtain ⟨_, arr, h3⟩ := o.blk ha
  intro e
  have := k.box
  unfold Box at this
  rw [← e, h3] at this
  cases this
/- a map that takes an entry -/
theorem SolW.putv (k : SolW hB hh p r sa sf vs ar rs cs ws ids L tu) (nd : ids.Nodup) {f q : Nat} (hq : ids[f]? = some q) {o' : Obj} {m : List (Int × Int)} {v x : Int} (hm : ∀ u, (mget m u).getD (0 : Int) = L (.val f u)) (ho : MapRep (.int .i64) o' (mset m v x)) :
    SolW hB (hh.upd q o') p r sa sf vs ar rs cs ws ids (putL L (.val f v) x) tu := by
  have hn := (k.maps f q hq).1
  have ne : ∀ b, b ≠ q → (hh.upd q o') b = hh b := fun b hb => upd_ne hb _
  refine ⟨fun b ob hb => ?_, (ne r (fun e => k.ner hq e.symm)).trans k.box, k.newr, fun f2 q2 hq2 => ⟨(k.maps f2 q2 hq2).1, ?_⟩, ?_, ?_, k.dis⟩
  · rw [ne b (fun e => by subst e; rw [hn] at hb; cases hb)]; exact k.le b ob hb
  · by_cases e : q2 = q
    · subst e
      have ef : f2 = f := (List.getElem?_inj (List.getElem?_eq_some_iff.1 hq2).1 nd).1 (hq2.trans hq.symm)
      subst ef
      refine ⟨o', _, upd_self _ _ _, ho, fun u => ?_⟩
      rw [mget_mset]
      by_cases g : v = u
      · subst g; rw [if_pos rfl, putL_self]; rfl
      · rw [if_neg g, putL_ne (fun e => by cases e; exact g rfl)]; exact hm u
    · obtain ⟨_, o2, m2, h1, h2, h3⟩ := k.maps f2 q2 hq2
      refine ⟨o2, m2, (ne q2 e).trans h1, h2, fun u => ?_⟩
      rw [putL_ne (fun g => ?_)]
      · exact h3 u
      · cases g
        rw [hq] at hq2; cases hq2; exact e rfl
  · obtain ⟨l, h1, h2, h3⟩ := k.arrs
    exact ⟨l, h1.frame fun a ob ha hob => (ne _ (k.nes hq h1 ha)).trans hob, h2, fun i y hy => by rw [putL_ne (fun e => by cases e)]; exact h3 i y hy⟩
  · obtain ⟨l, h1, h2, h3⟩ := k.rets
    exact ⟨l, h1.frame fun a ob ha hob => (ne _ (k.nes hq h1 ha)).trans hob, h2, fun i y hy => by rw [putL_ne (fun e => by cases e)]; exact h3 i y hy⟩
/- something turned -/
theorem SolW.turn (k : SolW hB hh p r sa sf vs ar rs cs ws ids L tu) {b : Bool} {K : V → Prop} (hK : ∀ h', SolW hB h' p r sa sf vs ar rs cs ws ids L b → (∀ q, q ≠ r → h' q = hh q) → K h') : StL hh (Addr.add ⟨r, 0, none⟩ 8) 0 [.bool b] K := by
  rw [add_at, Nat.zero_add]
  refine StL_at [.bool b] _ 0 hh (by simp) k.box (fun _ _ => rfl) fun h' ⟨arr', h1, h2, h3⟩ hf => hK h' ?_ hf
  have hbox : Box h' r [sV sa, sV sf, iV p.main, sV vs, sV ar, sV rs, sV cs, sV ws, .bool b] 78 := by
    unfold Box
    rw [h1]
    congr 1
    simp at h3
    congr 1
    exact Array.ext' h3
  have hle : Le hB h' := fun q ob hq => by
    rw [hf q (fun e => by subst e; rw [k.newr] at hq; cases hq)]; exact k.le q ob hq
  refine ⟨hle, hbox, k.newr, fun f q hq => ⟨(k.maps f q hq).1, ?_⟩, ?_, ?_, k.dis⟩
  · obtain ⟨_, o, m, g1, g2⟩ := k.maps f q hq
    exact ⟨o, m, (hf q (k.ner hq)).trans g1, g2⟩
  · obtain ⟨l, g1, g2⟩ := k.arrs
    exact ⟨l, g1.frame fun a ob ha hob => (hf _ (k.nea g1 ha)).trans hob, g2⟩
  · obtain ⟨l, g1, g2⟩ := k.rets
    exact ⟨l, g1.frame fun a ob ha hob => (hf _ (k.nea g1 ha)).trans hob, g2⟩
/- a larger view, a box more -/
theorem SolW.view (k : SolW hB hh p r sa sf vs ar rs cs ws ids L tu) (l : Le hh h') : SolW hB h' p r sa sf vs ar rs cs ws ids L tu :=
  ⟨k.le.trans l, k.box.le l, k.newr, fun f q hq => ⟨(k.maps f q hq).1, let ⟨_, o, m, g1, g2⟩ := k.maps f q hq; ⟨o, m, l _ _ g1, g2⟩⟩,
    let ⟨x, g1, g2⟩ := k.arrs; ⟨x, g1.le l, g2⟩, let ⟨x, g1, g2⟩ := k.rets; ⟨x, g1.le l, g2⟩, k.dis⟩
theorem SolW.shrink {hC : V} (k : SolW hC hh p r sa sf vs ar rs cs ws ids L tu) (l : Le hB hC) : SolW hB hh p r sa sf vs ar rs cs ws ids L tu :=
  ⟨l.trans k.le, k.box, l.nil k.newr, fun f q hq => ⟨l.nil (k.maps f q hq).1, (k.maps f q hq).2⟩, let ⟨x, g1, g2⟩ := k.arrs; ⟨x, g1.base l, g2⟩, let ⟨x, g1, g2⟩ := k.rets; ⟨x, g1.base l, g2⟩, k.dis⟩
theorem OwnS.rebase {hC : V} {s : Sl} {T : TypeId} {xs : List Value} (o : OwnS hB hh s T 1 xs) (h : ∀ a, s.a = some a → hC a.block = none) : OwnS hC hh s T 1 xs := by
  obtain ⟨h1, h2, h3, h4⟩ := o
  refine ⟨h1, h2, h3, ?_⟩
  rcases h4 with h4 | ⟨r, off, arr, ha, hr0, hr, hsz, ht⟩
  · exact .inl h4
  · exact .inr ⟨r, off, arr, ha, h _ ha, hr, hsz, ht⟩
theorem SolW.grow (k : SolW hB hh p r sa sf vs ar rs cs ws ids L tu) {q : Nat} {o : Obj} (hq : hh q = none) (l : Le hh h') (hq' : h' q = some o) : SolW (hB.upd q o) h' p r sa sf vs ar rs cs ws ids L tu ∧ Le hB (hB.upd q o) := by
  have hBq : hB q = none := k.le.nil hq
  have ne : ∀ b, hh b ≠ none → hB b = none → (hB.upd q o) b = none := fun b hb hn => by
    rw [upd_ne (fun e => by subst e; exact hb hq)]; exact hn
  refine ⟨⟨fun b ob hb => ?_, k.box.le l, ne r (by have := k.box; unfold Box at this; rw [this]; simp) k.newr, fun f z hz => ?_, ?_, ?_, k.dis⟩, le_upd hBq _⟩
  · by_cases e : b = q
    · subst e; rw [upd_self] at hb; cases hb; exact hq'
    · rw [upd_ne e] at hb; exact l _ _ (k.le _ _ hb)
  · obtain ⟨h1, ob, m, h2, h3⟩ := k.maps f z hz
    exact ⟨ne z (by rw [h2]; simp) h1, ob, m, l _ _ h2, h3⟩
  · obtain ⟨x, h1, h2⟩ := k.arrs
    exact ⟨x, OwnS.rebase (h1.le l) fun a ha => by obtain ⟨g1, arr, g2⟩ := h1.blk ha; exact ne _ (by rw [g2]; simp) g1, h2⟩
  · obtain ⟨x, h1, h2⟩ := k.rets
    exact ⟨x, OwnS.rebase (h1.le l) fun a ha => by obtain ⟨g1, arr, g2⟩ := h1.blk ha; exact ne _ (by rw [g2]; simp) g1, h2⟩
/- what is known of the parts -/
theorem SolW.look (k : SolW hB hh p r sa sf vs ar rs cs ws ids L tu) (c : SolC hB p cut wr sa sf vs cs ws ids) {f : Nat} (hf : f < p.funcs.length) {v : Int} {K : Int → Bool → Prop} (hK : ∀ b, K (L (.val f v)) b) :
    ∃ q, ids[f]? = some q ∧ Look hh (some q) (.int .i64) (.int .i64 v) (.one (.int .i64)) (0 : Int) K := by
  have hlt : f < ids.length := by rw [c.len]; exact hf
  have hq : ids[f]? = some ids[f] := List.getElem?_eq_getElem hlt
  obtain ⟨_, o, m, h1, h2, h3⟩ := k.maps f _ hq
  exact ⟨_, hq, Look_map h1 h2 (by rw [h3 v]; exact hK _)⟩
end

theorem c_stays {h : V} {l : Int} {R : Value → V → Prop} (hR : R (iV (staysD l)) h) : ACalls Try.prog 38 [iV l] h R :=
  S38_ok _ _ _ (cond_eqi (fun e => Wk_self (by unfold staysD at hR; rw [if_pos e] at hR; exact hR)) (fun e => Wk_self (by unfold staysD at hR; rw [if_neg e] at hR; exact hR)))
end Go.Proofs.Ytaefmhephoilmaa

/- Contracts of package taint: val, of, May, ins, block. -/
namespace Go.Proofs.Ytaefmhephoilmaa
open Go Go.VL

section
variable {hB hh : V} {p : ProgD} {r : Nat} {sa sf vs ar rs cs ws : Sl} {ids : List Nat} {L : LabF} {tu : Bool} {cut : CutF} {wr : List Bool} {R : Value → V → Prop}
theorem c_raise_box {h1 : V} {r8 : Nat} {x to : Int} (k : SolW hB h1 p r sa sf vs ar rs cs ws ids L tu) (hr8 : h1 r8 = none) (l : Le h1 hh) (b : Box hh r8 [iV x] 42)
    (hR : ∀ h', SolW hB h' p r sa sf vs ar rs cs ws ids L (if x < to then true else tu) → Box h' r8 [iV (if x < to then to else x)] 42 → R (.tuple ⟨[]⟩) h') :
    ACalls Try.prog 37 [.pointer (some ⟨r, 0, none⟩), .pointer (some ⟨r8, 0, none⟩), iV to] hh R := by
  refine S37_ok _ _ _ _ _ ⟨x, b.cell0, cond_dec (fun hlt => ?_) (fun hge => ?_)⟩
  · refine StL_box (h := h1) b rfl l hr8 fun h2 l2 b2 f2 => ?_
    have hlt : x < to := hlt
    refine (k.view l2).turn fun h3 k3 f3 => ?_
    rw [if_pos hlt, if_pos hlt] at hR
    refine Wk_self (hR h3 k3 ((f3 r8 fun e => ?_).trans b2))
    have := k.box
    unfold Box at this
    rw [← e, hr8] at this; cases this
  · have hge : ¬ x < to := hge
    rw [if_neg hge, if_neg hge] at hR
    exact Wk_self (hR hh (k.view l) b)

theorem c_val {f : Nat} {v to : Int} (k : SolW hB hh p r sa sf vs ar rs cs ws ids L tu) (c : SolC hB p cut wr sa sf vs cs ws ids) (hf : f < p.funcs.length)
    (hR : ∀ h', SolW hB h' p r sa sf vs ar rs cs ws ids (stepC (L, tu) ⟨.val f v, fun _ => cutS cut f v to⟩).1 (stepC (L, tu) ⟨.val f v, fun _ => cutS cut f v to⟩).2 → R (.tuple ⟨[]⟩) h') :
    ACalls Try.prog 36 [.pointer (some ⟨r, 0, none⟩), iV (f : Int), iV v, iV to] hh R := by
  obtain ⟨cl, hcl, lcl, hcut⟩ := c.cuts
  have hf' : f < cl.length := by omega
  obtain ⟨oc, mc, hoc, hmc, hgc⟩ := hcut f cl[f] (List.getElem?_eq_getElem hf')
  refine S36_ok _ _ _ _ _ _ (Cut_i (fun s h1 => s.1 = cutS cut f v to ∧ hh = h1) (fun J hJ => ?_) ?_)
  · refine ⟨cs, by rw [Addr.add_add]; exact k.box.cell rfl, (hcl.le mono_map k.le).ixn hf' fun a ha => ⟨some cl[f], ha, Look_map (k.le _ _ hoc) hmc ?_⟩⟩
    rw [hgc v]
    refine cond_b (fun hy => ?_) (fun hn => Wk_self (hJ _ _ ⟨by unfold cutS; rw [if_neg (by rw [hn]; simp)], rfl⟩))
    exact c_stays ⟨_, rfl, Wk_self (hJ _ _ ⟨by unfold cutS; rw [if_pos hy], rfl⟩)⟩
  · rintro ⟨to', u⟩ _ ⟨e, rfl⟩
    have e : to' = cutS cut f v to := e
    subst e
    have hlt : f < ids.length := by rw [c.len]; exact hf
    have hq : ids[f]? = some ids[f] := List.getElem?_eq_getElem hlt
    obtain ⟨_, o, m, h1, h2, h3⟩ := k.maps f _ hq
    refine ⟨vs, by rw [Addr.add_add]; exact k.box.cell rfl, (c.vals.le mono_map k.le).ixn hlt fun a ha => ⟨some ids[f], ha, Look_map h1 h2 ?_⟩⟩
    rw [h3 v]
    refine New_box fun r8 h5 hr8 l5 b5 => StL_box (h := hh) b5 rfl l5 hr8 fun h6 l6 b6 f6 => ?_
    refine c_raise_box k hr8 l6 b6 fun h7 k7 b7 => ⟨(), rfl, ?_⟩
    obtain ⟨_, o7, m7, g1, g2, g3⟩ := k7.maps f _ hq
    refine ⟨vs, by rw [Addr.add_add]; exact k7.box.cell rfl, (c.vals.le mono_map k7.le).ixn hlt fun a ha => ⟨some ids[f], ha, _, b7.cell0, ?_⟩⟩
    refine MUpd_map (kd := .int .i64) (v := if L (.val f v) < cutS cut f v to then cutS cut f v to else L (.val f v)) g1 g2 fun o' ho' => ?_
    have k8 := k7.putv c.nd hq g3 ho'
    refine Wk_self (hR _ ?_)
    unfold stepC
    by_cases g : L (.val f v) < cutS cut f v to
    · simp only [g, if_true] at k8 ⊢
      exact k8
    · simp only [g, if_false] at k8 ⊢
      have e : putL L (.val f v) (L (.val f v)) = L := by
        funext t
        unfold putL
        split
        · rename_i e; rw [e]
        · rfl
      rw [e] at k8
      exact k8

theorem c_of {f : Nat} {args : List Int} {s : Sl} (k : SolW hB hh p r sa sf vs ar rs cs ws ids L tu) (c : SolC hB p cut wr sa sf vs cs ws ids) (hf : f < p.funcs.length) (ha : isInts hh s args)
    (hR : R (iV (valsOf f args L)) hh) : ACalls Try.prog 51 [.pointer (some ⟨r, 0, none⟩), iV (f : Int), sV s] hh R := by
  have hlt : f < ids.length := by rw [c.len]; exact hf
  have hq : ids[f]? = some ids[f] := List.getElem?_eq_getElem hlt
  obtain ⟨_, o, m, h1, h2, h3⟩ := k.maps f _ hq
  refine S51_ok _ _ _ _ _ (Lp_count args.length (fun j st h' => st = ((args.take j).foldl (fun a v => imax a (L (.val f v))) 0, (j : Int), ()) ∧ hh = h') ⟨rfl, rfl⟩ ?_)
  rintro j _ _ K hj ⟨rfl, rfl⟩ hK
  refine cond_dec (fun hl => ?_) (fun hge => ?_)
  · have hj' : j < args.length := by have := ha.len; simp only at hl; omega
    refine ha.ixn hj' fun a hx => ⟨args[j], hx, vs, by rw [Addr.add_add]; exact k.box.cell rfl, (c.vals.le mono_map k.le).ixn hlt fun a ha' => ⟨some ids[f], ha', Look_map h1 h2 ?_⟩⟩
    rw [h3]
    exact Wk_self (hK _ _ hj' ⟨by rw [foldl_take _ _ _ hj', wnat hj' ha.bd]; rfl, rfl⟩)
  · have : j = args.length := by have := ha.len; simp only at hge; omega
    subst this
    rw [List.take_of_length_le (Nat.le_refl _)] at *
    exact Wk_self hR

theorem c_May {wsl : Sl} {i : InsD} {q : Sl} (hw : isSl repBool 1 hh wsl wr) (hR : R (iV (mayD wr i)) hh) : ACalls Try.prog 52 [sV wsl, .agg ⟨insV i q⟩] hh R := by
  refine S52_ok _ _ _ _ _ _ _ _ _ _ (New_box fun r3 h1 hr3 l1 b3 => ⟨_, b3.cell0, cond_eqi (fun e => Wk_le l1 ?_) (fun n5 => ⟨_, b3.cell0, cond_eqi (fun e3 => ⟨_, b3.cell rfl, cond_dec (fun g0 => ⟨_, b3.cell rfl, cond_dec (fun g1 => ⟨_, b3.cell rfl, ?_⟩) (fun g1 => Wk_le l1 ?_)⟩) (fun g0 => Wk_le l1 ?_)⟩) (fun n3 => Wk_le l1 ?_)⟩)⟩)
  · have e : i.op = 5 := e
    unfold mayD at hR; rw [if_pos e] at hR; exact hR
  · have n5 : i.op ≠ 5 := n5
    have e3 : i.op = 3 := e3
    have g0 : i.arr ≥ 0 := g0
    have hlt := ix_lt hw (show i.arr < (wsl.n : Int) from g1) g0
    refine (hw.le mono_bool l1).ix g0 hlt fun a ha => ⟨_, ha, cond_b (fun hy => Wk_le l1 ?_) (fun hn => Wk_le l1 ?_)⟩
    · unfold mayD at hR
      rw [if_neg n5, if_pos ⟨e3, g0, by rw [List.getElem?_eq_getElem hlt]; exact congrArg some hy⟩] at hR
      exact hR
    · unfold mayD at hR
      rw [if_neg n5, if_neg (fun x => by have := x.2.2; rw [List.getElem?_eq_getElem hlt] at this; have hn : wr[i.arr.toNat] = false := hn; rw [hn] at this; cases this)] at hR
      exact hR
  · have n5 : i.op ≠ 5 := n5
    have g0 : i.arr ≥ 0 := g0
    have := ix_ge hw (show ¬ i.arr < (wsl.n : Int) from g1) g0
    unfold mayD at hR
    rw [if_neg n5, if_neg (fun x => by have h := x.2.2; rw [this] at h; cases h)] at hR
    exact hR
  · have n5 : i.op ≠ 5 := n5
    have g0 : ¬ i.arr ≥ 0 := g0
    unfold mayD at hR
    rw [if_neg n5, if_neg (fun x => by have h := x.2.1; omega)] at hR
    exact hR
  · have n5 : i.op ≠ 5 := n5
    have n3 : i.op ≠ 3 := n3
    unfold mayD at hR
    rw [if_neg n5, if_neg (fun x => n3 x.1)] at hR
    exact hR
end
end Go.Proofs.Ytaefmhephoilmaa

/- Contracts of package taint: arrays and returns that are raised. -/
namespace Go.Proofs.Ytaefmhephoilmaa
open Go Go.VL

theorem OwnS.st {h0 h : V} {s : Sl} {T : TypeId} {cs : List Value} {K : V → Prop} (o : OwnS h0 h s T 1 cs) (l : Le h0 h) {i : Int} {v : Value} {a0 : Addr} (ha : s.a = some a0) (hi0 : 0 ≤ i) (hi : i.toNat < cs.length)
    (hk : ∀ h', Le h0 h' → OwnS h0 h' s T 1 (cs.set i.toNat v) → (∀ b, (∀ a, s.a = some a → b ≠ a.block) → h' b = h b) → K h') : StL h (a0.add (i.toNat * 1)) 0 [v] K := by
  obtain ⟨a1, h1, _, _, h2⟩ := OwnS.set o l hi0 hi hk
  rw [ha] at h1
  cases h1
  exact h2
section
variable {hB hh h' : V} {p : ProgD} {r : Nat} {sa sf vs ar rs cs ws : Sl} {ids : List Nat} {L : LabF} {tu : Bool} {cut : CutF} {wr : List Bool} {R : Value → V → Prop}
theorem SolW.puta (k : SolW hB hh p r sa sf vs ar rs cs ws ids L tu) {l : List Int} {i : Nat} {x : Int} (o : OwnS hB hh ar 42 1 (l.map (Value.int .i64))) (hl : l.length = p.arrays.length) (hi : i < l.length) (hg : ∀ (j : Nat) y, l[j]? = some y → y = L (.arr j))
    (l' : Le hB h') (o' : OwnS hB h' ar 42 1 ((l.set i x).map (Value.int .i64))) (f' : ∀ b, (∀ a, ar.a = some a → b ≠ a.block) → h' b = hh b) : SolW hB h' p r sa sf vs ar rs cs ws ids (putL L (.arr i) x) tu := by
  refine ⟨l', (f' r fun a ha e => k.nea o ha e.symm).trans k.box, k.newr, fun f q hq => ⟨(k.maps f q hq).1, ?_⟩, ⟨_, o', by simpa using hl, fun j y hy => ?_⟩, ?_, k.dis⟩
  · obtain ⟨_, ob, m, g1, g2, g3⟩ := k.maps f q hq
    exact ⟨ob, m, (f' q fun a ha e => k.nes hq o ha e.symm).trans g1, g2, fun v => by rw [putL_ne (fun e => by cases e)]; exact g3 v⟩
  · rw [List.getElem?_set] at hy
    by_cases e : i = j
    · subst e
      rw [if_pos rfl, if_pos hi] at hy
      cases hy
      rw [putL_self]
    · rw [if_neg e] at hy
      rw [putL_ne (fun g => e (by cases g; rfl))]
      exact hg j y hy
  · obtain ⟨z, g1, g2, g3⟩ := k.rets
    exact ⟨z, g1.frame fun a ob ha hob => (f' _ fun a2 ha2 e => k.dis a2 a ha2 ha e.symm).trans hob, g2, fun j y hy => by rw [putL_ne (fun e => by cases e)]; exact g3 j y hy⟩
theorem SolW.putr (k : SolW hB hh p r sa sf vs ar rs cs ws ids L tu) {l : List Int} {i : Nat} {x : Int} (o : OwnS hB hh rs 42 1 (l.map (Value.int .i64))) (hl : l.length = p.funcs.length) (hi : i < l.length) (hg : ∀ (j : Nat) y, l[j]? = some y → y = L (.ret j))
    (l' : Le hB h') (o' : OwnS hB h' rs 42 1 ((l.set i x).map (Value.int .i64))) (f' : ∀ b, (∀ a, rs.a = some a → b ≠ a.block) → h' b = hh b) : SolW hB h' p r sa sf vs ar rs cs ws ids (putL L (.ret i) x) tu := by
  refine ⟨l', (f' r fun a ha e => k.nea o ha e.symm).trans k.box, k.newr, fun f q hq => ⟨(k.maps f q hq).1, ?_⟩, ?_, ⟨_, o', by simpa using hl, fun j y hy => ?_⟩, k.dis⟩
  · obtain ⟨_, ob, m, g1, g2, g3⟩ := k.maps f q hq
    exact ⟨ob, m, (f' q fun a ha e => k.nes hq o ha e.symm).trans g1, g2, fun v => by rw [putL_ne (fun e => by cases e)]; exact g3 v⟩
  · obtain ⟨z, g1, g2, g3⟩ := k.arrs
    exact ⟨z, g1.frame fun a ob ha hob => (f' _ fun a2 ha2 e => k.dis a a2 ha ha2 e).trans hob, g2, fun j y hy => by rw [putL_ne (fun e => by cases e)]; exact g3 j y hy⟩
  · rw [List.getElem?_set] at hy
    by_cases e : i = j
    · subst e
      rw [if_pos rfl, if_pos hi] at hy
      cases hy
      rw [putL_self]
    · rw [if_neg e] at hy
      rw [putL_ne (fun g => e (by cases g; rfl))]
      exact hg j y hy
theorem mset_int {l : List Int} {n : Nat} {x : Int} : (l.map (Value.int .i64)).set n (.int .i64 x) = (l.set n x).map (Value.int .i64) := by rw [List.map_set]
theorem imap_get {l : List Int} {i : Nat} {x : Int} (h : l[i]? = some x) : (l.map (Value.int .i64))[i]? = some (.int .i64 x) := by rw [List.getElem?_map, h]; rfl
/- where an array's label is; and that it's raised -/
theorem SolW.atArr (k : SolW hB hh p r sa sf vs ar rs cs ws ids L tu) {i : Int} (h0 : 0 ≤ i) (hi : i.toNat < p.arrays.length) : ∃ a0, ar.a = some a0 ∧ i < ar.n ∧ cellq hh (a0.add (i.toNat * 1)) = some (iV (L (.arr i.toNat))) := by
  obtain ⟨l, o, hl, hg⟩ := k.arrs
  have hi' : i.toNat < l.length := by omega
  obtain ⟨a0, ha, hc⟩ := o.cell (imap_get (List.getElem?_eq_getElem hi'))
  have := o.1
  simp at this
  refine ⟨a0, ha, by omega, ?_⟩
  rw [Nat.mul_one, hc, hg i.toNat _ (List.getElem?_eq_getElem hi')]
theorem SolW.atRet (k : SolW hB hh p r sa sf vs ar rs cs ws ids L tu) {i : Int} (h0 : 0 ≤ i) (hi : i.toNat < p.funcs.length) : ∃ a0, rs.a = some a0 ∧ i < rs.n ∧ cellq hh (a0.add (i.toNat * 1)) = some (iV (L (.ret i.toNat))) := by
  obtain ⟨l, o, hl, hg⟩ := k.rets
  have hi' : i.toNat < l.length := by omega
  obtain ⟨a0, ha, hc⟩ := o.cell (imap_get (List.getElem?_eq_getElem hi'))
  have := o.1
  simp at this
  refine ⟨a0, ha, by omega, ?_⟩
  rw [Nat.mul_one, hc, hg i.toNat _ (List.getElem?_eq_getElem hi')]
theorem c_raise_arr {i to : Int} {a0 : Addr} (k : SolW hB hh p r sa sf vs ar rs cs ws ids L tu) (h0 : 0 ≤ i) (hi : i.toNat < p.arrays.length) (ha : ar.a = some a0)
    (hR : ∀ h', SolW hB h' p r sa sf vs ar rs cs ws ids (stepC (L, tu) ⟨.arr i.toNat, fun _ => to⟩).1 (stepC (L, tu) ⟨.arr i.toNat, fun _ => to⟩).2 → R (.tuple ⟨[]⟩) h') :
    ACalls Try.prog 37 [.pointer (some ⟨r, 0, none⟩), .pointer (some (a0.add (i.toNat * 1))), iV to] hh R := by
  obtain ⟨a1, ha1, _, hc⟩ := k.atArr h0 hi
  rw [ha] at ha1
  cases ha1
  obtain ⟨l, o, hl, hg⟩ := k.arrs
  unfold stepC at hR
  refine S37_ok _ _ _ _ _ ⟨_, hc, cond_dec (fun hlt => ?_) (fun hge => ?_)⟩
  · have hlt : L (.arr i.toNat) < to := hlt
    simp only [hlt, if_true] at hR
    refine OwnS.st o k.le ha h0 (by simp; omega) fun h2 l2 o2 f2 => ?_
    rw [mset_int] at o2
    exact (k.puta o hl (by omega) hg l2 o2 f2).turn fun h3 k3 _ => Wk_self (hR h3 k3)
  · have hge : ¬ L (.arr i.toNat) < to := hge
    simp only [hge, if_false] at hR
    exact Wk_self (hR hh k)
theorem c_raise_ret {i to : Int} {a0 : Addr} (k : SolW hB hh p r sa sf vs ar rs cs ws ids L tu) (h0 : 0 ≤ i) (hi : i.toNat < p.funcs.length) (ha : rs.a = some a0)
    (hR : ∀ h', SolW hB h' p r sa sf vs ar rs cs ws ids (stepC (L, tu) ⟨.ret i.toNat, fun _ => to⟩).1 (stepC (L, tu) ⟨.ret i.toNat, fun _ => to⟩).2 → R (.tuple ⟨[]⟩) h') :
    ACalls Try.prog 37 [.pointer (some ⟨r, 0, none⟩), .pointer (some (a0.add (i.toNat * 1))), iV to] hh R := by
  obtain ⟨a1, ha1, _, hc⟩ := k.atRet h0 hi
  rw [ha] at ha1
  cases ha1
  obtain ⟨l, o, hl, hg⟩ := k.rets
  unfold stepC at hR
  refine S37_ok _ _ _ _ _ ⟨_, hc, cond_dec (fun hlt => ?_) (fun hge => ?_)⟩
  · have hlt : L (.ret i.toNat) < to := hlt
    simp only [hlt, if_true] at hR
    refine OwnS.st o k.le ha h0 (by simp; omega) fun h2 l2 o2 f2 => ?_
    rw [mset_int] at o2
    exact (k.putr o hl (by omega) hg l2 o2 f2).turn fun h3 k3 _ => Wk_self (hR h3 k3)
  · have hge : ¬ L (.ret i.toNat) < to := hge
    simp only [hge, if_false] at hR
    exact Wk_self (hR hh k)
end
end Go.Proofs.Ytaefmhephoilmaa

/- Contracts of package taint: ins. -/
namespace Go.Proofs.Ytaefmhephoilmaa
open Go Go.VL

theorem right_arr {p : ProgD} {i : InsD} (h : rightD p i = true) (ho : i.op = 3 ∨ i.op = 4 ∨ i.op = 5 ∨ i.op = 6) : 0 ≤ i.arr ∧ i.arr.toNat < p.arrays.length := by
  unfold rightD at h
  split at h
  · cases h
  split at h
  · cases h
  split at h
  · cases h
  split at h
  · cases h
  split at h
  · omega
  split at h
  · rw [Bool.and_eq_true_iff] at h
    refine ⟨by simpa using h.1, ?_⟩
    have := h.2
    split at this
    · rename_i a ha; exact (List.getElem?_eq_some_iff.1 ha).1
    · cases this
  split at h
  · rw [Bool.and_eq_true_iff] at h
    refine ⟨by simpa using h.1, ?_⟩
    have := h.2
    split at this
    · rename_i a ha; exact (List.getElem?_eq_some_iff.1 ha).1
    · cases this
  · omega
theorem right_two {p : ProgD} {i : InsD} (h : rightD p i = true) (ho : i.op = 6) : i.args.length = 2 := by
  unfold rightD at h
  split at h
  · cases h
  split at h
  · cases h
  rename_i hn
  have e : (shapeD i.op).1 = 2 := by rw [ho]; rfl
  rw [e] at hn
  apply Classical.byContradiction
  intro x
  exact hn ⟨by omega, by omega⟩
theorem right_call {p : ProgD} {i : InsD} (h : rightD p i = true) (ho : i.op = 7) : 0 ≤ i.fn ∧ i.fn.toNat < p.funcs.length ∧ i.args.length = (FuncD.at p i.fn.toNat).params.length := by
  unfold rightD at h
  split at h
  · cases h
  split at h
  · cases h
  split at h
  · cases h
  split at h
  · cases h
  rw [if_neg (by omega), if_neg (by omega), if_neg (by omega)] at h
  rw [Bool.and_eq_true_iff] at h
  refine ⟨by simpa using h.1, ?_⟩
  have h2 := h.2
  split at h2
  · rename_i f hf
    have hlt := (List.getElem?_eq_some_iff.1 hf).1
    refine ⟨hlt, ?_⟩
    have e : FuncD.at p i.fn.toNat = f := by unfold FuncD.at; rw [List.getD_eq_getElem?_getD, hf]; rfl
    rw [e]
    unfold FuncD.params
    split at h2
    · rename_i b bs hb
      rw [hb]; simpa using h2
    · cases h2
  · cases h2
theorem FuncD.at_eq {p : ProgD} {f : Nat} (h : f < p.funcs.length) : FuncD.at p f = p.funcs[f] := by unfold FuncD.at; rw [List.getD_eq_getElem?_getD, List.getElem?_eq_getElem h]; rfl
theorem getD_lt {α : Type} {l : List α} {i : Nat} {d : α} (h : i < l.length) : l.getD i d = l[i] := by rw [List.getD_eq_getElem?_getD, List.getElem?_eq_getElem h]; rfl
theorem c_Params0 {h0 h : V} {nm : ByteArray} {s : Sl} {bs : List BlockD} {R : Value → V → Prop} (hs : isBlocks h0 s bs) (l0 : Le h0 h) (hR : ∀ s', isInts h0 s' (FuncD.params ⟨nm, bs⟩) → R (sV s') h) : ACalls Try.prog 21 [.agg ⟨[.string nm, sV s]⟩] h R := by
  refine S21_ok _ _ _ _ (New_box fun r h1 hr l b => ?_)
  refine ⟨s, b.cell rfl, cond_eqi (fun h0 => ?_) (fun h0 => ?_)⟩
  · have : bs = [] := List.eq_nil_of_length_eq_zero (by have := hs.len; omega)
    subst this
    exact ⟨h, l, hR ⟨none, 0, 0⟩ (isSl_nil _ _ _)⟩
  · cases bs with
    | nil => exact absurd (by simp [hs.len]) h0
    | cons b0 bs =>
      exact ⟨s, b.cell rfl, hs.ixn (k := 0) (by simp) fun a ⟨p, i, w, h1', h2, h3, hc⟩ => ⟨p, cellq_le (l0.trans l) hc.1, h, l, hR p h1'⟩⟩
theorem parCons_succ {cut : CutF} {g : Nat} {ps : List Int} {src : Nat → LabF → Int} {k : Nat} : parCons cut g ps src (k + 1) = parCons cut g ps src k ++ [⟨.val g (ps.getD k 0), fun L => cutS cut g (ps.getD k 0) (src k L)⟩] := by
  unfold parCons; rw [List.range_succ, List.map_append]; rfl

section
variable {hB hh : V} {p : ProgD} {r : Nat} {sa sf vs ar rs cs ws : Sl} {ids : List Nat} {L : LabF} {tu : Bool} {cut : CutF} {wr : List Bool} {R : Value → V → Prop}
theorem c_ins {f : Nat} {i : InsD} {q : Sl} (k : SolW hB hh p r sa sf vs ar rs cs ws ids L tu) (c : SolC hB p cut wr sa sf vs cs ws ids) (hf : f < p.funcs.length) (hr : rightD p i = true) (hq : isInts hB q i.args)
    (hR : ∀ h', SolW hB h' p r sa sf vs ar rs cs ws ids (runC (insCons p cut wr f i) (L, tu)).1 (runC (insCons p cut wr f i) (L, tu)).2 → R (.tuple ⟨[]⟩) h') :
    ACalls Try.prog 35 [.pointer (some ⟨r, 0, none⟩), iV (f : Int), .agg ⟨insV i q⟩] hh R := by
  refine S35_ok _ _ _ _ _ _ _ _ _ _ _ (New_box fun r5 h1 hr5 l1 b5 => ⟨q, b5.cell rfl, ?_⟩)
  obtain ⟨k1, lC⟩ := k.grow hr5 l1 b5
  have bC : Box (hB.upd r5 (.cells ⟨insV i q⟩ 60)) r5 (insV i q) 60 := upd_self _ _ _
  have cC := c.le lC
  have qC : isInts (hB.upd r5 (.cells ⟨insV i q⟩ 60)) q i.args := hq.le mono_int lC
  have hR : ∀ h', SolW (hB.upd r5 (.cells ⟨insV i q⟩ 60)) h' p r sa sf vs ar rs cs ws ids (runC (insCons p cut wr f i) (L, tu)).1 (runC (insCons p cut wr f i) (L, tu)).2 → R (.tuple ⟨[]⟩) h' := fun h' k' => hR h' (k'.shrink lC)
  generalize hB.upd r5 (.cells ⟨insV i q⟩ 60) = hC at *
  refine c_of k1 cC hf (qC.le mono_int k1.le) ⟨_, rfl, _, b5.cell0, cond_eqi (fun e1 => ?_) (fun n1 => cond_eqi (fun e2 => ?_) (fun n2 => ?_))⟩
  · have e1 : i.op = 1 := e1
    refine ⟨_, b5.cell rfl, c_val k1 cC hf fun h3 k3 => ⟨(), rfl, Wk_self (hR h3 ?_)⟩⟩
    unfold insCons; rw [if_pos e1]; exact k3
  · have n1 : i.op ≠ 1 := n1
    have e2 : i.op = 2 := e2
    refine ⟨_, b5.cell rfl, c_val k1 cC hf fun h3 k3 => ⟨(), rfl, Wk_self (hR h3 ?_)⟩⟩
    unfold insCons; rw [if_neg n1, if_pos e2]; exact k3
  have n1 : i.op ≠ 1 := n1
  have n2 : i.op ≠ 2 := n2
  refine Cut_i (fun s h7 => s.1 = decide (i.op = 3 ∨ i.op = 5) ∧ h1 = h7) (fun J hJ => ?_) ?_
  · refine cond_eqi (fun e => Wk_self (hJ _ _ ⟨?_, rfl⟩)) (fun e => Wk_self (hJ _ _ ⟨?_, rfl⟩))
    · have e : i.op = 3 := e
      show (i.op == 3) = _
      simp [e]
    · have e : ¬ i.op = 3 := e
      show (i.op == 5) = _
      simp [e]; rfl
  · rintro ⟨s, u⟩ _ ⟨es, rfl⟩
    have es : s = decide (i.op = 3 ∨ i.op = 5) := es
    subst es
    refine cond_dec (fun e => ?_) (fun n => cond_eqi (fun e4 => ?_) (fun n4 => cond_eqi (fun e6 => ?_) (fun n6 => cond_eqi (fun e7 => ?_) (fun n7 => ?_))))
    · obtain ⟨h0, hi⟩ := right_arr hr (by omega)
      obtain ⟨a0, ha, hlt, hc⟩ := k1.atArr h0 hi
      refine ⟨_, b5.cell rfl, ar, by rw [Addr.add_add]; exact k1.box.cell rfl, _, b5.cell rfl, a0, ha, h0, hlt, _, hc, ws, k1.box.cell rfl, (i.op, i.dst, q, i.num, i.bin, i.arr, i.fn, ()), b5.cells, ?_⟩
      refine c_May (cC.writes.le mono_bool k1.le) ⟨_, rfl, Le.refl _, c_val k1 cC hf fun h3 k3 => ⟨(), rfl, Wk_self (hR h3 ?_)⟩⟩
      unfold insCons; rw [if_neg n1, if_neg n2, if_pos e]; exact k3
    · have e4 : i.op = 4 := e4
      obtain ⟨h0, hi⟩ := right_arr hr (by omega)
      obtain ⟨a0, ha, hlt, hc⟩ := k1.atArr h0 hi
      refine ⟨ar, by rw [Addr.add_add]; exact k1.box.cell rfl, _, b5.cell rfl, a0, ha, h0, hlt, c_stays ⟨_, rfl, Le.refl _, c_raise_arr k1 h0 hi ha fun h3 k3 => ⟨(), rfl, Wk_self (hR h3 ?_)⟩⟩⟩
      unfold insCons; rw [if_neg n1, if_neg n2, if_neg n, if_pos e4]; exact k3
    · have n4 : i.op ≠ 4 := n4
      have e6 : i.op = 6 := e6
      obtain ⟨h0, hi⟩ := right_arr hr (by omega)
      obtain ⟨a0, ha, hlt, hc⟩ := k1.atArr h0 hi
      have h2 := right_two hr e6
      refine ⟨ar, by rw [Addr.add_add]; exact k1.box.cell rfl, _, b5.cell rfl, a0, ha, h0, hlt, vs, by rw [Addr.add_add]; exact k1.box.cell rfl, ?_⟩
      have hltf : f < ids.length := by rw [cC.len]; exact hf
      obtain ⟨_, ob, m, g1, g2, g3⟩ := k1.maps f _ (List.getElem?_eq_getElem hltf)
      refine (cC.vals.le mono_map k1.le).ixn hltf fun a hma => ⟨some ids[f], hma, q, b5.cell rfl, ?_⟩
      refine (qC.le mono_int k1.le).ix (i := 1) (by omega) (by omega) fun a3 ha3 => ⟨_, ha3, Look_map g1 g2 ?_⟩
      rw [g3]
      refine c_stays ⟨_, rfl, Le.refl _, c_raise_arr k1 h0 hi ha fun h3 k3 => ⟨(), rfl, Wk_self (hR h3 ?_)⟩⟩
      unfold insCons; rw [if_neg n1, if_neg n2, if_neg n, if_neg n4, if_pos e6]
      rw [show i.args[Int.toNat 1]'(by omega) = i.args.getD 1 0 from (getD_lt _).symm] at k3
      exact k3
    · have n4 : i.op ≠ 4 := n4
      have n6 : i.op ≠ 6 := n6
      have e7 : i.op = 7 := e7
      obtain ⟨h0, hi, hargs⟩ := right_call hr e7
      have heq : insCons p cut wr f i = parCons cut i.fn.toNat (FuncD.at p i.fn.toNat).params (fun j L => staysD (L (.val f (i.args.getD j 0)))) (FuncD.at p i.fn.toNat).params.length ++ [⟨.val f i.dst, fun L => cutS cut f i.dst (L (.ret i.fn.toNat))⟩] := by
        unfold insCons; rw [if_neg n1, if_neg n2, if_neg n, if_neg n4, if_neg n6, if_pos e7]
      rw [heq] at hR
      have hfn := FuncD.at_eq hi
      generalize FuncD.at p i.fn.toNat = g at *
      refine ⟨sf, by rw [Addr.add_add]; exact k1.box.cell rfl, _, b5.cell rfl, cC.funcs.ix h0 hi fun a ⟨sb, hsb, hc⟩ => ⟨(_, sb, ()), cellsAt_le k1.le hc, c_Params0 hsb k1.le fun s' hs' => ⟨_, rfl, ?_⟩⟩⟩
      have hs' : isInts hC s' g.params := by rw [hfn]; exact hs'
      have hltf : f < ids.length := by rw [cC.len]; exact hf
      refine Lp_count g.params.length (fun j st hh => st = ((j : Int), ()) ∧ SolW hC hh p r sa sf vs ar rs cs ws ids (runC (parCons cut i.fn.toNat g.params (fun j L => staysD (L (.val f (i.args.getD j 0)))) j) (L, tu)).1 (runC (parCons cut i.fn.toNat g.params (fun j L => staysD (L (.val f (i.args.getD j 0)))) j) (L, tu)).2) ⟨rfl, k1⟩ ?_
      rintro j _ h18 K hj ⟨rfl, k2⟩ hK
      have hfi : ((i.fn.toNat : Nat) : Int) = i.fn := by omega
      refine cond_dec (fun hl => ?_) (fun hge => ?_)
      · have hj' : j < g.params.length := by have := hs'.len; simp only at hl; omega
        obtain ⟨_, ob, m, g1, g2, g3⟩ := k2.maps f _ (List.getElem?_eq_getElem hltf)
        refine (hs'.le mono_int k2.le).ixn hj' fun a ha => ⟨_, ha, _, (bC.le k2.le).cell rfl, vs, by rw [Addr.add_add]; exact k2.box.cell rfl, ?_⟩
        refine (cC.vals.le mono_map k2.le).ixn hltf fun a hma => ⟨some ids[f], hma, q, (bC.le k2.le).cell rfl, (qC.le mono_int k2.le).ixn (by omega) fun a3 ha3 => ⟨_, ha3, Look_map g1 g2 ?_⟩⟩
        rw [g3, ← hfi]
        refine c_stays ⟨_, rfl, Le.refl _, c_val k2 cC hi fun h3 k3 => ⟨(), rfl, Wk_self (hK _ _ hj' ⟨by rw [wnat hj' hs'.bd], ?_⟩)⟩⟩
        rw [parCons_succ, runC_append, runC_one, getD_lt hj', getD_lt (by omega)]
        exact k3
      · have : j = g.params.length := by have := hs'.len; simp only at hge; omega
        subst this
        obtain ⟨a0, ha, hlt, hc⟩ := k2.atRet h0 hi
        refine ⟨_, (bC.le k2.le).cell rfl, rs, by rw [Addr.add_add]; exact k2.box.cell rfl, _, (bC.le k2.le).cell rfl, a0, ha, h0, hlt, _, hc, ?_⟩
        refine c_val k2 cC hf fun h3 k3 => ⟨(), rfl, Wk_self (hR h3 ?_)⟩
        rw [runC_append, runC_one]
        exact k3
    · have n4 : i.op ≠ 4 := n4
      have n6 : i.op ≠ 6 := n6
      have n7 : i.op ≠ 7 := n7
      refine Wk_self (hR h1 ?_)
      unfold insCons; rw [if_neg n1, if_neg n2, if_neg n, if_neg n4, if_neg n6, if_neg n7]; exact k1
end
end Go.Proofs.Ytaefmhephoilmaa

/- Contracts of package taint: block. -/
namespace Go.Proofs.Ytaefmhephoilmaa
open Go Go.VL

theorem flatMap_take_succ {α β : Type} {l : List α} {k : Nat} {f : α → List β} (hk : k < l.length) : (l.take (k + 1)).flatMap f = (l.take k).flatMap f ++ f l[k] := by
  rw [List.take_succ_eq_append_getElem hk, List.flatMap_append]; simp
section
variable {hB hh : V} {p : ProgD} {r : Nat} {sa sf vs ar rs cs ws : Sl} {ids : List Nat} {L : LabF} {tu : Bool} {cut : CutF} {wr : List Bool} {R : Value → V → Prop}
theorem c_block {f : Nat} {b : BlockD} {q i w : Sl} (k : SolW hB hh p r sa sf vs ar rs cs ws ids L tu) (c : SolC hB p cut wr sa sf vs cs ws ids) (hf : f < p.funcs.length) (hb : blockOk p p.funcs[f] b)
    (hi : isInss hB i b.ins) (hw : isEdges hB w b.e.ways)
    (hR : ∀ h', SolW hB h' p r sa sf vs ar rs cs ws ids (runC (blockCons p cut wr f b) (L, tu)).1 (runC (blockCons p cut wr f b) (L, tu)).2 → R (.tuple ⟨[]⟩) h') :
    ACalls Try.prog 20 [.pointer (some ⟨r, 0, none⟩), iV (f : Int), .agg ⟨blockV b q i w⟩] hh R := by
  refine S20_ok _ _ _ _ _ _ _ _ _ _ (New_box fun r5 h1 hr5 l1 b5 => ⟨i, b5.cell rfl, ?_⟩)
  obtain ⟨k1, lC⟩ := k.grow hr5 l1 b5
  have bC : Box (hB.upd r5 (.cells ⟨blockV b q i w⟩ 55)) r5 (blockV b q i w) 55 := upd_self _ _ _
  have cC := c.le lC
  have iC : isInss (hB.upd r5 (.cells ⟨blockV b q i w⟩ 55)) i b.ins := hi.le mono_ins lC
  have wC : isEdges (hB.upd r5 (.cells ⟨blockV b q i w⟩ 55)) w b.e.ways := hw.le mono_edge lC
  have hR : ∀ h', SolW (hB.upd r5 (.cells ⟨blockV b q i w⟩ 55)) h' p r sa sf vs ar rs cs ws ids (runC (blockCons p cut wr f b) (L, tu)).1 (runC (blockCons p cut wr f b) (L, tu)).2 → R (.tuple ⟨[]⟩) h' := fun h' k' => hR h' (k'.shrink lC)
  generalize hB.upd r5 (.cells ⟨blockV b q i w⟩ 55) = hC at *
  refine Lp_count b.ins.length (fun j st hh => st = ((j : Int), ()) ∧ SolW hC hh p r sa sf vs ar rs cs ws ids (runC ((b.ins.take j).flatMap (insCons p cut wr f)) (L, tu)).1 (runC ((b.ins.take j).flatMap (insCons p cut wr f)) (L, tu)).2) ⟨rfl, k1⟩ ?_
  rintro j _ h2 K hj ⟨rfl, k2⟩ hK
  refine cond_dec (fun hl => ?_) (fun hge => ?_)
  · have hj' : j < b.ins.length := by have := iC.len; simp only at hl; omega
    refine elem_ins iC k2.le hj' rfl rfl fun z hz r7 h4 l4 l4' hr7 b7 => ⟨(b.ins[j].op, b.ins[j].dst, z, b.ins[j].num, b.ins[j].bin, b.ins[j].arr, b.ins[j].fn, ()), b7.cells, ?_⟩
    refine c_ins (k2.view l4') cC hf (hb.2 _ (List.getElem_mem hj')) hz fun h5 k5 => ⟨(), rfl, Wk_self (hK _ _ hj' ⟨by rw [wnat hj' iC.bd], ?_⟩)⟩
    rw [flatMap_take_succ hj', runC_append]
    exact k5
  · have : j = b.ins.length := by have := iC.len; simp only at hge; omega
    subst this
    rw [List.take_of_length_le (Nat.le_refl _)] at k2
    generalize hcs : b.ins.flatMap (insCons p cut wr f) = cs0 at *
    refine ⟨w, by rw [Addr.add_add]; exact (bC.le k2.le).cell rfl, ?_⟩
    have hways := endsD_ways hb.1
    refine Lp_count b.e.ways.length (fun j st hh => st = ((j : Int), ()) ∧ SolW hC hh p r sa sf vs ar rs cs ws ids (runC (cs0 ++ (b.e.ways.take j).flatMap (wayCons p cut f)) (L, tu)).1 (runC (cs0 ++ (b.e.ways.take j).flatMap (wayCons p cut f)) (L, tu)).2) ⟨rfl, by simpa using k2⟩ ?_
    rintro j _ h7 K1 hj ⟨rfl, k7⟩ hK1
    refine cond_dec (fun hl => ?_) (fun hge => ?_)
    · have hj' : j < b.e.ways.length := by have := wC.len; simp only at hl; omega
      have hwo := hways _ (List.getElem_mem hj')
      obtain ⟨t1, t2⟩ := wayOk_to hwo
      have hargs : b.e.ways[j].args.length = (p.funcs[f].blocks[b.e.ways[j].to.toNat]'t2).params.length := by
        unfold wayOk at hwo
        rw [Bool.and_eq_true_iff, List.getElem?_eq_getElem t2] at hwo
        simpa using hwo.2
      have hway : wayCons p cut f b.e.ways[j] = parCons cut f (p.funcs[f].blocks[b.e.ways[j].to.toNat]'t2).params (fun m L => L (.val f (b.e.ways[j].args.getD m 0))) (p.funcs[f].blocks[b.e.ways[j].to.toNat]'t2).params.length := by
        unfold wayCons
        rw [FuncD.at_eq hf, List.getElem?_eq_getElem t2]
      refine elem_edge wC k7.le hj' rfl rfl fun z hz r9 h9 l9 l9' hr9 b9 => ?_
      obtain ⟨k9, lD⟩ := k7.grow hr9 l9' b9
      have bD : Box (hC.upd r9 (.cells ⟨edgeV b.e.ways[j] z⟩ 74)) r9 (edgeV b.e.ways[j] z) 74 := upd_self _ _ _
      have cD := cC.le lD
      have zD : isInts (hC.upd r9 (.cells ⟨edgeV b.e.ways[j] z⟩ 74)) z b.e.ways[j].args := hz.le mono_int lD
      have fD := cD.funcs
      have hK1' : ∀ h', SolW (hC.upd r9 (.cells ⟨edgeV b.e.ways[j] z⟩ 74)) h' p r sa sf vs ar rs cs ws ids (runC (cs0 ++ (b.e.ways.take (j + 1)).flatMap (wayCons p cut f)) (L, tu)).1 (runC (cs0 ++ (b.e.ways.take (j + 1)).flatMap (wayCons p cut f)) (L, tu)).2 → K1 (IntKind.wrap .i64 ((j : Int) + 1), ()) h' :=
        fun h' k' => hK1 _ _ hj' ⟨by rw [wnat hj' wC.bd], k'.shrink lD⟩
      generalize hC.upd r9 (.cells ⟨edgeV b.e.ways[j] z⟩ 74) = hD at *
      rw [flatMap_take_succ hj', hway, ← List.append_assoc] at hK1'
      generalize (cs0 ++ (b.e.ways.take j).flatMap (wayCons p cut f)) = cs1 at *
      refine ⟨sf, by rw [Addr.add_add]; exact k9.box.cell rfl, fD.ixn hf fun a ⟨sb, hsb, hc⟩ => ⟨sb, cellq_le k9.le hc.2.1, _, (bD.le k9.le).cell0, ?_⟩⟩
      refine hsb.ix (by omega) t2 fun a2 ⟨pp, ii, ww, hp, _, _, hc2⟩ => ⟨pp, cellq_le k9.le hc2.1, ?_⟩
      generalize (p.funcs[f].blocks[b.e.ways[j].to.toNat]'t2).params = ps at *
      have hltf : f < ids.length := by rw [cD.len]; exact hf
      refine Lp_count ps.length (fun m st hh => st = ((m : Int), ()) ∧ SolW hD hh p r sa sf vs ar rs cs ws ids (runC (cs1 ++ parCons cut f ps (fun m L => L (.val f (b.e.ways[j].args.getD m 0))) m) (L, tu)).1 (runC (cs1 ++ parCons cut f ps (fun m L => L (.val f (b.e.ways[j].args.getD m 0))) m) (L, tu)).2) ⟨rfl, by simpa [parCons] using k9⟩ ?_
      rintro m _ h10 K2 hm ⟨rfl, k10⟩ hK2
      refine cond_dec (fun hl => ?_) (fun hge => ?_)
      · have hm' : m < ps.length := by have := hp.len; simp only at hl; omega
        obtain ⟨_, ob, mm, g1, g2, g3⟩ := k10.maps f _ (List.getElem?_eq_getElem hltf)
        refine (hp.le mono_int k10.le).ixn hm' fun a ha => ⟨_, ha, vs, by rw [Addr.add_add]; exact k10.box.cell rfl, ?_⟩
        refine (cD.vals.le mono_map k10.le).ixn hltf fun a hma => ⟨some ids[f], hma, z, (bD.le k10.le).cell rfl, (zD.le mono_int k10.le).ixn (by omega) fun a3 ha3 => ⟨_, ha3, Look_map g1 g2 ?_⟩⟩
        rw [g3]
        refine c_val k10 cD hf fun h3 k3 => ⟨(), rfl, Wk_self (hK2 _ _ hm' ⟨by rw [wnat hm' hp.bd], ?_⟩)⟩
        rw [parCons_succ, ← List.append_assoc, runC_append, runC_one, getD_lt hm', getD_lt (by omega)]
        exact k3
      · have : m = ps.length := by have := hp.len; simp only at hge; omega
        subst this
        exact Wk_self (hK1' h10 k10)
    · have : j = b.e.ways.length := by have := wC.len; simp only at hge; omega
      subst this
      rw [List.take_of_length_le (Nat.le_refl _)] at k7
      have hB0 : blockCons p cut wr f b = (cs0 ++ b.e.ways.flatMap (wayCons p cut f)) ++ endCons f b.e := by unfold blockCons; rw [hcs]
      rw [hB0] at hR
      generalize (cs0 ++ b.e.ways.flatMap (wayCons p cut f)) = cs1 at *
      refine ⟨_, by rw [Addr.add_add]; exact (bC.le k7.le).cell rfl, cond_eqi (fun e3 => ?_) (fun n3 => ?_)⟩
      · have e3 : b.e.kind = 3 := e3
        obtain ⟨a0, ha, hlt, hc⟩ := k7.atRet (i := (f : Int)) (by omega) (by simpa using hf)
        have hltf : f < ids.length := by rw [cC.len]; exact hf
        obtain ⟨_, ob, mm, g1, g2, g3⟩ := k7.maps f _ (List.getElem?_eq_getElem hltf)
        refine ⟨rs, by rw [Addr.add_add]; exact k7.box.cell rfl, a0, ha, by omega, hlt, vs, by rw [Addr.add_add]; exact k7.box.cell rfl, ?_⟩
        refine (cC.vals.le mono_map k7.le).ixn hltf fun a hma => ⟨some ids[f], hma, _, by rw [Addr.add_add]; exact (bC.le k7.le).cell rfl, Look_map g1 g2 ?_⟩
        rw [g3]
        refine c_stays ⟨_, rfl, Le.refl _, c_raise_ret k7 (by omega) (by simpa using hf) ha fun h3 k3 => ⟨(), rfl, Wk_self (hR h3 ?_)⟩⟩
        unfold endCons
        rw [if_pos e3, runC_append, runC_one]
        simp only [Int.toNat_natCast] at k3
        exact k3
      · have n3 : b.e.kind ≠ 3 := n3
        refine Wk_self (hR h7 ?_)
        unfold endCons
        rw [if_neg n3, List.append_nil]
        exact k7
end
end Go.Proofs.Ytaefmhephoilmaa
