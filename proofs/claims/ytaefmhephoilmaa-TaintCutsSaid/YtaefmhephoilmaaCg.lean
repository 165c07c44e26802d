/- Contracts of package ssa: known, at last. -/
import Derived.Test.YtaefmhephoilmaaCfa
namespace Go.Proofs.Ytaefmhephoilmaa
open Go Go.VL

def wayFix (A : List (Option Nat)) (T : Nat → Int → Bool) (t : Int → Bool) (w : EdgeD) : Prop := ∃ r1, A[w.to.toNat]? = some (some r1) ∧ ∀ v, T r1 v = true → t v = true
def blockFix (A : List (Option Nat)) (T : Nat → Int → Bool) (b : Nat) (bk : BlockD) : Prop :=
  (b = 0 → ∃ r, A[0]? = some (some r)) ∧ ∀ r, A[b]? = some (some r) → ∀ w ∈ bk.e.ways, wayFix A T (afterD (T r) bk) w
def FixA (bs : List BlockD) (A : List (Option Nat)) (T : Nat → Int → Bool) : Prop := ∀ (b : Nat) bk, Rch bs b → bs[b]? = some bk → blockFix A T b bk
def agreeT (A : List (Option Nat)) (T T' : Nat → Int → Bool) : Prop := ∀ (n : Nat) r, A[n]? = some (some r) → T' r = T r

/- what holds within a round that began with A0, T0 -/
structure KJ (hB hh : V) (s : Sl) (U : List Int) (A0 : List (Option Nat)) (T0 : Nat → Int → Bool) (turned : Bool) (A : List (Option Nat)) (T : Nat → Int → Bool) : Prop where
  w : KW hB hh s U A T
  len : A.length = A0.length
  mu : muA U A T ≤ muA U A0 T0
  lt : turned = true → muA U A T < muA U A0 T0
  eq : turned = false → A = A0 ∧ agreeT A0 T0 T
theorem KJ.view {hB hh h' : V} {s : Sl} {U : List Int} {A0 A : List (Option Nat)} {T0 T : Nat → Int → Bool} {tu : Bool} (k : KJ hB hh s U A0 T0 tu A T) (l : Le hh h') : KJ hB h' s U A0 T0 tu A T :=
  ⟨⟨k.w.le.trans l, k.w.own.le l, fun n r h => let ⟨o, h1, h2⟩ := k.w.set n r h; ⟨o, l _ _ h1, h2⟩, k.w.new, k.w.inU, k.w.zero⟩, k.len, k.mu, k.lt, k.eq⟩
theorem KW.view {hB hh h' : V} {s : Sl} {U : List Int} {A : List (Option Nat)} {T : Nat → Int → Bool} (k : KW hB hh s U A T) (l : Le hh h') : KW hB h' s U A T :=
  ⟨k.le.trans l, k.own.le l, fun n r h => let ⟨o, h1, h2⟩ := k.set n r h; ⟨o, l _ _ h1, h2⟩, k.new, k.inU, k.zero⟩
/- a new set, beside those of the slice -/
theorem KJ.fresh {hB hh h' : V} {s : Sl} {U : List Int} {A0 A : List (Option Nat)} {T0 T : Nat → Int → Bool} {tu : Bool} (k : KJ hB hh s U A0 T0 tu A T) {r : Nat} {t : Int → Bool} (hr : hh r = none) (l : Le hh h') :
    KJ hB h' s U A0 T0 tu A (upT T r t) ∧ ∀ (n : Nat) q, A[n]? = some (some q) → upT T r t q = T q := by
  have hne : ∀ (n : Nat) q, A[n]? = some (some q) → upT T r t q = T q := fun n q hq => by
    obtain ⟨o, ho, _⟩ := k.w.set n q hq
    exact upT_ne fun e => by subst e; rw [hr] at ho; cases ho
  have hmu : muA U A (upT T r t) = muA U A T := mu_cong hne
  refine ⟨⟨⟨k.w.le.trans l, k.w.own.le l, fun n q h => ?_, k.w.new, fun n q h v hv => ?_, fun q h v => ?_⟩, k.len, by rw [hmu]; exact k.mu, fun h => by rw [hmu]; exact k.lt h, fun h => ?_⟩, hne⟩
  · obtain ⟨o, h1, h2⟩ := k.w.set n q h
    rw [hne n q h]; exact ⟨o, l _ _ h1, h2⟩
  · rw [hne n q h] at hv; exact k.w.inU n q h v hv
  · rw [hne 0 q h]; exact k.w.zero q h v
  · obtain ⟨e1, e2⟩ := k.eq h
    refine ⟨e1, fun n q hq => ?_⟩
    subst e1
    rw [hne n q hq]; exact e2 n q hq

theorem made_mem {bs : List BlockD} {b : BlockD} (hb : b ∈ bs) {s : Int → Bool} (hs : ∀ v, s v = true → v ∈ bs.flatMap madeB) : ∀ v, afterD s b v = true → v ∈ bs.flatMap madeB := by
  intro v hv
  unfold afterD at hv
  rw [Bool.or_eq_true_iff, Bool.or_eq_true_iff] at hv
  rcases hv with (h | h) | h
  · exact hs v h
  · exact List.mem_flatMap.2 ⟨b, hb, List.mem_append_left _ (List.contains_iff_mem.1 h)⟩
  · exact List.mem_flatMap.2 ⟨b, hb, List.mem_append_right _ (List.contains_iff_mem.1 h)⟩

theorem c_known {h : V} {nm : ByteArray} {s : Sl} {bs : List BlockD} {R : Value → V → Prop} (hs : isBlocks h s bs) (hfew : bs.length ≤ 1048576) (hto : ∀ b ∈ bs, ∀ w ∈ b.e.ways, 1 ≤ w.to ∧ w.to.toNat < bs.length)
    (hR : ∀ s' h' A T, Le h h' → isSl (fun h a x => cellq h a = some (Value.map x)) 1 h' s' A → A.length = bs.length → (∀ (n : Nat) r, A[n]? = some (some r) → ∃ o, h' r = some o ∧ SetRep o (T r)) → (∀ r, A[0]? = some (some r) → ∀ v, T r v = false) → FixA bs A T → (∃ ids st, Ref h' ids st A T ∧ KRun bs ⟨List.replicate bs.length none, []⟩ st) → R (sV s') h') :
    ACalls Try.prog 27 [.agg ⟨[.string nm, sV s]⟩] h R := by
  refine S27_ok _ _ _ _ (New_box fun r1 h1 hr1 l1 b1 => ⟨s, b1.cell rfl, ?_⟩)
  refine MkSl_own (by rw [hs.len]; omega) (by omega) fun s14 h2 l2 o2 n2 f2 a2 => ?_
  rw [hs.len] at o2 n2
  refine ⟨(nm, s, ()), (b1.le l2).cells, c_Reach (hs.le mono_block (l1.trans l2)) hfew fun x16 h3 out l3 o3 outl hout => ⟨_, rfl, ?_⟩⟩
  obtain ⟨a14, ha14⟩ := a2
  obtain ⟨n14, arr14, h14⟩ := o2.blk ha14
  -- what stays through it all: everything but the slice of sets
  have lB : Le (V.del h3 a14.block) h3 := del_le _ _
  have lhB : Le h1 (V.del h3 a14.block) := fun b ob hb => by
    have e : b ≠ a14.block := fun e => by subst e; rw [n14] at hb; cases hb
    rw [del_ne e]; exact l3 _ _ (l2 _ _ hb)
  have hsB : isBlocks (V.del h3 a14.block) s bs := hs.le mono_block (l1.trans lhB)
  have b1B : Box (V.del h3 a14.block) r1 [.string nm, sV s] 46 := b1.le lhB
  have xB : isSl repBool 1 (V.del h3 a14.block) x16 out := by
    refine (OwnS.frame (h0 := h2) (h := h3) o3 fun a ob ha hob => ?_).bools
    rw [del_ne (fun e => ?_)]
    · exact hob
    · obtain ⟨e1, _⟩ := o3.blk ha
      rw [e, h14] at e1; cases e1
  have hrep : List.replicate bs.length (Value.map none) = (List.replicate bs.length (none : Option Nat)).map Value.map := by rw [List.map_replicate]
  have oB : OwnS (V.del h3 a14.block) h3 s14 29 1 ((List.replicate bs.length (none : Option Nat)).map Value.map) := by
    rw [← hrep]
    obtain ⟨p1, p2, p3, p4⟩ := o2.le l3
    rcases p4 with ⟨ha, _⟩ | ⟨r, off, arr, ha, _, hr, hz, ht⟩
    · rw [ha14] at ha; cases ha
    · refine ⟨p1, p2, p3, .inr ⟨r, off, arr, ha, ?_, hr, hz, ht⟩⟩
      rw [ha14] at ha
      have e : a14 = ⟨r, off, none⟩ := Option.some.inj ha
      rw [e]; exact del_self _ _
  generalize V.del h3 a14.block = hB at *
  have lhh : Le h hB := l1.trans lhB
  have hno : ∀ (n : Nat) r, (List.replicate bs.length (none : Option Nat))[n]? ≠ some (some r) := by
    intro n r e
    rw [List.getElem?_replicate] at e
    split at e <;> simp at e
  have k0 : KW hB h3 s14 (bs.flatMap madeB) (List.replicate bs.length none) (fun _ _ => false) := ⟨lB, oB, fun n r e => absurd e (hno n r), fun n r e => absurd e (hno n r), fun n r e => absurd e (hno n r), fun r e => absurd e (hno 0 r)⟩
  have ref0 : Ref h3 [] ⟨List.replicate bs.length none, []⟩ (List.replicate bs.length none) (fun _ _ => false) := by
    refine ⟨by simp, rfl, fun h r hr => by simp at hr, List.nodup_nil, fun n h hn => absurd hn (hno n h), fun r hr => by simp at hr⟩
  refine Lp_inv (fun n st hh => ∃ A T, KW hB hh s14 (bs.flatMap madeB) A T ∧ A.length = bs.length ∧ (st.1 = true → muA (bs.flatMap madeB) A T + 1 ≤ n) ∧ (st.1 = false → FixA bs A T) ∧ ∃ ids ks, Ref hh ids ks A T ∧ (st.1 = true → ∀ f, KRun bs ks f → KRun bs ⟨List.replicate bs.length none, []⟩ f) ∧ (st.1 = false → KRun bs ⟨List.replicate bs.length none, []⟩ ks))
    ⟨_, _, k0, by simp, fun _ => Nat.le_refl _, fun e => (by cases e), [], _, ref0, fun _ f hf => hf, fun e => by cases e⟩ ?_
  rintro n ⟨tu, u⟩ h4 K ⟨A0, T0, k0, len0, m0, x0, ids0, ks0, r0, go0, stop0⟩ hK
  refine cond_b (fun ht => ⟨s, (b1B.le k0.le).cell rfl, ?_⟩) (fun ht => Wk_self (hR s14 h4 A0 T0 (lhh.trans k0.le) k0.maps len0 k0.set k0.zero (x0 ht) ⟨ids0, ks0, r0, stop0 ht⟩))
  have m0 := m0 ht
  refine Lp_count bs.length (fun k st hh => ∃ A T, KJ hB hh s14 (bs.flatMap madeB) A0 T0 st.1 A T ∧ st.2 = ((k : Int), ()) ∧ (st.1 = false → ∀ b bk, b < k → Rch bs b → bs[b]? = some bk → blockFix A0 T0 b bk) ∧ ∃ ids, Ref hh ids (roundF bs k ks0).1 A T ∧ (roundF bs k ks0).2 = st.1)
    ⟨A0, T0, ⟨k0, rfl, Nat.le_refl _, fun e => (by cases e), fun _ => ⟨rfl, fun _ _ _ => rfl⟩⟩, rfl, fun _ b bk hb => by omega, ids0, r0, rfl⟩ ?_
  rintro k ⟨tu1, kk, u⟩ h5 K1 hk ⟨A1, T1, j1, hk2, hf1, ids1, rf1, fl1⟩ hK1
  obtain ⟨rfl, -⟩ := hk2
  refine cond_dec (fun hlt => ?_) (fun hge => ?_)
  · have hk' : k < bs.length := by have := hs.len; simp only at hlt; omega
    have hbm : bs[k] ∈ bs := List.getElem_mem hk'
    have hbk : bs[k]? = some bs[k] := List.getElem?_eq_getElem hk'
    refine elem_block hsB j1.w.le hk' rfl rfl fun p i w hp hi hw q7 h7 l7 l7' hr7 b7 => ?_
    have j7 := j1.view l7'
    have len1 : A1.length = bs.length := j1.len.trans len0
    -- a block that is passed over
    have r7 : Ref h7 ids1 (roundF bs k ks0).1 A1 T1 := rf1.le l7'
    have fl1 : (roundF bs k ks0).2 = tu1 := fl1
    have skip : ∀ hh, KJ hB hh s14 (bs.flatMap madeB) A0 T0 tu1 A1 T1 → Ref hh ids1 (roundF bs k ks0).1 A1 T1 → blockF bs k (roundF bs k ks0) = roundF bs k ks0 → (Rch bs k → tu1 = false → blockFix A0 T0 k bs[k]) → Wk hh fun h' => K1 (tu1, IntKind.wrap .i64 ((k : Int) + 1), ()) h' := by
      intro hh jj rr sk hx
      refine Wk_self (hK1 _ _ hk' ⟨A1, T1, jj, by rw [wnat hk' hs.bd], fun h b bk hb hr hbk' => ?_, ids1, by show Ref hh ids1 (blockF bs k (roundF bs k ks0)).1 A1 T1; rw [sk]; exact rr, by show (blockF bs k (roundF bs k ks0)).2 = _; rw [sk]; exact fl1⟩)
      rcases Nat.lt_or_ge b k with g | g
      · exact hf1 h b bk g hr hbk'
      · have e : b = k := by omega
        subst e
        rw [hbk] at hbk'
        cases hbk'
        exact hx hr h
    refine Cut_i (fun _ hh => h7 = hh ∧ Rch bs k ∧ (k ≠ 0 → ∃ r, A1[k]? = some (some r))) (fun J hJ => ?_) ?_
    · refine (xB.le mono_bool l7).ixn (by omega) fun a ha => ⟨_, ha, cond_not (fun hn => ?_) (fun hy => cond_dec (fun hpos => ?_) (fun hz => ?_))⟩
      · have nork : ¬ Rch bs k := fun hr => by
          have := (hout k).2 hr
          rw [List.getElem?_eq_getElem (by omega)] at this
          have hn : out[k] = false := hn
          rw [hn] at this; cases this
        refine skip h7 j7 r7 (by unfold blockF; rw [if_neg (fun e => nork (rchB_iff.1 e))]) fun hr => ?_
        have := (hout k).2 hr
        rw [List.getElem?_eq_getElem (by omega)] at this
        have hn : out[k] = false := hn
        rw [hn] at this; cases this
      · have hrk : Rch bs k := (hout k).1 (by rw [List.getElem?_eq_getElem (by omega)]; exact congrArg some hy)
        have hpos : (k : Int) > 0 := hpos
        cases hx : A1[k]'(by omega) with
        | none =>
          have hn1 := r7.isN (n := k) (by rw [List.getElem?_eq_getElem (by omega), hx])
          refine j7.w.maps.ixn (by omega) fun a ha => ⟨_, ha, cond_b (fun _ => skip h7 j7 r7 (by unfold blockF; rw [if_pos (rchB_iff.2 hrk), hbk]; simp only [hn1]; rw [if_neg (by omega)]) fun _ h => ⟨fun e => by omega, fun r hr => ?_⟩) (fun e => by rw [hx] at e; cases e)⟩
          rw [← (j1.eq h).1, List.getElem?_eq_getElem (by omega), hx] at hr
          cases hr
        | some r =>
          refine j7.w.maps.ixn (by omega) fun a ha => ⟨_, ha, cond_b (fun e => by rw [hx] at e; cases e) (fun _ => Wk_self (hJ _ _ ⟨rfl, hrk, fun _ => ⟨r, by rw [List.getElem?_eq_getElem (by omega), hx]⟩⟩))⟩
      · have hrk : Rch bs k := (hout k).1 (by rw [List.getElem?_eq_getElem (by omega)]; exact congrArg some hy)
        have hz : ¬ (k : Int) > 0 := hz
        exact Wk_self (hJ _ _ ⟨rfl, hrk, fun e => by omega⟩)
    · rintro _ _ ⟨rfl, hrk, hsome⟩
      -- the set of the first block
      refine Cut_i (fun st hh => ∃ A2 T2 r, KJ hB hh s14 (bs.flatMap madeB) A0 T0 st.1 A2 T2 ∧ A2[k]? = some (some r) ∧ Box hh q7 (blockV bs[k] p i w) 55 ∧ (st.1 = false → tu1 = false) ∧ ∃ ids ks i2, Ref hh ids ks A2 T2 ∧ ids[i2]? = some r ∧ blockF bs k (roundF bs k ks0) = goF bs[k] i2 (ks, st.1)) (fun J hJ => ?_) ?_
      · cases hx : A1[k]'(by omega) with
        | some r =>
          obtain ⟨i2, e1, e2, _⟩ := r7.isS (n := k) (q := r) (by rw [List.getElem?_eq_getElem (by omega), hx])
          refine j7.w.maps.ixn (by omega) fun a ha => ⟨_, ha, cond_b (fun e => by rw [hx] at e; cases e) (fun _ => Wk_self (hJ _ _ ⟨A1, T1, r, j7, by rw [List.getElem?_eq_getElem (by omega), hx], b7, fun h => h, ids1, _, i2, r7, e2, ?_⟩))⟩
          unfold blockF
          rw [if_pos (rchB_iff.2 hrk), hbk]
          simp only [e1]
          rw [← fl1]
        | none =>
          have hk0 : k = 0 := by
            apply Classical.byContradiction
            intro e
            obtain ⟨r, hr⟩ := hsome e
            rw [List.getElem?_eq_getElem (by omega), hx] at hr
            cases hr
          have hnone : A1[k]? = some none := by rw [List.getElem?_eq_getElem (by omega), hx]
          refine j7.w.maps.ixn (by omega) fun a ha => ⟨_, ha, cond_b (fun _ => ?_) (fun e => by rw [hx] at e; cases e)⟩
          intro r49 hr49
          have l8 := le_upd hr49 (.map #[] 0)
          obtain ⟨j8, hne8⟩ := j7.fresh (t := fun _ => false) hr49 l8
          obtain ⟨rf8, i8⟩ := r7.fresh (t := fun _ => false) hr49 l8 (by rw [upd_self]; simp)
          have ho8 : (h7.upd r49 (.map #[] 0)) r49 = some (.map #[] 0) := upd_self _ _ _
          have b8 := b7.le l8
          generalize h7.upd r49 (.map #[] 0) = h8 at *
          have hB49 : hB r49 = none := (j7.w.le).nil hr49
          refine OwnS.set j8.w.own j8.w.le (i := (k : Int)) (by omega) (by simpa using (by omega : k < A1.length)) fun h9 l9 o9 f9 => ?_
          have o9 : OwnS hB h9 s14 29 1 ((A1.set k (some r49)).map Value.map) := by rw [List.map_set]; simpa using o9
          obtain ⟨k9, hr9⟩ := j8.w.put (by omega) ho8 (by rw [upT_self]; exact SetRep.empty) hB49 (fun v hv => by rw [upT_self] at hv; cases hv) (fun _ v => by rw [upT_self]) l9 o9 f9
          have hmu := mu_put (U := bs.flatMap madeB) (T := upT T1 r49 fun _ => false) (r2 := r49) hnone
          have b9 : Box h9 q7 (blockV bs[k] p i w) 55 := by
            refine (f9 q7 fun a ha e => ?_).trans b8
            obtain ⟨_, arr, harr⟩ := j1.w.own.blk ha
            rw [← e, hr7] at harr; cases harr
          have live9 : ∀ q, h8 q ≠ none → h9 q ≠ none := fun q hq => by
            by_cases e : ∃ a, s14.a = some a ∧ q = a.block
            · obtain ⟨a, ha, rfl⟩ := e
              obtain ⟨_, arr, harr⟩ := o9.blk ha
              rw [harr]; simp
            · rw [f9 q fun a ha x => e ⟨a, ha, x⟩]; exact hq
          obtain ⟨rf9, _⟩ := rf8.meet (h' := h9) (n := k) (b := true) (A' := A1.set k (some r49)) i8 (by unfold meetW; rw [hnone]) live9
          refine Wk_self (hJ _ _ ⟨_, _, r49, ⟨k9, by simpa using j8.len, by have := j8.mu; omega, fun _ => by have := j8.mu; omega, fun e => by cases e⟩, by simp [show k < A1.length by omega], b9, fun e => (by cases e), _, _, _, rf9, i8, ?_⟩)
          have hn1 := r7.isN (n := k) hnone
          unfold blockF meetF
          rw [if_pos (rchB_iff.2 hrk), hbk]
          simp only [hn1]
          rw [if_pos hk0]
          subst hk0
          rfl
      · rintro ⟨tu3, u⟩ h9 ⟨A2, T2, r, j2, hr2, b9, htu, ids2, ks2, i2, rf2, hi2, heq2⟩
        have len2 : A2.length = bs.length := j2.len.trans len0
        have hx2 : A2[k]'(by omega) = some r := by rw [List.getElem?_eq_getElem (by omega)] at hr2; exact Option.some.inj hr2
        obtain ⟨ob, hob, hsob⟩ := j2.w.set _ _ hr2
        refine j2.w.maps.ixn (by omega) fun a ha => ⟨some r, by rw [← hx2]; exact ha, (p, i, bs[k].e.kind, bs[k].e.val, w, bs[k].e.trap, ()), b9.cells, ?_⟩
        refine c_after hob hsob (hp.le mono_int j2.w.le) (hi.le mono_ins j2.w.le) fun r' o' h10 l10 hn' ho' hs' => ⟨_, rfl, w, by rw [Addr.add_add]; exact (b9.le l10).cell rfl, ?_⟩
        obtain ⟨j3, hne3⟩ := j2.fresh (t := afterD (T2 r) bs[k]) hn' l10
        obtain ⟨rf3, hi3⟩ := rf2.fresh (t := afterD (T2 r) bs[k]) hn' l10 (by rw [ho']; simp)
        have hB' : hB r' = none := j2.w.le.nil hn'
        have hU' := made_mem hbm (j2.w.inU _ _ hr2)
        refine Lp_count bs[k].e.ways.length (fun j st hh => ∃ A T, KJ hB hh s14 (bs.flatMap madeB) A0 T0 st.1 A T ∧ st.2 = ((j : Int), ()) ∧ T r' = afterD (T2 r) bs[k] ∧ (∃ o, hh r' = some o ∧ SetRep o (T r')) ∧
            (st.1 = false → tu3 = false ∧ ∀ v ∈ bs[k].e.ways.take j, wayFix A0 T0 (afterD (T2 r) bs[k]) v) ∧
            Ref hh (ids2 ++ [r']) ((bs[k].e.ways.take j).foldl (waysF ks2.S.length) (⟨ks2.A, ks2.S ++ [afterD (T2 r) bs[k]]⟩, tu3)).1 A T ∧ ((bs[k].e.ways.take j).foldl (waysF ks2.S.length) (⟨ks2.A, ks2.S ++ [afterD (T2 r) bs[k]]⟩, tu3)).2 = st.1)
          ⟨A2, _, j3, rfl, upT_self _ _ _, ⟨o', ho', by rw [upT_self]; exact hs'⟩, fun e => ⟨e, by simp⟩, rf3, rfl⟩ ?_
        rintro j ⟨tu4, jj, u⟩ h11 K2 hj ⟨A4, T4, j4, hj2, hT4, ⟨o4, ho4, hs4⟩, hf4, rf4, fl4⟩ hK2
        obtain ⟨rfl, -⟩ := hj2
        refine cond_dec (fun hlt => ?_) (fun hge => ?_)
        · have hj' : j < bs[k].e.ways.length := by have := hw.len; simp only at hlt; omega
          have hwm : bs[k].e.ways[j] ∈ bs[k].e.ways := List.getElem_mem hj'
          obtain ⟨hto1, hto2⟩ := hto _ hbm _ hwm
          have len4 : A4.length = bs.length := j4.len.trans len0
          refine elem_edge hw j4.w.le hj' rfl rfl fun q hq r10 h13 l13 l13' hr10 b10 => ⟨_, b10.cell rfl, ?_⟩
          have j5 := j4.view l13'
          refine c_meet j5.w hto1 (by omega) (l13' _ _ ho4) hs4 hB' (by rw [hT4]; exact hU') fun h14 A5 T5 tb em5 live5 k5 hr5 hT5 len5 hlt5 heq5 => ⟨_, rfl, ?_⟩
          obtain ⟨rf5, fl5⟩ := (rf4.le l13').meet (n := bs[k].e.ways[j].to.toNat) hi3 em5 live5
          have fold5 : (bs[k].e.ways.take (j + 1)).foldl (waysF ks2.S.length) (⟨ks2.A, ks2.S ++ [afterD (T2 r) bs[k]]⟩, tu3) = waysF ks2.S.length ((bs[k].e.ways.take j).foldl (waysF ks2.S.length) (⟨ks2.A, ks2.S ++ [afterD (T2 r) bs[k]]⟩, tu3)) bs[k].e.ways[j] := foldl_take _ _ _ hj'
          have keep : muA (bs.flatMap madeB) A5 T5 ≤ muA (bs.flatMap madeB) A4 T4 := by
            cases tb with
            | true => exact Nat.le_of_lt (hlt5 rfl)
            | false => obtain ⟨e1, e2, _⟩ := heq5 rfl; rw [e1, e2]; exact Nat.le_refl _
          have hT5' : T5 r' = afterD (T2 r) bs[k] := hT5.trans hT4
          refine cond_b (fun hy => ?_) (fun hn => ?_)
          · have hy : tb = true := hy
            have := j4.mu
            have := hlt5 hy
            exact Wk_self (hK2 _ _ hj' ⟨A5, T5, ⟨k5, len5.trans j4.len, by omega, fun _ => by omega, fun e => by cases e⟩, by rw [wnat hj' hw.bd], hT5', hr5, fun e => (by cases e), by rw [fold5]; exact rf5, by rw [fold5]; show (_ || _) = true; rw [fl5, hy, Bool.or_true]⟩)
          · have hn : tb = false := hn
            obtain ⟨e1, e2, r1, hr1, hsub⟩ := heq5 hn
            subst e1 e2
            refine Wk_self (hK2 _ _ hj' ⟨A5, T5, ⟨k5, j4.len, j4.mu, j4.lt, j4.eq⟩, by rw [wnat hj' hw.bd], hT4, hr5, fun e => ⟨(hf4 e).1, fun v hv => ?_⟩, by rw [fold5]; exact rf5, by rw [fold5]; show (_ || _) = tu4; rw [fl5, hn, Bool.or_false]; exact fl4⟩)
            rw [List.take_succ_eq_append_getElem hj'] at hv
            rcases List.mem_append.1 hv with g | g
            · exact (hf4 e).2 v g
            · rw [List.mem_singleton.1 g]
              obtain ⟨g1, g2⟩ := j4.eq e
              subst g1
              refine ⟨r1, hr1, fun v hv => ?_⟩
              rw [← hT4]
              exact hsub v (by rw [g2 _ _ hr1]; exact hv)
        · have : j = bs[k].e.ways.length := by have := hw.len; simp only at hge; omega
          subst this
          rw [List.take_of_length_le (Nat.le_refl _)] at hf4 rf4 fl4
          have er : roundF bs (k + 1) ks0 = bs[k].e.ways.foldl (waysF ks2.S.length) (⟨ks2.A, ks2.S ++ [afterD (T2 r) bs[k]]⟩, tu3) := by
            show blockF bs k (roundF bs k ks0) = _
            rw [heq2]
            unfold goF
            rw [rf2.t _ _ hi2]
          refine Wk_self (hK1 _ _ hk' ⟨A4, T4, j4, by rw [wnat hk' hs.bd], fun e b bk hb hr hbk' => ?_, _, by rw [er]; exact rf4, by rw [er]; exact fl4⟩)
          obtain ⟨e3, hways⟩ := hf4 e
          rcases Nat.lt_or_ge b k with g | g
          · exact hf1 (htu e3) b bk g hr hbk'
          · have eb : b = k := by omega
            subst eb
            rw [hbk] at hbk'
            cases hbk'
            obtain ⟨g1, g2⟩ := j2.eq e3
            subst g1
            refine ⟨fun e0 => ⟨r, by rw [← e0]; exact hr2⟩, fun q hq v hv => ?_⟩
            rw [hr2] at hq
            cases hq
            have := hways v hv
            rw [g2 _ _ hr2] at this
            exact this
  · have : k = bs.length := by have := hs.len; simp only at hge; omega
    subst this
    have fl1 : (roundF bs bs.length ks0).2 = tu1 := fl1
    refine Wk_self (hK (if tu1 then n - 1 else 0) _ _ ?_ ⟨A1, T1, j1.w, j1.len.trans len0, fun e => ?_, fun e => ?_, ids1, _, rf1, fun e f hf => go0 ht f (.go (fl1.trans e) hf), fun e => go0 ht _ (.stop (fl1.trans e))⟩)
    · split <;> omega
    · have e : tu1 = true := e
      rw [if_pos e]
      have := j1.lt e
      omega
    · have e : tu1 = false := e
      obtain ⟨g1, g2⟩ := j1.eq e
      subst g1
      intro b bk hr hbk
      have hb : b < bs.length := (List.getElem?_eq_some_iff.1 hbk).1
      have := hf1 e b bk hb hr hbk
      refine ⟨this.1, fun r hr v hv => ?_⟩
      obtain ⟨r1, h1, h2⟩ := this.2 r hr v hv
      refine ⟨r1, h1, fun v hv => ?_⟩
      rw [g2 _ _ h1] at hv
      rw [g2 _ _ hr]
      exact h2 v hv
end Go.Proofs.Ytaefmhephoilmaa
