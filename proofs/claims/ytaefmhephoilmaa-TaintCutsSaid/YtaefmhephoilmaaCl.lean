/- Contracts of package taint: arrays and returns that are raised. -/
import Derived.Test.YtaefmhephoilmaaCk
namespace Go.Proofs.Ytaefmhephoilmaa
open Go Go.VL

theorem OwnS.st {h0 h : V} {s : Sl} {T : TypeId} {cs : List Value} {K : V → Prop} (o : OwnS h0 h s T 1 cs) (l : Le h0 h) {i : Int} {v : Value} {a0 : Addr} (ha : s.a = some a0) (hi0 : 0 ≤ i) (hi : i.toNat < cs.length)
    (hk : ∀ h', Le h0 h' → OwnS h0 h' s T 1 (cs.set i.toNat v) → (∀ b, (∀ a, s.a = some a → b ≠ a.block) → h' b = h b) → K h') : StL h (a0.add (i.toNat * 1)) 0 [v] K := by
  obtain ⟨a1, h1, _, _, h2⟩ := OwnS.set o l hi0 hi hk
  rw [ha] at h1
  cases h1
  exact h2
section
variable {hB hh h' : V} {p : ProgD} {r : Nat} {sa sf vs ar rs cs ws : Sl} {ids : List Nat} {L : LabF} {tu : Bool} {cut : CutF} {wr : List Bool} {R : Value → V → Prop}
theorem SolW.puta (k : SolW hB hh p r sa sf vs ar rs cs ws ids L tu) {l : List Int} {i : Nat} {x : Int} (o : OwnS hB hh ar 42 1 (l.map (Value.int .i64))) (hl : l.length = p.arrays.length) (hi : i < l.length) (hg : ∀ (j : Nat) y, l[j]? = some y → y = L (.arr j))
    (l' : Le hB h') (o' : OwnS hB h' ar 42 1 ((l.set i x).map (Value.int .i64))) (f' : ∀ b, (∀ a, ar.a = some a → b ≠ a.block) → h' b = hh b) : SolW hB h' p r sa sf vs ar rs cs ws ids (putL L (.arr i) x) tu := by
  refine ⟨l', (f' r fun a ha e => k.nea o ha e.symm).trans k.box, k.newr, fun f q hq => ⟨(k.maps f q hq).1, ?_⟩, ⟨_, o', by simpa using hl, fun j y hy => ?_⟩, ?_, k.dis⟩
  · obtain ⟨_, ob, m, g1, g2, g3⟩ := k.maps f q hq
    exact ⟨ob, m, (f' q fun a ha e => k.nes hq o ha e.symm).trans g1, g2, fun v => by rw [putL_ne (fun e => by cases e)]; exact g3 v⟩
  · rw [List.getElem?_set] at hy
    by_cases e : i = j
    · subst e
      rw [if_pos rfl, if_pos hi] at hy
      cases hy
      rw [putL_self]
    · rw [if_neg e] at hy
      rw [putL_ne (fun g => e (by cases g; rfl))]
      exact hg j y hy
  · obtain ⟨z, g1, g2, g3⟩ := k.rets
    exact ⟨z, g1.frame fun a ob ha hob => (f' _ fun a2 ha2 e => k.dis a2 a ha2 ha e.symm).trans hob, g2, fun j y hy => by rw [putL_ne (fun e => by cases e)]; exact g3 j y hy⟩
theorem SolW.putr (k : SolW hB hh p r sa sf vs ar rs cs ws ids L tu) {l : List Int} {i : Nat} {x : Int} (o : OwnS hB hh rs 42 1 (l.map (Value.int .i64))) (hl : l.length = p.funcs.length) (hi : i < l.length) (hg : ∀ (j : Nat) y, l[j]? = some y → y = L (.ret j))
    (l' : Le hB h') (o' : OwnS hB h' rs 42 1 ((l.set i x).map (Value.int .i64))) (f' : ∀ b, (∀ a, rs.a = some a → b ≠ a.block) → h' b = hh b) : SolW hB h' p r sa sf vs ar rs cs ws ids (putL L (.ret i) x) tu := by
  refine ⟨l', (f' r fun a ha e => k.nea o ha e.symm).trans k.box, k.newr, fun f q hq => ⟨(k.maps f q hq).1, ?_⟩, ?_, ⟨_, o', by simpa using hl, fun j y hy => ?_⟩, k.dis⟩
  · obtain ⟨_, ob, m, g1, g2, g3⟩ := k.maps f q hq
    exact ⟨ob, m, (f' q fun a ha e => k.nes hq o ha e.symm).trans g1, g2, fun v => by rw [putL_ne (fun e => by cases e)]; exact g3 v⟩
  · obtain ⟨z, g1, g2, g3⟩ := k.arrs
    exact ⟨z, g1.frame fun a ob ha hob => (f' _ fun a2 ha2 e => k.dis a a2 ha ha2 e).trans hob, g2, fun j y hy => by rw [putL_ne (fun e => by cases e)]; exact g3 j y hy⟩
  · rw [List.getElem?_set] at hy
    by_cases e : i = j
    · subst e
      rw [if_pos rfl, if_pos hi] at hy
      cases hy
      rw [putL_self]
    · rw [if_neg e] at hy
      rw [putL_ne (fun g => e (by cases g; rfl))]
      exact hg j y hy
theorem mset_int {l : List Int} {n : Nat} {x : Int} : (l.map (Value.int .i64)).set n (.int .i64 x) = (l.set n x).map (Value.int .i64) := by rw [List.map_set]
theorem imap_get {l : List Int} {i : Nat} {x : Int} (h : l[i]? = some x) : (l.map (Value.int .i64))[i]? = some (.int .i64 x) := by rw [List.getElem?_map, h]; rfl
/- where an array's label is; and that it's raised -/
theorem SolW.atArr (k : SolW hB hh p r sa sf vs ar rs cs ws ids L tu) {i : Int} (h0 : 0 ≤ i) (hi : i.toNat < p.arrays.length) : ∃ a0, ar.a = some a0 ∧ i < ar.n ∧ cellq hh (a0.add (i.toNat * 1)) = some (iV (L (.arr i.toNat))) := by
  obtain ⟨l, o, hl, hg⟩ := k.arrs
  have hi' : i.toNat < l.length := by omega
  obtain ⟨a0, ha, hc⟩ := o.cell (imap_get (List.getElem?_eq_getElem hi'))
  have := o.1
  simp at this
  refine ⟨a0, ha, by omega, ?_⟩
  rw [Nat.mul_one, hc, hg i.toNat _ (List.getElem?_eq_getElem hi')]
theorem SolW.atRet (k : SolW hB hh p r sa sf vs ar rs cs ws ids L tu) {i : Int} (h0 : 0 ≤ i) (hi : i.toNat < p.funcs.length) : ∃ a0, rs.a = some a0 ∧ i < rs.n ∧ cellq hh (a0.add (i.toNat * 1)) = some (iV (L (.ret i.toNat))) := by
  obtain ⟨l, o, hl, hg⟩ := k.rets
  have hi' : i.toNat < l.length := by omega
  obtain ⟨a0, ha, hc⟩ := o.cell (imap_get (List.getElem?_eq_getElem hi'))
  have := o.1
  simp at this
  refine ⟨a0, ha, by omega, ?_⟩
  rw [Nat.mul_one, hc, hg i.toNat _ (List.getElem?_eq_getElem hi')]
theorem c_raise_arr {i to : Int} {a0 : Addr} (k : SolW hB hh p r sa sf vs ar rs cs ws ids L tu) (h0 : 0 ≤ i) (hi : i.toNat < p.arrays.length) (ha : ar.a = some a0)
    (hR : ∀ h', SolW hB h' p r sa sf vs ar rs cs ws ids (stepC (L, tu) ⟨.arr i.toNat, fun _ => to⟩).1 (stepC (L, tu) ⟨.arr i.toNat, fun _ => to⟩).2 → R (.tuple ⟨[]⟩) h') :
    ACalls Try.prog 37 [.pointer (some ⟨r, 0, none⟩), .pointer (some (a0.add (i.toNat * 1))), iV to] hh R := by
  obtain ⟨a1, ha1, _, hc⟩ := k.atArr h0 hi
  rw [ha] at ha1
  cases ha1
  obtain ⟨l, o, hl, hg⟩ := k.arrs
  unfold stepC at hR
  refine S37_ok _ _ _ _ _ ⟨_, hc, cond_dec (fun hlt => ?_) (fun hge => ?_)⟩
  · have hlt : L (.arr i.toNat) < to := hlt
    simp only [hlt, if_true] at hR
    refine OwnS.st o k.le ha h0 (by simp; omega) fun h2 l2 o2 f2 => ?_
    rw [mset_int] at o2
    exact (k.puta o hl (by omega) hg l2 o2 f2).turn fun h3 k3 _ => Wk_self (hR h3 k3)
  · have hge : ¬ L (.arr i.toNat) < to := hge
    simp only [hge, if_false] at hR
    exact Wk_self (hR hh k)
theorem c_raise_ret {i to : Int} {a0 : Addr} (k : SolW hB hh p r sa sf vs ar rs cs ws ids L tu) (h0 : 0 ≤ i) (hi : i.toNat < p.funcs.length) (ha : rs.a = some a0)
    (hR : ∀ h', SolW hB h' p r sa sf vs ar rs cs ws ids (stepC (L, tu) ⟨.ret i.toNat, fun _ => to⟩).1 (stepC (L, tu) ⟨.ret i.toNat, fun _ => to⟩).2 → R (.tuple ⟨[]⟩) h') :
    ACalls Try.prog 37 [.pointer (some ⟨r, 0, none⟩), .pointer (some (a0.add (i.toNat * 1))), iV to] hh R := by
  obtain ⟨a1, ha1, _, hc⟩ := k.atRet h0 hi
  rw [ha] at ha1
  cases ha1
  obtain ⟨l, o, hl, hg⟩ := k.rets
  unfold stepC at hR
  refine S37_ok _ _ _ _ _ ⟨_, hc, cond_dec (fun hlt => ?_) (fun hge => ?_)⟩
  · have hlt : L (.ret i.toNat) < to := hlt
    simp only [hlt, if_true] at hR
    refine OwnS.st o k.le ha h0 (by simp; omega) fun h2 l2 o2 f2 => ?_
    rw [mset_int] at o2
    exact (k.putr o hl (by omega) hg l2 o2 f2).turn fun h3 k3 _ => Wk_self (hR h3 k3)
  · have hge : ¬ L (.ret i.toNat) < to := hge
    simp only [hge, if_false] at hR
    exact Wk_self (hR hh k)
end
end Go.Proofs.Ytaefmhephoilmaa
