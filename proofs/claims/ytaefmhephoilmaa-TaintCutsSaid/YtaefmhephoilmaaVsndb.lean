/- Operation by operation, second part: slices, maps, structs. -/
import Derived.Test.YtaefmhephoilmaaVsnda
namespace Go.VL
open Go

section
variable {P : Program} {nt : Nat} {E : Env} {o : Oper} {a : Act} {w : World} {h : V} {K : Value → V → Prop} {next : Act → World → Prop} {Q : Exit → Act → World → Prop}

theorem layT_under {t : TypeId} {l : Ly} (hl : layT P t = some l) : ∃ d, P.underlying t = some d := by
  unfold layT at hl
  split at hl
  · rename_i hd; exact ⟨_, hd⟩
  · rename_i hd; exact ⟨_, hd⟩
  · rename_i hd; exact ⟨_, hd⟩
  · rename_i hd; exact ⟨_, hd⟩
  · cases hl
theorem snd_field {t : TypeId} {x : Operand} {i : Nat} (ho : o.op = .field t x i) (hn : Nx o a w K next) (g : Agr nt a E) (s : Sees w h) {r : R} (hr : rsv P E o = some r) (hk : r.run P h K) : o.wp P a w next Q := by
  simp only [rsv, ho] at hr
  split at hr
  case h_2 => cases hr
  rename_i fs cs h1 h2
  split at hr
  case h_2 => cases hr
  rename_i f hf
  split at hr
  case h_2 => cases hr
  rename_i d hd
  simp only [Option.map_eq_some_iff] at hr
  obtain ⟨v, hv, rfl⟩ := hr
  refine fin_value hn ?_ s (Kept.refl w) hk
  simp only [execOp, ho]
  refine run_v ?_
  have hf' : fs[i]? = some f := by simpa using hf
  simp [Instr.field, run_underlying h1, hf', g.ev h2, asAgg, run_part ⟨d, hd⟩ hv]
theorem snd_indexAddr {t : TypeId} {x y : Operand} (ho : o.op = .indexAddr t x y) (hn : Nx o a w K next) (g : Agr nt a E) (s : Sees w h) {r : R} (hr : rsv P E o = some r) (hk : r.run P h K) : o.wp P a w next Q := by
  simp only [rsv, ho] at hr
  split at hr
  · rename_i e q n c k i h1 h2 h3
    split at hr
    case h_2 => cases hr
    rename_i inf hi
    cases hr
    obtain ⟨ad, rfl, h0, hlt, hK⟩ := hk
    refine fin_value hn ?_ s (Kept.refl w) hK
    simp only [execOp, ho]
    refine run_v ?_
    simp only [g.ev h2, g.ev h3, Instr.indexAt, asIntOf, Sem.run_bind, Sem.run_pure, Result.andThen_ok, run_underlying h1]
    have : 0 ≤ i ∧ i < (n : Int) := ⟨h0, hlt⟩
    simp [this, run_sizeOf hi]
  · rename_i e n ad k i h1 h2 h3
    split at hr
    case h_2 => cases hr
    rename_i inf hi
    cases hr
    obtain ⟨hb, hK⟩ := hk
    refine fin_value hn ?_ s (Kept.refl w) hK
    simp only [execOp, ho]
    refine run_v ?_
    simp only [g.ev h2, g.ev h3, Instr.indexAt, asIntOf, Sem.run_bind, Sem.run_pure, Result.andThen_ok, run_underlying h1]
    simp [hb, run_sizeOf hi, Instr.sureAddr]
  · cases hr
theorem snd_extract {x : Operand} {i : Nat} (ho : o.op = .extract x i) (hn : Nx o a w K next) (g : Agr nt a E) (s : Sees w h) {r : R} (hr : rsv P E o = some r) (hk : r.run P h K) : o.wp P a w next Q := by
  simp only [rsv, ho] at hr
  split at hr
  case h_2 => cases hr
  rename_i vs hv
  split at hr
  case h_2 => cases hr
  rename_i v l h1 h2
  cases hr
  have hv' : vs[i]? = some v := by simpa using h1
  have key : ∃ x : l.T, v = l.mk x ∧ K (l.mk x) h := by
    have kK : ∀ (k : Kd) (v : Value) (f : k.T → Prop), unK k v f → ∃ x, v = k.mk x ∧ f x := by
      intro k v f hf
      cases k with
      | int k =>
        cases v <;> simp only [unK] at hf
        split at hf
        · rename_i e _; subst e; exact ⟨_, rfl, hf⟩
        · exact hf.elim
      | raw => exact ⟨v, rfl, hf⟩
      | _ => cases v <;> first | exact hf.elim | exact ⟨_, rfl, hf⟩
    have kKs : ∀ (ks : List Kd) (vs : List Value) (f : Tys ks → Prop), unKs ks vs f → ∃ x, vs = mks ks x ∧ f x := by
      intro ks
      induction ks with
      | nil => intro vs f hf; cases vs with
        | nil => exact ⟨(), rfl, hf⟩
        | cons => exact hf.elim
      | cons k ks ih =>
        intro vs f hf
        cases vs with
        | nil => exact hf.elim
        | cons v vs =>
          obtain ⟨x, rfl, hx⟩ := kK k v _ hf
          obtain ⟨s, rfl, hs⟩ := ih vs _ hx
          exact ⟨(x, s), rfl, hs⟩
    cases l with
    | one k => exact kK k v _ hk
    | agg ks =>
      cases v <;> first | exact (show False from hk).elim | skip
      rename_i cs
      obtain ⟨x, hx, hK⟩ := kKs ks cs.toList _ hk
      exact ⟨x, by show Value.agg cs = Value.agg ⟨mks ks x⟩; rw [← hx], hK⟩
  obtain ⟨x, rfl, hK⟩ := key
  refine fin_value hn ?_ s (Kept.refl w) hK
  simp only [execOp, ho]
  refine run_v ?_
  simp [Instr.extract, g.ev hv, hv']
theorem snd_slice {t : TypeId} {x : Operand} {lo hi mx : Option Operand} (ho : o.op = .slice t x lo hi mx) (hn : Nx o a w K next) (g : Agr nt a E) (s : Sees w h) {r : R} (hr : rsv P E o = some r) (hk : r.run P h K) : o.wp P a w next Q := by
  have evo_ : ∀ {x : Option Operand} {n : Option Int}, evo E x = some n → (∃ k : Int → Value, (∀ i, ∃ kk, k i = .int kk i) ∧ x.map a.eval = n.map k) := by
    intro x n hx
    cases x with
    | none => simp only [evo, Option.some.injEq] at hx; subst hx; exact ⟨fun i => .int .i64 i, fun i => ⟨_, rfl⟩, rfl⟩
    | some x =>
      simp only [evo] at hx
      split at hx
      · rename_i k m hm
        cases hx
        exact ⟨fun i => .int k i, fun i => ⟨_, rfl⟩, by simp [g.ev hm]⟩
      · cases hx
  simp only [rsv, ho] at hr
  split at hr
  case h_2 => cases hr
  rename_i e q n c l h' m h1 h2 h3 h4 h5
  split at hr
  case h_2 => cases hr
  rename_i inf hinf
  cases hb : (mx.isSome && !hi.isSome) with
  | true => rw [hb] at hr; simp at hr
  | false =>
    rw [hb] at hr
    simp only [cond_false, Option.some.injEq] at hr
    subst hr
    obtain ⟨k0, k1, k2, k3, hK⟩ := hk
    obtain ⟨fl, fl1, fl2⟩ := evo_ h3
    obtain ⟨fh, fh1, fh2⟩ := evo_ h4
    obtain ⟨fm, fm1, fm2⟩ := evo_ h5
    refine fin_value hn ?_ s (Kept.refl w) hK
    simp only [execOp, ho]
    refine run_v ?_
    have bound : ∀ (f : Int → Value) (i : Int) (y : Nat) (cd : BoundsCode), (∃ kk, f i = .int kk i) → 0 ≤ i → i ≤ y → (Instr.sliceBound (f i) y cd).run P w = .ok i.toNat w := by
      intro f i y cd hf hi0 hiy
      obtain ⟨kk, hkk⟩ := hf
      simp [Instr.sliceBound, hkk, asIntOf, hi0, hiy]
    rw [g.ev h2, fl2, fh2, fm2]
    have hmx : mx.isSome = m.isSome := by have := congrArg Option.isSome fm2; simpa using this
    have hhi : hi.isSome = h'.isSome := by have := congrArg Option.isSome fh2; simpa using this
    rw [hmx, hhi] at hb
    have main : (Instr.sliceBounds true n c (l.map fl) (h'.map fh) (m.map fm)).run P w = .ok (((l.getD 0).toNat), ((h'.getD n).toNat), ((m.getD c).toNat)) w := by
      cases m with
      | none =>
        simp only [Option.getD_none] at k2 k3
        cases h' with
        | none =>
          simp only [Option.getD_none] at k1 k2
          cases l with
          | none => simp [Instr.sliceBounds]
          | some l =>
            simp only [Option.getD_some] at k0 k1
            simp [Instr.sliceBounds, bound fl l n .sliceB (fl1 l) k0 k1]
        | some h' =>
          simp only [Option.getD_some] at k1 k2
          cases l with
          | none =>
            simp only [Option.getD_none] at k1
            simp [Instr.sliceBounds, bound fh h' c .sliceAcap (fh1 h') k1 k2]
          | some l =>
            simp only [Option.getD_some] at k0 k1
            have e1 : ((h'.toNat : Nat) : Int) = h' := Int.toNat_of_nonneg (by omega)
            simp [Instr.sliceBounds, bound fh h' c .sliceAcap (fh1 h') (by omega) k2, bound fl l h'.toNat .sliceB (fl1 l) k0 (by omega)]
      | some m =>
        cases h' with
        | none => simp at hb
        | some h' =>
          simp only [Option.getD_some] at k1 k2 k3
          have em : ((m.toNat : Nat) : Int) = m := by
            refine Int.toNat_of_nonneg ?_
            have : 0 ≤ l.getD 0 := k0
            omega
          have eh : ((h'.toNat : Nat) : Int) = h' := by
            refine Int.toNat_of_nonneg ?_
            have : 0 ≤ l.getD 0 := k0
            omega
          have b1 := bound fm m c .slice3Acap (fm1 m) (by omega) k3
          have b2 := bound fh h' m.toNat .slice3B (fh1 h') (by omega) (by omega)
          cases l with
          | none => simp [Instr.sliceBounds, b1, b2]
          | some l =>
            simp only [Option.getD_some] at k0 k1
            simp [Instr.sliceBounds, b1, b2, bound fl l h'.toNat .slice3C (fl1 l) k0 (by omega)]
    simp only [Instr.sliceAt, Sem.run_bind, run_underlying h1, Result.andThen_ok, Instr.slice, main, run_sizeOf hinf, Sem.run_pure, cellsN_of hinf]
theorem madeEq (z : List Value) (m : Nat) : ((List.range (m * z.length)).map fun i => (z.toArray)[i % z.length]!) = (List.replicate m z).flatten := by
  rcases Nat.eq_zero_or_pos z.length with h0 | h0
  · have : z = [] := List.eq_nil_of_length_eq_zero h0
    subst this
    simp
  · apply List.ext_getElem
    · simp [List.length_flatten]
    · intro i h1 h2
      simp only [List.getElem_map, List.getElem_range]
      have hi : i % z.length < z.length := Nat.mod_lt _ h0
      induction m generalizing i with
      | zero => simp at h1
      | succ m ih =>
        simp only [List.replicate_succ, List.flatten_cons]
        by_cases hlt : i < z.length
        · rw [List.getElem_append_left hlt]
          simp [Nat.mod_eq_of_lt hlt, hlt]
        · rw [List.getElem_append_right (by omega)]
          have := ih (i - z.length) (by simp only [List.length_map, List.length_range, Nat.succ_mul] at h1 ⊢; omega) (by simp only [List.replicate_succ, List.flatten_cons, List.length_append] at h2; omega) (Nat.mod_lt _ h0)
          rw [← this]
          have e : i % z.length = (i - z.length) % z.length := by rw [Nat.mod_eq_sub_mod (by omega)]
          rw [e]
theorem madeEq' (z : Array Value) (m n : Nat) (hn : n = m * z.size) : ((Array.range n).map fun i => z[i % z.size]!) = ⟨(List.replicate m z.toList).flatten⟩ := by
  subst hn
  apply Array.ext'
  have := madeEq z.toList m
  simpa using this
theorem snd_makeSlice {t : TypeId} {x y : Operand} (ho : o.op = .makeSlice t x y) (hn : Nx o a w K next) (g : Agr nt a E) (s : Sees w h) {r : R} (hr : rsv P E o = some r) (hk : r.run P h K) : o.wp P a w next Q := by
  simp only [rsv, ho] at hr
  split at hr
  case h_2 => cases hr
  rename_i e k1 l k2 c h1 h2 h3
  split at hr
  case h_2 => cases hr
  rename_i z hz
  cases hb : (Nat.beq z.cells.size (cellsN P e) && Nat.ble 1 (cellsN P e)) with
  | false => rw [hb] at hr; simp at hr
  | true =>
    rw [hb] at hr
    simp only [cond_true, Option.some.injEq] at hr
    subst hr
    simp only [Bool.and_eq_true] at hb
    have hsz := Nat.eq_of_beq_eq_true hb.1
    have hpos : 1 ≤ cellsN P e := Nat.le_of_ble_eq_true hb.2
    obtain ⟨j0, j1, j2, j3, hK⟩ := hk
    obtain ⟨h0, s'⟩ := s.new (.cells ⟨(List.replicate c.toNat z.cells.toList).flatten⟩ e)
    have hi : ∃ i, P.info? e = some i := by
      cases hi : P.info? e with
      | none => simp [cellsN, hi] at hpos
      | some i => exact ⟨i, rfl⟩
    obtain ⟨i, hi⟩ := hi
    refine fin_value hn ?_ s' ⟨rfl, rfl, rfl⟩ (hK _ h0)
    simp only [execOp, ho]
    refine run_v ?_
    rw [cellsN_of hi] at hsz
    rw [bytesN_of hi] at j2
    have wl : IntKind.i64.wrap l = l := by unfold IntKind.wrap; simp [IntKind.bits, IntKind.signed]; omega
    have wc : IntKind.i64.wrap c = c := by unfold IntKind.wrap; simp [IntKind.bits, IntKind.signed]; omega
    have t1 : (decide (c < 0) || decide ((i.bytes : Int) * c > 2 ^ 48)) = false := by
      simp only [Bool.or_eq_false_iff, decide_eq_false_iff_not]
      refine ⟨by omega, ?_⟩
      have : (2 : Int) ^ 48 = 281474976710656 := by decide
      omega
    have hmade := madeEq' z.cells c.toNat (c.toNat * i.size) (by rw [hsz])
    simp only [Instr.makeSlice, Sem.run_bind, run_underlying h1, Result.andThen_ok, g.ev h2, g.ev h3, asInt, asIntOf, Sem.run_pure, run_typeInfo hi, wl, wc, t1, run_askRoom, run_sizeOf hi]
    have t2 : (false || decide (l < 0) || decide (l > c)) = false := by simp; omega
    simp only [t2, Bool.false_eq_true, if_false, Sem.run_bind, Sem.run_pure, Result.andThen_ok, run_askRoom]
    by_cases hc0 : c.toNat * i.size = 0
    · simp only [run_sizeOf hi, Result.andThen_ok, hc0, if_true, Sem.run_bind, Sem.run_pure]
      have : c.toNat = 0 := by
        rcases Nat.mul_eq_zero.1 hc0 with h | h
        · exact h
        · rw [cellsN_of hi] at hpos; omega
      simp [newRow, this]
      congr 2
      apply Array.ext'
      simp
    · simp only [run_sizeOf hi, Result.andThen_ok, hc0, if_false, Sem.run_bind, run_zeroT hz, Sem.run_pure]
      simp [newRow, hmade]
end
end Go.VL
