/- Operation by operation, last part: literals, builtins, calls. -/
import Derived.Test.YtaefmhephoilmaaVsndc
namespace Go.VL
open Go Go.MapKept

section
variable {P : Program} {nt : Nat} {E : Env} {o : Oper} {a : Act} {w : World} {h : V} {K : Value → V → Prop} {next : Act → World → Prop} {Q : Exit → Act → World → Prop}

theorem map_evp (g : Agr nt a E) {ps : Array (Nat × Operand)} {vs : List (Nat × Value)} (h : evp E ps.toList = some vs) : (ps.map fun (i, x) => (i, a.eval x)).toList = vs := by
  rw [Array.toList_map]
  exact g.evp h
theorem run_places {fs : List Field} (hall : ∀ f ∈ fs, ∃ i, P.info? f.type = some i) : (fs.mapM fun f => do pure (f.offset, ← sizeOf f.type) : Sem (List (Nat × Nat))).run P w = .ok (placesT P fs) w := by
  induction fs with
  | nil => simp [placesT]
  | cons f fs ih =>
    obtain ⟨i, hi⟩ := hall f (by simp)
    have ih' := ih fun f hf => hall f (by simp [hf])
    simp only [List.mapM_cons, Sem.run_bind, run_sizeOf hi, Result.andThen_ok, Sem.run_pure, ih']
    simp [placesT, cellsN_of hi]
theorem snd_build {t : TypeId} {ps : Array (Nat × Operand)} (ho : o.op = .build t ps) (hn : Nx o a w K next) (g : Agr nt a E) (s : Sees w h) {r : R} (hr : rsv P E o = some r) (hk : r.run P h K) : o.wp P a w next Q := by
  simp only [rsv, ho] at hr
  split at hr
  case h_2 => cases hr
  rename_i fs z vs h1 h2 h3
  cases hall : (fs.toList.all fun f => (P.info? f.type).isSome) with
  | false => rw [hall] at hr; simp at hr
  | true =>
    rw [hall] at hr
    simp only [cond_true, Option.map_eq_some_iff] at hr
    obtain ⟨cs, hcs, rfl⟩ := hr
    refine fin_value hn ?_ s (Kept.refl w) hk
    simp only [execOp, ho]
    refine run_v ?_
    have hall' : ∀ f ∈ fs.toList, ∃ i, P.info? f.type = some i := fun f hf => Option.isSome_iff_exists.1 (List.all_eq_true.1 hall f hf)
    have hp := run_places (P := P) (w := w) hall'
    have hm : (fs.mapM fun f => do pure (f.offset, ← sizeOf f.type) : Sem (Array (Nat × Nat))).run P w = .ok (placesT P fs.toList).toArray w := by
      rw [Array.mapM_eq_mapM_toList]
      simp only [Sem.run_map, hp, Result.andThen_ok]
    have hfill : Instr.fill (fun i => ((placesT P fs.toList).toArray)[i]?) z.cells vs = some cs := by
      simpa using hcs
    simp only [Instr.build, Sem.run_bind, run_zeroT h2, Result.andThen_ok, run_underlying h1, hm, map_evp g h3, hfill, Sem.run_pure]
theorem snd_buildSlice {t : TypeId} {m : Nat} {ps : Array (Nat × Operand)} (ho : o.op = .buildSlice t m ps) (hn : Nx o a w K next) (g : Agr nt a E) (s : Sees w h) {r : R} (hr : rsv P E o = some r) (hk : r.run P h K) : o.wp P a w next Q := by
  simp only [rsv, ho] at hr
  split at hr
  case h_2 => cases hr
  rename_i e vs h1 h2
  split at hr
  case h_2 => cases hr
  rename_i z hz
  cases hb : (Nat.beq z.cells.size (cellsN P e) && Nat.ble 1 (cellsN P e) && Nat.ble (m * cellsN P e) 16777216) with
  | false => rw [hb] at hr; simp at hr
  | true =>
    rw [hb] at hr
    simp only [cond_true, Option.map_eq_some_iff] at hr
    obtain ⟨cs, hcs, rfl⟩ := hr
    simp only [Bool.and_eq_true] at hb
    have hsz := Nat.eq_of_beq_eq_true hb.1.1
    have hpos : 1 ≤ cellsN P e := Nat.le_of_ble_eq_true hb.1.2
    have hle : m * cellsN P e ≤ 16777216 := Nat.le_of_ble_eq_true hb.2
    have hi : ∃ i, P.info? e = some i := by
      cases hi : P.info? e with
      | none => simp [cellsN, hi] at hpos
      | some i => exact ⟨i, rfl⟩
    obtain ⟨i, hi⟩ := hi
    rw [cellsN_of hi] at hsz hle hcs
    refine snd_new hn s hk (x := Instr.buildSlice t m (ps.map fun (i, x) => (i, a.eval x))) (by simp [execOp, ho]) ?_
    have h24 : ¬ (m * i.size > 2 ^ 24) := by omega
    simp only [Instr.buildSlice, Sem.run_bind, run_underlying h1, Result.andThen_ok, run_sizeOf hi, h24, if_false, Sem.run_pure, map_evp g h2]
    by_cases h0 : m * i.size = 0
    · have hm0 : m = 0 := by
        rcases Nat.mul_eq_zero.1 h0 with h | h
        · exact h
        · rw [cellsN_of hi] at hpos; omega
      subst hm0
      have e0 : ((Array.range (0 * i.size)).map fun x => (#[] : Array Value)[x % (#[] : Array Value).size]!) = (⟨(List.replicate 0 z.cells.toList).flatten⟩ : Array Value) := by
        apply Array.ext'; simp
      have h0' : 0 * i.size = 0 := Nat.zero_mul _
      simp only [h0', if_true, Sem.run_pure, Result.andThen_ok]
      have e0' : ((Array.range 0).map fun x => (#[] : Array Value)[x % (#[] : Array Value).size]!) = (⟨(List.replicate 0 z.cells.toList).flatten⟩ : Array Value) := by
        apply Array.ext'; simp
      simp only [e0', hcs, newRow, Sem.run_bind, run_newObj, Result.andThen_ok, Sem.run_pure]
    · have hmade := madeEq' z.cells m (m * i.size) (by rw [hsz])
      simp only [h0, if_false, Sem.run_bind, run_zeroT hz, Result.andThen_ok, Sem.run_pure, hmade, hcs, newRow, run_newObj]
theorem run_builtin {b : Builtin} {args : Array Operand} {ts : Array TypeId} (ho : o.op = .call { callee := .builtin b, args := args, argTypes := ts }) {v : Value} {w' : World}
    (hb : (builtin b ts o.type (args.map fun | .const _ => true | _ => false) (args.map a.eval)).run P w = .ok (.value v) w') : (execOp a.eval o).run P w = .ok (.value v) w' := by
  simp only [execOp, ho, resolve, Sem.run_bind, Sem.run_pure, Result.andThen_ok, invoke]
  exact hb
theorem rmax_run : ∀ (r : List Value) (v u : Value), rmax v r = some u → (r.foldlM Builtin.max2 v : Sem Value).run P w = .ok u w
  | [], v, u, h => by simp only [rmax, Option.some.injEq] at h; subst h; simp
  | y :: r, v, u, h => by
    unfold rmax at h
    split at h
    · rename_i e; cases e
    · rename_i e
      injection e with e1 e2
      subst e1; subst e2
      have := rmax_run _ _ _ h
      simp only [List.foldlM_cons, Sem.run_bind, Builtin.max2, Sem.run_pure, Result.andThen_ok]
      exact this
    · cases h
theorem rmin_run : ∀ (r : List Value) (v u : Value), rmin v r = some u → (r.foldlM Builtin.min2 v : Sem Value).run P w = .ok u w
  | [], v, u, h => by simp only [rmin, Option.some.injEq] at h; subst h; simp
  | y :: r, v, u, h => by
    unfold rmin at h
    split at h
    · rename_i e; cases e
    · rename_i e
      injection e with e1 e2
      subst e1; subst e2
      have := rmin_run _ _ _ h
      simp only [List.foldlM_cons, Sem.run_bind, Builtin.min2, Sem.run_pure, Result.andThen_ok]
      exact this
    · cases h
theorem run_first (s : Sees w h) {x : Sl} {sz : Nat} {xs : List Value} (hs : slCells h x sz xs) (h0 : x.a = none → x.n = 0) (n : Nat) (hn : n = x.n) : (Builtin.firstCells sz n (.slice x.a x.n x.c)).run P w = .ok xs.toArray w := by
  subst hn
  obtain ⟨hl, hc⟩ := hs
  cases ha : x.a with
  | none =>
    have : xs = [] := List.eq_nil_of_length_eq_zero (by rw [hl, h0 ha]; simp)
    subst this
    simp [Builtin.firstCells]
  | some ad =>
    have := run_loadCells_view (P := P) s (hc ad ha)
    rw [hl] at this
    simpa [Builtin.firstCells] using this
theorem run_append {t u e ty : TypeId} {x y : Sl} {z : Value} {K : Sl → V → Prop} (s : Sees w h) (h1 : P.underlying t = some (.slice e)) (h2 : isSliceT P u = true) (hz : zeroT P e = some z)
    {i : TypeInfo} (hi : P.info? e = some i) (hsz : z.cells.size = i.size) (hpos : 1 ≤ i.size) (hk : App h x y e i.size i.bytes z.cells.toList K) :
    ∃ v w' h', (Builtin.append_ #[t, u] ty #[.slice x.a x.n x.c, .slice y.a y.n y.c]).run P w = .ok (.slice v.a v.n v.c) w' ∧ Sees w' h' ∧ Kept w w' ∧ K v h' := by
  obtain ⟨xs, hy0, hxs, hone, hroom, hgrow⟩ := hk
  have hu : ∃ e', P.underlying u = some (.slice e') := by
    unfold isSliceT at h2
    split at h2
    · rename_i hd; exact ⟨_, hd⟩
    · cases h2
  obtain ⟨e', hu⟩ := hu
  by_cases hle : x.n + y.n ≤ x.c
  · obtain ⟨r1, r2, r3⟩ := hroom hle
    have hf := run_first (P := P) s hxs hy0 y.n rfl
    cases ha : x.a with
    | none =>
      have hy := r1 ha
      refine ⟨⟨none, x.n + y.n, x.c⟩, w, h, ?_, s, Kept.refl w, by have := r3 ha; rwa [ha] at this⟩
      simp only [Builtin.append_, List.getElem?_toArray, List.getElem?_cons_zero, List.getElem?_cons_succ, Sem.run_bind, run_underlying h1, run_underlying hu, run_sizeOf hi, Result.andThen_ok, Builtin.lenOf, Sem.run_pure, hle, if_true, Bool.false_eq_true, if_false]
      simp [hf]
    | some ad =>
      obtain ⟨w', h', hst, s', k', hK⟩ := run_storeCells_view (P := P) xs 0 w h s hone (r2 ad ha)
      refine ⟨⟨some ad, x.n + y.n, x.c⟩, w', h', ?_, s', k', by rwa [ha] at hK⟩
      simp only [Builtin.append_, List.getElem?_toArray, List.getElem?_cons_zero, List.getElem?_cons_succ, Sem.run_bind, run_underlying h1, run_underlying hu, run_sizeOf hi, Result.andThen_ok, Builtin.lenOf, Sem.run_pure, hle, if_true, Bool.false_eq_true, if_false]
      simp [hf, hst]
  · obtain ⟨hb, hb0, ss, hx0, hss, hK⟩ := hgrow (by omega)
    have hnext : ¬ (Builtin.nextslicecap (x.n + y.n) x.c * i.bytes > 2 ^ 48) := by
      have := growslice_fits (need := x.n + y.n) (old := x.c) (bytes := i.bytes) (by omega) hb
      omega
    have hb' : x.n + y.n ≤ 140737488355328 := by
      refine Nat.le_trans ?_ hb
      exact Nat.le_mul_of_pos_right _ hb0
    have hbytes : ¬ (((x.n + y.n : Nat) : Int) > IntKind.i64.max ∧ (false = true ∨ i.bytes = 0)) := by
      rintro ⟨_, h | h⟩
      · cases h
      · omega
    have sd : Sees { w with drawn := w.drawn + 1 } h := s
    have f1 := run_first (P := P) sd hss hx0 x.n rfl
    have f2 := run_first (P := P) sd hxs hy0 y.n rfl
    obtain ⟨n0, s'⟩ := sd.new (.cells ⟨ss ++ xs ++ (List.replicate (grownCap w (x.n + y.n) x.c e - (x.n + y.n)) z.cells.toList).flatten⟩ e)
    refine ⟨⟨some ⟨w.heap.size, 0, none⟩, x.n + y.n, grownCap w (x.n + y.n) x.c e⟩, _, _, ?_, s', ⟨rfl, rfl, rfl⟩, hK _ _ n0 (grownCap_ge w _ _ _)⟩
    have hzc : Builtin.zeroCells z.cells (grownCap w (x.n + y.n) x.c e - (x.n + y.n)) = ⟨(List.replicate (grownCap w (x.n + y.n) x.c e - (x.n + y.n)) z.cells.toList).flatten⟩ := by
      unfold Builtin.zeroCells
      exact madeEq' z.cells _ _ rfl
    simp only [Builtin.append_, List.getElem?_toArray, List.getElem?_cons_zero, List.getElem?_cons_succ, Sem.run_bind, run_underlying h1, run_underlying hu, run_sizeOf hi, run_typeInfo hi, Result.andThen_ok, Builtin.lenOf, Sem.run_pure, hle, Bool.false_eq_true, if_false, hnext, run_choose, Question.forced, run_askRoom]
    have hcut : (Question.appendCap (x.n + y.n) x.c e).cut (w.tape w.drawn (.appendCap (x.n + y.n) x.c e)) = grownCap w (x.n + y.n) x.c e := rfl
    have hb2 : ¬ (i.bytes = 0) := by omega
    simp only [hcut, false_or, hb2, and_false, if_false, Sem.run_bind, Sem.run_pure, Result.andThen_ok, f1, f2, run_zeroT hz, hzc, newRow, run_newObj, run_typeInfo hi, hnext, run_choose, Question.forced, Bool.false_eq_true, run_askRoom, Bool.not_false, if_true, List.append_toArray]
theorem size_pos_info {t : TypeId} (h : 1 ≤ cellsN P t) : ∃ i, P.info? t = some i := by
  cases hi : P.info? t with
  | none => simp [cellsN, hi] at h
  | some i => exact ⟨i, rfl⟩
theorem snd_builtin {b : Builtin} {args : Array Operand} {ts : Array TypeId} (ho : o.op = .call { callee := .builtin b, args := args, argTypes := ts }) (hn : Nx o a w K next) (g : Agr nt a E) (s : Sees w h) {r : R} (hr : rsv P E o = some r) (hk : r.run P h K) : o.wp P a w next Q := by
  simp only [rsv, ho] at hr
  cases hv : evs E args.toList with
  | none => rw [hv] at hr; simp at hr
  | some vs =>
    rw [hv] at hr
    simp only at hr
    have hargs : args.map a.eval = vs.toArray := by rw [map_toArray, g.evs hv]
    have hts : ts = ts.toList.toArray := by simp
    unfold rbuiltin at hr
    split at hr
    · -- len
      split at hr
      · rename_i t q n c ht
        cases hb : isSliceT P t with
        | false => rw [hb] at hr; simp at hr
        | true =>
          rw [hb] at hr
          simp only [cond_true, Option.some.injEq] at hr
          subst hr
          unfold isSliceT at hb
          split at hb
          case h_2 => cases hb
          rename_i e hd
          refine fin_value hn (run_builtin ho ?_) s (Kept.refl w) hk
          rw [hargs, hts, ht]
          simp [builtin, Builtin.len_, run_underlying hd, goInt]
      · rename_i t q ht
        cases hb : isMapT P t with
        | false => rw [hb] at hr; simp at hr
        | true =>
          rw [hb] at hr
          simp only [cond_true, Option.some.injEq] at hr
          subst hr
          unfold isMapT at hb
          split at hb
          case h_2 => cases hb
          rename_i kt et hd
          cases q with
          | none =>
            refine fin_value hn (run_builtin ho ?_) s (Kept.refl w) hk
            rw [hargs, hts, ht]
            simp [builtin, Builtin.len_, run_underlying hd, goInt]
          | some r =>
            obtain ⟨es, clk, hr, hK⟩ := hk
            refine fin_value hn (run_builtin ho ?_) s (Kept.refl w) hK
            rw [hargs, hts, ht]
            simp [builtin, Builtin.len_, run_underlying hd, goInt, run_getMap s hr]
      · rename_i t b ht
        cases hb : isStrT P t with
        | false => rw [hb] at hr; simp at hr
        | true =>
          rw [hb] at hr
          simp only [cond_true, Option.some.injEq] at hr
          subst hr
          unfold isStrT at hb
          split at hb
          case h_2 => cases hb
          rename_i hd
          refine fin_value hn (run_builtin ho ?_) s (Kept.refl w) hk
          rw [hargs, hts, ht]
          simp [builtin, Builtin.len_, run_underlying hd, goInt]
      · cases hr
    · -- max
      split at hr
      · rename_i v r
        simp only [Option.map_eq_some_iff] at hr
        obtain ⟨u, hu, rfl⟩ := hr
        refine fin_value hn (run_builtin ho ?_) s (Kept.refl w) hk
        rw [hargs]
        simp [builtin, Builtin.max_, rmax_run _ _ _ hu]
      · cases hr
    · split at hr
      · rename_i v r
        simp only [Option.map_eq_some_iff] at hr
        obtain ⟨u, hu, rfl⟩ := hr
        refine fin_value hn (run_builtin ho ?_) s (Kept.refl w) hk
        rw [hargs]
        simp [builtin, Builtin.min_, rmin_run _ _ _ hu]
      · cases hr
    · -- append
      split at hr
      case h_2 => cases hr
      rename_i t u q n c q' n' c' ht
      split at hr
      case h_2 => cases hr
      rename_i e hd
      cases hb : isSliceT P u with
      | false => rw [hb] at hr; simp at hr
      | true =>
        rw [hb] at hr
        simp only [cond_true] at hr
        split at hr
        case h_2 => cases hr
        rename_i z hz
        cases hc : (Nat.beq z.cells.size (cellsN P e) && Nat.ble 1 (cellsN P e)) with
        | false => rw [hc] at hr; simp at hr
        | true =>
          rw [hc] at hr
          simp only [cond_true, Option.some.injEq] at hr
          subst hr
          simp only [Bool.and_eq_true] at hc
          have hsz := Nat.eq_of_beq_eq_true hc.1
          have hpos : 1 ≤ cellsN P e := Nat.le_of_ble_eq_true hc.2
          obtain ⟨i, hi⟩ := size_pos_info hpos
          have hk' : App h ⟨q, n, c⟩ ⟨q', n', c'⟩ e (cellsN P e) (bytesN P e) z.cells.toList fun s' h' => K (.slice s'.a s'.n s'.c) h' := hk
          rw [cellsN_of hi, bytesN_of hi] at hk'
          rw [cellsN_of hi] at hsz hpos
          obtain ⟨v, w', h', hrun, s', k', hK⟩ := run_append (ty := o.type) s hd hb hz hi hsz hpos hk'
          refine fin_value hn (run_builtin ho ?_) s' k' hK
          rw [hargs, hts, ht]
          simp only [builtin]
          exact run_v hrun
    · -- delete
      split at hr
      case h_2 => cases hr
      rename_i t t2 q k ht
      split at hr
      case h_2 => cases hr
      rename_i kt et hd
      simp only [Option.map_eq_some_iff] at hr
      obtain ⟨d, hkd, rfl⟩ := hr
      cases q with
      | none =>
        refine fin_value hn (run_builtin ho ?_) s (Kept.refl w) hk
        rw [hargs, hts, ht]
        simp [builtin, Builtin.delete_, run_underlying hd, keyT_checks hkd]
      | some r =>
        obtain ⟨es, clk, hr, hk⟩ := hk
        rcases hk with ⟨i, x, hf, hK⟩ | ⟨hf, hK⟩
        · refine fin_value hn (run_builtin ho ?_) (s.upd hr _) ⟨rfl, rfl, rfl⟩ hK
          rw [hargs, hts, ht]
          simp [builtin, Builtin.delete_, run_underlying hd, keyT_checks hkd, run_getMap s hr, run_findKey (keyT_under hkd) hf, run_setMap s hr]
        · refine fin_value hn (run_builtin ho ?_) (s.upd hr _) ⟨rfl, rfl, rfl⟩ hK
          rw [hargs, hts, ht]
          simp [builtin, Builtin.delete_, run_underlying hd, keyT_checks hkd, run_getMap s hr, run_findKey (keyT_under hkd) hf, run_setMap s hr]
    · cases hr
theorem snd_enter {f : FuncId} {vs : List Value} {R0 : Value → V → Prop} (hn : Nx o a w K next) (s : Sees w h) (hR : ∀ v h', R0 v h' → K v h') (hk : ACalls P f vs h R0)
    (he : (execOp a.eval o).run P w = (callFunc f ⟨vs⟩).run P w) : o.wp P a w next Q := by
  unfold Oper.wp
  rw [he, hk.1]
  show Calls P f ⟨vs⟩ w _
  refine (hk.2 w s).mono ?_
  rintro e w' ⟨k', v, h', rfl, s', hr⟩
  exact hn v w' h' s' k' (hR _ _ hr)
theorem snd_callv {x : Operand} {args : Array Operand} {ts : Array TypeId} (ho : o.op = .call { callee := .value x, args := args, argTypes := ts }) (hn : Nx o a w K next) (g : Agr nt a E) (s : Sees w h) {v : Value} {vs : List Value} {r : Rs}
    (hx : a.eval x = v) (hvs : evs E args.toList = some vs) (hk : CallV P v vs h r fun y h' => K (r.mk y) h') : o.wp P a w next Q := by
  have hargs : args.map a.eval = vs.toArray := by rw [map_toArray, g.evs hvs]
  unfold CallV at hk
  split at hk
  case h_2 => exact hk.elim
  rename_i f first cap
  refine snd_enter hn s (fun v h' hr => ?_) hk ?_
  · obtain ⟨y, rfl, hy⟩ := hr; exact hy
  · simp only [execOp, ho, resolve, Sem.run_bind, hx, Deferred.ofValue, Sem.run_pure, Result.andThen_ok, invoke, hargs]
    congr 2
    apply Array.ext'
    simp
theorem snd_call {c : Call} (ho : o.op = .call c) (hn : Nx o a w K next) (g : Agr nt a E) (s : Sees w h) {r : R} (hr : rsv P E o = some r) (hk : r.run P h K) : o.wp P a w next Q := by
  obtain ⟨cal, args, ts⟩ := c
  cases cal with
  | builtin b => exact snd_builtin ho hn g s hr hk
  | invoke => simp [rsv, ho] at hr
  | value x =>
    simp only [rsv, ho] at hr
    cases hvs : evs E args.toList with
    | none => rw [hvs] at hr; cases x <;> simp at hr
    | some vs =>
      rw [hvs] at hr
      cases x with
      | func f =>
        simp only [Option.map_eq_some_iff] at hr
        obtain ⟨rr, _, rfl⟩ := hr
        refine snd_callv ho hn g s (v := .func (.func f) #[] #[]) (r := rr) rfl hvs ?_
        simp only [CallV, List.nil_append, List.append_nil]
        exact hk
      | tmp t =>
        simp only [] at hr
        split at hr
        case h_2 => cases hr
        rename_i v hv
        simp only [Option.map_eq_some_iff] at hr
        obtain ⟨rr, _, rfl⟩ := hr
        exact snd_callv ho hn g s (g.ev hv) hvs hk
      | const c =>
        simp only [] at hr
        split at hr
        case h_2 => cases hr
        rename_i v hv
        simp only [Option.map_eq_some_iff] at hr
        obtain ⟨rr, _, rfl⟩ := hr
        exact snd_callv ho hn g s (g.ev hv) hvs hk
      | global c =>
        simp only [] at hr
        split at hr
        case h_2 => cases hr
        rename_i v hv
        simp only [Option.map_eq_some_iff] at hr
        obtain ⟨rr, _, rfl⟩ := hr
        exact snd_callv ho hn g s (g.ev hv) hvs hk
/- ANY OPERATION -/
theorem aop_sound (hn : Nx o a w K next) (g : Agr nt a E) (s : Sees w h) (hk : aop P E h o K) : o.wp P a w next Q := by
  unfold aop at hk
  cases hr : rsv P E o with
  | none => rw [hr] at hk; exact hk.elim
  | some r =>
    rw [hr] at hk
    cases ho : o.op with
    | move x => exact snd_move ho hn g s hr hk
    | assign x => exact snd_assign ho hn g s hr hk
    | pick c x y => exact snd_pick ho hn g s hr hk
    | alloc t => exact snd_alloc ho hn s hr hk
    | box t x => exact snd_box ho hn g s hr hk
    | load t x => exact snd_load ho hn g s hr hk
    | store t x y => exact snd_store ho hn g s hr hk
    | nilCheck x => exact snd_nilCheck ho hn g s hr hk
    | binOp op t x y u => exact snd_binOp ho hn g s hr hk
    | unOp op t x => exact snd_unOp ho hn g s hr hk
    | convert t u x => exact snd_convert ho hn g s hr hk
    | makeFunc f x y => exact snd_makeFunc ho hn g s hr hk
    | makeMap t x => exact snd_makeMap ho hn s hr hk
    | makeSlice t x y => exact snd_makeSlice ho hn g s hr hk
    | slice t x l h m => exact snd_slice ho hn g s hr hk
    | fieldAddr t x i => exact snd_fieldAddr ho hn g s hr hk
    | field t x i => exact snd_field ho hn g s hr hk
    | indexAddr t x i => exact snd_indexAddr ho hn g s hr hk
    | lookup t x k ok => exact snd_lookup ho hn g s hr hk
    | mapUpdate t m k x => exact snd_mapUpdate (.inl ho) hn g s hr hk
    | insert t m k x => exact snd_mapUpdate (.inr ho) hn g s hr hk
    | range t x => exact snd_range ho hn g s hr hk
    | next x b =>
      cases b with
      | false => exact snd_next ho hn g s hr hk
      | true => simp [rsv, ho] at hr
    | entry x => exact snd_entry ho hn g s hr hk
    | extract x i => exact snd_extract ho hn g s hr hk
    | build t ps => exact snd_build ho hn g s hr hk
    | buildSlice t n ps => exact snd_buildSlice ho hn g s hr hk
    | call c => exact snd_call ho hn g s hr hk
    | _ => simp [rsv, ho] at hr
end
end Go.VL
