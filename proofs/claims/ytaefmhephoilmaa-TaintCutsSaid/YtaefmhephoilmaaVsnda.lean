/- Operation by operation: what a view says of it is what it does. -/
import Derived.Test.YtaefmhephoilmaaVsnd
import Derived.Laws.StructEq
namespace Go.VL
open Go

section
variable {P : Program} {nt : Nat} {E : Env} {o : Oper} {a : Act} {w : World} {h : V} {K : Value → V → Prop} {next : Act → World → Prop} {Q : Exit → Act → World → Prop}

/- what is to be shown of an operation -/
def Nx (o : Oper) (a : Act) (w : World) (K : Value → V → Prop) (next : Act → World → Prop) : Prop :=
  ∀ v w' h', Sees w' h' → Kept w w' → K v h' → next (a.put o.dst v) w'

theorem fin_value {v : Value} {w' : World} {h' : V} (hn : Nx o a w K next) (hr : (execOp a.eval o).run P w = .ok (.value v) w') (s : Sees w' h') (k : Kept w w') (hk : K v h') : o.wp P a w next Q := by
  unfold Oper.wp
  rw [hr]
  exact hn v w' h' s k hk
theorem fin_skip {w' : World} {h' : V} (hn : Nx o a w K next) (hr : (execOp a.eval o).run P w = .ok .skip w') (s : Sees w' h') (k : Kept w w') (hk : K undef h') : o.wp P a w next Q := by
  unfold Oper.wp
  rw [hr]
  exact hn undef w' h' s k hk

theorem run_v {x : Sem Value} {v : Value} {w' : World} (h : x.run P w = .ok v w') : (do pure (Next.value (← x)) : Sem Next).run P w = .ok (.value v) w' := by
  simp [h]
theorem run_u {x : Sem Unit} {w' : World} (h : x.run P w = .ok () w') : (do x; pure Next.skip : Sem Next).run P w = .ok .skip w' := by
  simp [h]

theorem snd_new {ob : Obj} {m : Mk} {x : Sem Value} (hn : Nx o a w K next) (s : Sees w h) (hk : (R.new ob m).run P h K)
    (he : execOp a.eval o = (do pure (Next.value (← x)))) (hx : x.run P w = .ok (m.val w.heap.size) { w with heap := w.heap.push ob }) : o.wp P a w next Q := by
  obtain ⟨h0, s'⟩ := s.new ob
  exact fin_value hn (by rw [he]; exact run_v hx) s' ⟨rfl, rfl, rfl⟩ (hk _ h0)

theorem snd_move {x : Operand} (ho : o.op = .move x) (hn : Nx o a w K next) (g : Agr nt a E) (s : Sees w h) {r : R} (hr : rsv P E o = some r) (hk : r.run P h K) : o.wp P a w next Q := by
  simp only [rsv, ho, Option.map_eq_some_iff] at hr
  obtain ⟨v, hv, rfl⟩ := hr
  exact fin_value hn (by simp [execOp, ho, g.ev hv]) s (Kept.refl w) hk
theorem snd_assign {x : Operand} (ho : o.op = .assign x) (hn : Nx o a w K next) (g : Agr nt a E) (s : Sees w h) {r : R} (hr : rsv P E o = some r) (hk : r.run P h K) : o.wp P a w next Q := by
  simp only [rsv, ho, Option.map_eq_some_iff] at hr
  obtain ⟨v, hv, rfl⟩ := hr
  exact fin_value hn (by simp [execOp, ho, g.ev hv]) s (Kept.refl w) hk
theorem snd_pick {c x y : Operand} (ho : o.op = .pick c x y) (hn : Nx o a w K next) (g : Agr nt a E) (s : Sees w h) {r : R} (hr : rsv P E o = some r) (hk : r.run P h K) : o.wp P a w next Q := by
  simp only [rsv, ho] at hr
  split at hr
  · rename_i b u v h1 h2 h3
    cases hr
    cases b with
    | true => exact fin_value hn (by simp [execOp, ho, g.ev h1, g.ev h2, asBool]) s (Kept.refl w) hk
    | false => exact fin_value hn (by simp [execOp, ho, g.ev h1, g.ev h3, asBool]) s (Kept.refl w) hk
  · cases hr
theorem snd_alloc {t : TypeId} (ho : o.op = .alloc t) (hn : Nx o a w K next) (s : Sees w h) {r : R} (hr : rsv P E o = some r) (hk : r.run P h K) : o.wp P a w next Q := by
  simp only [rsv, ho] at hr
  split at hr
  · rename_i z hz
    cases hr
    refine snd_new hn s hk (x := Instr.alloc t true (.tuple #[])) (by simp [execOp, ho]) ?_
    simp [Instr.alloc, run_zeroT hz, newVar, newRow]
  · cases hr
theorem snd_box {t : TypeId} {x : Operand} (ho : o.op = .box t x) (hn : Nx o a w K next) (g : Agr nt a E) (s : Sees w h) {r : R} (hr : rsv P E o = some r) (hk : r.run P h K) : o.wp P a w next Q := by
  simp only [rsv, ho, Option.map_eq_some_iff] at hr
  obtain ⟨v, hv, rfl⟩ := hr
  refine snd_new hn s hk (x := Instr.box t v) (by simp [execOp, ho, g.ev hv]) ?_
  simp [Instr.box, newVar, newRow]
theorem mks_length : ∀ (ks : List Kd) (s : Tys ks), (mks ks s).length = ks.length
  | [], _ => rfl
  | _ :: ks, s => by simp [mks, mks_length ks s.2]
theorem snd_load {t : TypeId} {x : Operand} (ho : o.op = .load t x) (hn : Nx o a w K next) (g : Agr nt a E) (s : Sees w h) {r : R} (hr : rsv P E o = some r) (hk : r.run P h K) : o.wp P a w next Q := by
  simp only [rsv, ho] at hr
  split at hr
  case h_2 => cases hr
  rename_i ad hv
  split at hr
  · rename_i k hl
    cases hA : isAggT P t with
    | true => rw [hA] at hr; simp at hr
    | false =>
      rw [hA] at hr
      simp only [cond_false, Option.some.injEq] at hr
      subst hr
      obtain ⟨y, hc, hK⟩ := hk
      have hu : ∃ d, P.underlying t = some d := by
        unfold layT at hl
        split at hl
        · rename_i hd; exact ⟨_, hd⟩
        · rename_i hd; exact ⟨_, hd⟩
        · rename_i hd; exact ⟨_, hd⟩
        · rename_i hd; exact ⟨_, hd⟩
        · cases hl
      obtain ⟨d, hd⟩ := hu
      refine fin_value hn ?_ s (Kept.refl w) hK
      simp only [execOp, ho]
      refine run_v ?_
      simp [Instr.loadAt, g.ev hv, Instr.sureAddr, loadVar, run_isAgg hd, hA, s.cell hc]
  · rename_i ks hl
    cases hA : Nat.beq ks.length (cellsN P t) with
    | false => rw [hA] at hr; simp at hr
    | true =>
      rw [hA] at hr
      simp only [cond_true, Option.some.injEq] at hr
      subst hr
      have hsz := Nat.eq_of_beq_eq_true hA
      obtain ⟨y, hc, hK⟩ := hk
      have hu : ∃ d, P.underlying t = some d ∧ isAggT P t = true := by
        unfold layT at hl
        split at hl
        · rename_i hd; exact ⟨_, hd, by simp [isAggT, hd]⟩
        · rename_i hd; exact ⟨_, hd, by simp [isAggT, hd]⟩
        · cases hl
        · split at hl <;> cases hl
        · cases hl
      obtain ⟨d, hd, hag⟩ := hu
      obtain ⟨i, hi⟩ := info_of_under hd
      have hlen : (mks ks y).length = i.size := by rw [mks_length, hsz, cellsN_of hi]
      refine fin_value hn ?_ s (Kept.refl w) hK
      simp only [execOp, ho]
      refine run_v ?_
      have hlc := run_loadCells_view (P := P) s hc
      rw [hlen] at hlc
      simp [Instr.loadAt, g.ev hv, Instr.sureAddr, loadVar, run_isAgg hd, hag, run_sizeOf hi, hlc]
  · cases hr
theorem snd_store {t : TypeId} {x y : Operand} (ho : o.op = .store t x y) (hn : Nx o a w K next) (g : Agr nt a E) (s : Sees w h) {r : R} (hr : rsv P E o = some r) (hk : r.run P h K) : o.wp P a w next Q := by
  simp only [rsv, ho] at hr
  split at hr
  case h_2 => cases hr
  rename_i ad v hx hy
  split at hr
  case h_2 => cases hr
  rename_i i hi
  cases hc : (Nat.beq v.cells.size i.size && v.cells.toList.all oneCell) with
  | false => rw [hc] at hr; simp at hr
  | true =>
    rw [hc] at hr
    simp only [cond_true, Option.some.injEq] at hr
    subst hr
    simp only [Bool.and_eq_true] at hc
    obtain ⟨w', h', hrun, s', k', hK⟩ := run_storeCells_view (P := P) _ _ _ _ s hc.2 hk
    refine fin_skip hn ?_ s' k' hK
    have hsz := Nat.eq_of_beq_eq_true hc.1
    simp only [execOp, ho]
    refine run_u ?_
    simp [Instr.storeAt, g.ev hx, g.ev hy, Instr.sureAddr, storeVar, run_sizeOf hi, hsz, hrun]
theorem snd_nilCheck {x : Operand} (ho : o.op = .nilCheck x) (hn : Nx o a w K next) (g : Agr nt a E) (s : Sees w h) {r : R} (hr : rsv P E o = some r) (hk : r.run P h K) : o.wp P a w next Q := by
  simp only [rsv, ho] at hr
  split at hr
  · rename_i q hv
    cases hr
    cases q with
    | none => exact hk.elim
    | some ad => exact fin_value hn (by simp [execOp, ho, g.ev hv]) s (Kept.refl w) hk
  · rename_i f u v hv
    cases hr
    exact fin_value hn (by simp [execOp, ho, g.ev hv]) s (Kept.refl w) hk
  · cases hr
theorem snd_rint {op : BinOp} {t u : TypeId} {x y : Operand} (ho : o.op = .binOp op t x y u) (hn : Nx o a w K next) (g : Agr nt a E) (s : Sees w h) {k : IntKind} {m n : Int}
    (hx : ev E x = some (.int k m)) (hy : ev E y = some (.int k n)) {r : R} (hr : rint op k m n = some r) (hk : r.run P h K) : o.wp P a w next Q := by
  have e1 := g.ev hx
  have e2 := g.ev hy
  cases op <;> simp only [rint, Option.some.injEq, reduceCtorEq] at hr <;> subst hr
  case quo =>
    obtain ⟨hnz, hK⟩ := hk
    refine fin_value hn ?_ s (Kept.refl w) hK
    simp only [execOp, ho]
    refine run_v ?_
    simp [e1, e2, eqGuard_quo, binOp_quo, Op.intDiv, hnz]
  case rem =>
    obtain ⟨hnz, hK⟩ := hk
    refine fin_value hn ?_ s (Kept.refl w) hK
    simp only [execOp, ho]
    refine run_v ?_
    simp [e1, e2, eqGuard_rem, binOp_rem, Op.intDiv, hnz]
  all_goals
    refine fin_value hn ?_ s (Kept.refl w) hk
    simp only [execOp, ho]
    refine run_v ?_
    simp [e1, e2, eqGuard_at_int, binOp, Op.intArith, Op.intCmp, intBits_and, intBits_or, intBits_xor]
theorem run_part {f : Field} {cs : Array Value} {v : Value} (hd : ∃ d, P.underlying f.type = some d) (hv : partV P f cs.toList = some v) : (part f.type cs f.offset).run P w = .ok v w := by
  obtain ⟨d, hd⟩ := hd
  obtain ⟨i, hi⟩ := info_of_under hd
  unfold partV at hv
  cases hA : isAggT P f.type with
  | true =>
    rw [hA] at hv
    simp only [cond_true, Option.some.injEq] at hv
    subst hv
    simp only [part, Sem.run_bind, run_isAgg hd, hA, Result.andThen_ok, if_true, run_sizeOf hi, cellsN_of hi, Sem.run_pure]
    congr 2
    apply Array.ext'
    simp [List.take_drop]
  | false =>
    rw [hA] at hv
    simp only [cond_false] at hv
    have hv' : cs[f.offset]? = some v := by simpa using hv
    simp [part, run_isAgg hd, hA, hv']
theorem run_eqFs {d : Nat} {xs ys : Array Value} : ∀ (fs : List Field) (r : Bool), eqFs P fs xs.toList ys.toList = some r → (Op.eqFields (d + 1) xs ys fs).run P w = .ok r w
  | [], r, h => by cases h; simp [Op.eqFields]
  | f :: fs, r, h => by
    unfold eqFs at h
    cases hn : (f.name == "_") with
    | true => rw [hn] at h; cases h
    | false =>
      rw [hn] at h
      simp only [cond_false] at h
      have hn' : f.name ≠ "_" := by simpa using hn
      split at h
      · rename_i k0 k a k' b hu ha hb
        cases hk : decide (k = k') with
        | false => rw [hk] at h; cases h
        | true =>
          rw [hk] at h
          have e : k = k' := of_decide_eq_true hk
          subst e
          obtain ⟨s, hs, rfl⟩ := Option.map_eq_some_iff.1 h
          have ih := run_eqFs (d := d) fs s hs
          rw [Op.eqFields]
          simp only [if_pos hn', Sem.run_bind, run_part ⟨_, hu⟩ ha, run_part ⟨_, hu⟩ hb, Result.andThen_ok, run_equalIn_int w d f.type k k0 a b hu]
          cases hab : (a == b) <;> simp [ih]
      · rename_i a b hu ha hb
        obtain ⟨s, hs, rfl⟩ := Option.map_eq_some_iff.1 h
        have ih := run_eqFs (d := d) fs s hs
        rw [Op.eqFields]
        simp only [if_pos hn', Sem.run_bind, run_part ⟨_, hu⟩ ha, run_part ⟨_, hu⟩ hb, Result.andThen_ok, run_equalIn_bool' w d f.type a b hu]
        cases hab : (a == b) <;> simp [ih]
      · rename_i a b hu ha hb
        obtain ⟨s, hs, rfl⟩ := Option.map_eq_some_iff.1 h
        have ih := run_eqFs (d := d) fs s hs
        rw [Op.eqFields]
        simp only [if_pos hn', Sem.run_bind, run_part ⟨_, hu⟩ ha, run_part ⟨_, hu⟩ hb, Result.andThen_ok, run_equalIn_string w d f.type a b hu]
        cases hab : (a.toList == b.toList) <;> simp [ih]
      · cases h
theorem run_eqAgg {t : TypeId} {xs ys : Array Value} {r : Bool} (h : eqAgg P t xs ys = some r) : (Op.equal t (.agg xs) (.agg ys)).run P w = .ok r w ∧ P.eqGuardType P.depth t = false := by
  unfold eqAgg at h
  split at h
  case h_2 => cases h
  rename_i fs hu
  cases hg : (P.stoodInHeld t || P.eqGuardType P.depth t) with
  | true => rw [hg] at h; cases h
  | false =>
    rw [hg] at h
    rw [Bool.or_eq_false_iff] at hg
    have hf : P.fieldsOf t = fs := by simp [Program.fieldsOf, hu]
    refine ⟨?_, hg.2⟩
    show (Op.equalIn (9999 + 1) t (.agg xs) (.agg ys)).run P w = _
    rw [run_equalIn_struct (P := P) w 9999 t xs ys (by rw [hf]; exact hu) hg.1, hf]
    exact run_eqFs fs.toList r h
theorem run_equal {t : TypeId} {x y : Value} {b : Bool} (he : ∀ d, (Op.equalIn (d + 1) t x y).run P w = .ok b w) : (Op.equal t x y).run P w = .ok b w := he 9999
theorem run_eql {t : TypeId} {x y : Value} {b : Bool} (hb : binOp .eql t x y = (do pure (.bool (← Op.equal t x y)))) (he : ∀ d, (Op.equalIn (d + 1) t x y).run P w = .ok b w) : (binOp .eql t x y).run P w = .ok (.bool b) w := by
  rw [hb]; simp [run_equal he]
theorem run_neq {t : TypeId} {x y : Value} {b : Bool} (hb : binOp .neq t x y = (do pure (.bool (!(← Op.equal t x y))))) (he : ∀ d, (Op.equalIn (d + 1) t x y).run P w = .ok b w) : (binOp .neq t x y).run P w = .ok (.bool (!b)) w := by
  rw [hb]; simp [run_equal he]
theorem equalIn_bool {t : TypeId} (hd : P.underlying t = some .bool) (b c : Bool) (d : Nat) : (Op.equalIn (d + 1) t (.bool b) (.bool c)).run P w = .ok (b == c) w := by
  simp [Op.equalIn, run_underlying hd]
theorem equalIn_map {t k e : TypeId} (hd : P.underlying t = some (.map k e)) (b : Option Nat) (d : Nat) : (Op.equalIn (d + 1) t (.map b) (.map none)).run P w = .ok b.isNone w := by
  cases b <;> simp [Op.equalIn, run_underlying hd]
theorem equalIn_slice {t e : TypeId} (hd : P.underlying t = some (.slice e)) (b : Option Addr) (n c n' c' : Nat) (d : Nat) : (Op.equalIn (d + 1) t (.slice b n c) (.slice none n' c')).run P w = .ok b.isNone w := by
  cases b <;> simp [Op.equalIn, run_underlying hd]
theorem equalIn_ptr {t e : TypeId} (hd : P.underlying t = some (.pointer e)) (b : Option Addr) (d : Nat) : (Op.equalIn (d + 1) t (.pointer b) (.pointer none)).run P w = .ok b.isNone w := by
  cases b <;> simp [Op.equalIn, run_underlying hd]
theorem run_guard {op : BinOp} {t u : TypeId} {x y : Operand} {vx vy v : Value} (ho : o.op = .binOp op t x y u) (e1 : a.eval x = vx) (e2 : a.eval y = vy) (hg : eqGuard op t x y vx vy = pure ())
    (hb : (binOp op t vx vy).run P w = .ok v w) : (execOp a.eval o).run P w = .ok (.value v) w := by
  simp only [execOp, ho]
  refine run_v ?_
  simp [e1, e2, hg, hb]
theorem snd_binOp {op : BinOp} {t u : TypeId} {x y : Operand} (ho : o.op = .binOp op t x y u) (hn : Nx o a w K next) (g : Agr nt a E) (s : Sees w h) {r : R} (hr : rsv P E o = some r) (hk : r.run P h K) : o.wp P a w next Q := by
  simp only [rsv, ho] at hr
  split at hr
  case h_2 => cases hr
  rename_i vx vy hx hy
  have e1 := g.ev hx
  have e2 := g.ev hy
  unfold rbin at hr
  split at hr
  · rename_i k m k' n
    split at hr
    · cases hr
      obtain ⟨h0, hK⟩ := hk
      refine fin_value hn ?_ s (Kept.refl w) hK
      simp only [execOp, ho]
      refine run_v ?_
      have : ¬ n < 0 := by omega
      simp [e1, e2, eqGuard_shl, binOp_shl, Op.shift, this]
    · cases hr
      obtain ⟨h0, hK⟩ := hk
      refine fin_value hn ?_ s (Kept.refl w) hK
      simp only [execOp, ho]
      refine run_v ?_
      have : ¬ n < 0 := by omega
      simp [e1, e2, eqGuard_shr, binOp_shr, Op.shift, this]
    · split at hr
      · rename_i hkk _
        subst hkk
        exact snd_rint ho hn g s hx hy hr hk
      · cases hr
  · rename_i b c
    unfold isBoolT at hr
    split at hr
    case h_2 => simp at hr
    rename_i hd
    simp only [cond_true] at hr
    split at hr
    case h_3 => cases hr
    all_goals
      cases hr
      refine fin_value hn ?_ s (Kept.refl w) hk
      first
        | exact run_guard ho e1 e2 (eqGuard_at_bool ..) (run_eql rfl (equalIn_bool hd _ _))
        | exact run_guard ho e1 e2 (eqGuard_at_bool ..) (run_neq rfl (equalIn_bool hd _ _))
  · rename_i b c
    split at hr
    case h_3 => cases hr
    all_goals
      cases hr
      refine fin_value hn ?_ s (Kept.refl w) hk
      simp only [execOp, ho]
      refine run_v ?_
      simp [e1, e2, eqGuard_at_string, binOp, Op.stringOp]
  · rename_i b
    unfold isMapT at hr
    split at hr
    case h_2 => simp at hr
    rename_i hd
    simp only [cond_true] at hr
    split at hr
    case h_3 => cases hr
    all_goals
      cases hr
      refine fin_value hn ?_ s (Kept.refl w) hk
      first
        | exact run_guard ho e1 e2 (eqGuard_at_map ..) (run_eql rfl (equalIn_map hd _))
        | exact run_guard ho e1 e2 (eqGuard_at_map ..) (run_neq rfl (equalIn_map hd _))
  · rename_i b _ _ _ _
    unfold isSliceT at hr
    split at hr
    case h_2 => simp at hr
    rename_i hd
    simp only [cond_true] at hr
    split at hr
    case h_3 => cases hr
    all_goals
      cases hr
      refine fin_value hn ?_ s (Kept.refl w) hk
      first
        | exact run_guard ho e1 e2 (eqGuard_at_slice ..) (run_eql rfl (equalIn_slice hd _ _ _ _ _))
        | exact run_guard ho e1 e2 (eqGuard_at_slice ..) (run_neq rfl (equalIn_slice hd _ _ _ _ _))
  · rename_i b
    unfold isPtrT at hr
    split at hr
    case h_2 => simp at hr
    rename_i hd
    simp only [cond_true] at hr
    split at hr
    case h_3 => cases hr
    all_goals
      cases hr
      refine fin_value hn ?_ s (Kept.refl w) hk
      first
        | exact run_guard ho e1 e2 (eqGuard_at_pointer ..) (run_eql rfl (equalIn_ptr hd _))
        | exact run_guard ho e1 e2 (eqGuard_at_pointer ..) (run_neq rfl (equalIn_ptr hd _))
  · split at hr
    case h_3 => cases hr
    all_goals
      obtain ⟨b, hb, rfl⟩ := Option.map_eq_some_iff.1 hr
      obtain ⟨he, hgt⟩ := run_eqAgg (w := w) hb
      refine fin_value hn ?_ s (Kept.refl w) hk
      simp only [execOp, ho]
      refine run_v ?_
      simp [e1, e2, eqGuard, hgt, binOp, he]
  · cases hr
theorem snd_unOp {op : UnOp} {t : TypeId} {x : Operand} (ho : o.op = .unOp op t x) (hn : Nx o a w K next) (g : Agr nt a E) (s : Sees w h) {r : R} (hr : rsv P E o = some r) (hk : r.run P h K) : o.wp P a w next Q := by
  simp only [rsv, ho] at hr
  split at hr
  case h_2 => cases hr
  rename_i v hv
  unfold run1 at hr
  split at hr
  · cases hr
    refine fin_value hn ?_ s (Kept.refl w) hk
    simp only [execOp, ho]
    refine run_v ?_
    simp [g.ev hv, Op.unary]
  · cases hr
    refine fin_value hn ?_ s (Kept.refl w) hk
    simp only [execOp, ho]
    refine run_v ?_
    simp [g.ev hv, Op.unary, Op.intArith]
  · cases hr
theorem snd_convert {t u : TypeId} {x : Operand} (ho : o.op = .convert t u x) (hn : Nx o a w K next) (g : Agr nt a E) (s : Sees w h) {r : R} (hr : rsv P E o = some r) (hk : r.run P h K) : o.wp P a w next Q := by
  simp only [rsv, ho] at hr
  split at hr
  case h_2 => cases hr
  rename_i d k k' n h1 h2 h3
  cases hr
  refine fin_value hn ?_ s (Kept.refl w) hk
  simp only [execOp, ho]
  refine run_v ?_
  simp [g.ev h3, convert, run_underlying h1, run_underlying h2, Conv.intToInt]
theorem map_toArray {α β : Type} (f : α → β) (xs : Array α) : xs.map f = (xs.toList.map f).toArray := by
  apply Array.ext'; simp
theorem snd_makeFunc {f : Fn} {xs ys : Array Operand} (ho : o.op = .makeFunc f xs ys) (hn : Nx o a w K next) (g : Agr nt a E) (s : Sees w h) {r : R} (hr : rsv P E o = some r) (hk : r.run P h K) : o.wp P a w next Q := by
  simp only [rsv, ho] at hr
  split at hr
  case h_2 => cases hr
  rename_i us vs h1 h2
  cases hr
  refine fin_value hn ?_ s (Kept.refl w) hk
  simp only [execOp, ho]
  refine run_v ?_
  simp only [Instr.makeFunc, map_toArray, g.evs h1, g.evs h2]
  rfl
theorem snd_makeMap {t : TypeId} {x : Option Operand} (ho : o.op = .makeMap t x) (hn : Nx o a w K next) (s : Sees w h) {r : R} (hr : rsv P E o = some r) (hk : r.run P h K) : o.wp P a w next Q := by
  cases x with
  | some x => simp [rsv, ho] at hr
  | none =>
    simp only [rsv, ho, Option.some.injEq] at hr
    subst hr
    refine snd_new hn s hk (x := Instr.makeMap t none) (by simp [execOp, ho]) ?_
    simp [Instr.makeMap]
theorem snd_fieldAddr {t : TypeId} {x : Operand} {i : Nat} (ho : o.op = .fieldAddr t x i) (hn : Nx o a w K next) (g : Agr nt a E) (s : Sees w h) {r : R} (hr : rsv P E o = some r) (hk : r.run P h K) : o.wp P a w next Q := by
  simp only [rsv, ho] at hr
  split at hr
  case h_2 => cases hr
  rename_i fs ad h1 h2
  split at hr
  case h_2 => cases hr
  rename_i f hf
  cases hz : Nat.beq (cellsN P f.type) 0 with
  | true => rw [hz] at hr; simp at hr
  | false =>
    rw [hz] at hr
    simp only [cond_false, Option.some.injEq] at hr
    subst hr
    refine fin_value hn ?_ s (Kept.refl w) hk
    simp only [execOp, ho]
    refine run_v ?_
    have hz' : cellsN P f.type ≠ 0 := by intro e; rw [e] at hz; cases hz
    cases hi : P.info? f.type with
    | none => exact absurd (by simp [cellsN, hi]) hz'
    | some i' =>
      rw [cellsN_of hi] at hz'
      have hf' : fs[i]? = some f := by simpa using hf
      simp [Instr.fieldAt, run_underlying h1, hf', g.ev h2, Instr.sureAddr, fieldPlace, run_sizeOf hi, hz']
end
end Go.VL
