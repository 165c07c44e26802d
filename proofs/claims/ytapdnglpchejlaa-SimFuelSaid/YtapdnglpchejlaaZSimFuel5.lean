/- SimFuel: the row: whatever the input, the law returns true, and the input reads as it did. -/
import Derived.Test.YtapdnglpchejlaaZSimFuel4
import Derived.Test.YtapdnglpchejlaaRows
import Derived.WalkKit
import Derived.ProofKit
import Derived.OpenShut
import Derived.ChangeOld
import Derived.Below
namespace Go.Proofs.Ytapdnglpchejlaa
open Go Go.VL

section
variable {p : ProgD} {S S' : MS} {rest : List FrD} {f : FrD}
theorem enter_steps {fn dst : Int} {args : List Int} (h : enterS p S fn args dst = some S') : S'.steps = S.steps ∧ S'.fin = S.fin := by
  unfold enterS at h
  split at h
  · cases h
  · cases h; exact ⟨rfl, rfl⟩
theorem ite_st {c : Prop} [Decidable c] {A B : MS} {x : Int} (ha : A.steps = x) (hb : B.steps = x) : (if c then A else B).steps = x := by by_cases h : c <;> simp only [h, if_true, if_false] <;> assumption
theorem do_steps {i : InsD} (h : doS p S rest f i = some S') : S'.steps = S.steps := by
  unfold doS at h
  by_cases e : i.op = 1
  · rw [if_pos e] at h; cases h; rfl
  rw [if_neg e] at h
  by_cases e2 : i.op = 2
  · rw [if_pos e2] at h; cases h
    refine ite_st ?_ ?_
    · show (if _ then _ else _ : MS).steps = _
      exact ite_st rfl rfl
    · show (if _ then _ else _ : MS).steps = _
      exact ite_st rfl rfl
  rw [if_neg e2] at h
  by_cases e3 : i.op = 3
  · rw [if_pos e3] at h; cases h; rfl
  rw [if_neg e3] at h
  by_cases e4 : i.op = 4
  · rw [if_pos e4] at h; cases h; rfl
  rw [if_neg e4] at h
  by_cases e5 : i.op = 5
  · rw [if_pos e5] at h; cases h; exact ite_st rfl rfl
  rw [if_neg e5] at h
  by_cases e6 : i.op = 6
  · rw [if_pos e6] at h; cases h; exact ite_st rfl rfl
  rw [if_neg e6] at h
  by_cases e7 : i.op = 7
  · rw [if_pos e7] at h; exact (enter_steps h).1
  rw [if_neg e7] at h; cases h; rfl
theorem finish_steps {e : EndD} : (finishS p S rest f e).steps = S.steps := by
  unfold finishS
  refine ite_st (ite_st rfl rfl) (ite_st rfl (ite_st rfl rfl))
theorem step_steps (h : stepS p S rest f = some S') : S'.steps = S.steps := by
  unfold stepS at h
  simp only at h
  split at h
  · cases h; exact finish_steps
  · have := do_steps (S := { S with fs := rest ++ [{ f with pos := f.pos + 1 }] }) h
    exact this
theorem runS_split : ∀ (n : Nat) (S S' : MS), runS p n S = some S' → S.steps ≤ S'.steps ∧ S'.steps - S.steps ≤ n ∧ S'.fin = true ∧ (∀ m : Nat, S'.steps - S.steps ≤ (m : Int) → runS p m S = some S') ∧ (∀ m : Nat, (m : Int) < S'.steps - S.steps → runS p m S = none)
  | 0, S, S', h => by
    unfold runS at h
    split at h
    · rename_i hf
      cases h
      exact ⟨Int.le_refl _, by omega, hf, fun m _ => runS_fin hf m, fun m hm => by omega⟩
    · cases h
  | n + 1, S, S', h => by
    by_cases hf : S.fin = true
    · rw [runS_fin hf] at h
      cases h
      exact ⟨Int.le_refl _, by omega, hf, fun m _ => runS_fin hf m, fun m hm => by omega⟩
    · have hf' : S.fin = false := by simpa using hf
      cases ht : topOf S.fs with
      | none =>
        unfold runS at h
        rw [if_neg hf, ht] at h
        cases h
      | some rf =>
        obtain ⟨rest, f⟩ := rf
        have hS := topOf_some.1 ht
        rw [runS_succ hf' hS] at h
        cases hs : stepS p { S with steps := S.steps + 1 } rest f with
        | none => rw [hs] at h; cases h
        | some S1 =>
          rw [hs] at h
          have h : runS p n S1 = some S' := h
          have e : S1.steps = S.steps + 1 := step_steps hs
          obtain ⟨a1, a2, a3, a4, a5⟩ := runS_split n S1 S' h
          refine ⟨by omega, by omega, a3, fun m hm => ?_, fun m hm => ?_⟩
          · obtain ⟨k, rfl⟩ : ∃ k, m = k + 1 := ⟨m - 1, by omega⟩
            rw [runS_succ hf' hS, hs]
            exact a4 k (by omega)
          · cases m with
            | zero => exact runS_zero hf'
            | succ k =>
              rw [runS_succ hf' hS, hs]
              exact a5 k (by omega)
theorem runP_split {ins : List (List Int)} {fuel : Int} (h : runP p ins fuel = some S') (h0 : 0 ≤ fuel) : 1 ≤ S'.steps ∧ S'.steps ≤ fuel ∧ (∀ g : Int, S'.steps ≤ g → runP p ins g = some S') ∧ (∀ g : Int, g < S'.steps → runP p ins g = none) := by
  unfold runP at *
  cases he : enterS p (startS p (startM p.arrays ins)) p.main [] 0 with
  | none => rw [he] at h; cases h
  | some S1 =>
    rw [he] at h
    have h : runS p fuel.toNat S1 = some S' := h
    obtain ⟨e1, e2⟩ := enter_steps he
    have e1 : S1.steps = 0 := e1
    have e2 : S1.fin = false := e2
    obtain ⟨a1, a2, a3, a4, a5⟩ := runS_split _ _ _ h
    have hpos : 1 ≤ S'.steps := by
      apply Classical.byContradiction
      intro hn
      have := a4 0 (by omega)
      rw [runS_zero e2] at this; cases this
    refine ⟨hpos, by omega, fun g hg => ?_, fun g hg => ?_⟩
    · exact a4 g.toNat (by omega)
    · by_cases g0 : 0 ≤ g
      · exact a5 g.toNat (by omega)
      · have : g.toNat = 0 := by omega
        show runS p g.toNat S1 = none
        rw [this]; exact runS_zero e2
end
theorem and_bd (x : Int) (m : Nat) (hm : m < 4611686018427387904) : 0 ≤ bits .and .i64 x m ∧ bits .and .i64 x m ≤ m := by
  unfold bits
  simp only
  have h1 : ((BitVec.ofInt 64 x &&& BitVec.ofInt 64 (m : Int)).toNat : Int) ≤ m := by
    rw [BitVec.toNat_and]
    have h2 : (BitVec.ofInt 64 (m : Int)).toNat = m := by
      rw [BitVec.toNat_ofInt]
      omega
    rw [h2]
    exact Int.ofNat_le.2 Nat.and_le_right
  show 0 ≤ IntKind.wrap .i64 (((BitVec.ofInt 64 x &&& BitVec.ofInt 64 (m : Int)).toNat : Nat) : Int) ∧ IntKind.wrap .i64 (((BitVec.ofInt 64 x &&& BitVec.ofInt 64 (m : Int)).toNat : Nat) : Int) ≤ _
  rw [w64 (by have : (0 : Int) ≤ ((BitVec.ofInt 64 x &&& BitVec.ofInt 64 (m : Int)).toNat : Int) := Int.natCast_nonneg _; exact Int.le_trans (by decide) this) (Int.le_trans h1 (by omega))]
  exact ⟨Int.natCast_nonneg _, h1⟩
/- a run, and the variable that has its result -/
structure ResD where
  val : Int
  trap : Int
  lk : Sl
  steps : Int
  deep : Int
  ms : Sl
def ResD.cells (x : ResD) : List Value := [iV x.val, iV x.trap, sV x.lk, iV x.steps, iV x.deep, sV x.ms]
def RunRes (p : ProgD) (ins : List (List Int)) (fuel : Int) (h : V) (x : ResD) (e : Int) : Prop :=
  (¬ CheckOk p ∧ e = 40 ∧ x = ⟨0, 0, ⟨none, 0, 0⟩, 0, 0, ⟨none, 0, 0⟩⟩) ∨ (CheckOk p ∧ runP p ins fuel = none ∧ e = 41 ∧ x = ⟨0, 0, ⟨none, 0, 0⟩, 0, 0, ⟨none, 0, 0⟩⟩) ∨
    (CheckOk p ∧ ∃ S, runP p ins fuel = some S ∧ e = 0 ∧ x.val = S.val ∧ x.trap = S.trap ∧ x.steps = S.steps ∧ x.deep = S.deep ∧ isLeaks h x.lk S.leaks ∧ isRows h x.ms S.mem)
theorem RunRes.le {p : ProgD} {ins : List (List Int)} {fuel : Int} {h h' : V} {x : ResD} {e : Int} (r : RunRes p ins fuel h x e) (l : Le h h') : RunRes p ins fuel h' x e :=
  r.imp id fun r => r.imp id fun ⟨ok, S, a, b, c, d, e, f, g, i⟩ => ⟨ok, S, a, b, c, d, e, f, g.le mono_enc l, i.le mono_row l⟩
theorem c_RunB {h : V} {p : ProgD} {sa sf si : Sl} {ins : List (List Int)} {fuel : Int} {K : ((Int × Int × Sl × Int × Int × Sl × Unit) × Int × Unit) → Nat → V → Prop} (ha : isArrs h sa p.arrays) (hf : isFuncs h sf p.funcs) (hi : isRows h si ins) (few : FewOk p) (nums : NumsOk p) (hI : ∀ w ∈ ins, ∀ x ∈ w, I64 x) (hni : ins.length ≤ 1048576) (hfuel : fuel ≤ 2097152)
    (hK : ∀ x e r h', Le h h' → Box h' r (ResD.cells x) 33 → RunRes p ins fuel h' x e → K ((x.val, x.trap, x.lk, x.steps, x.deep, x.ms, ()), e, ()) r h') :
    CallK Try.prog 16 [.agg ⟨[sV sa, sV sf, iV p.main]⟩, sV si, iV fuel] h (.tup [.agg [.int .i64, .int .i64, .sl, .int .i64, .int .i64, .sl], .one (.int .i64)]) fun x h5 =>
      New h5 (.cells ⟨zeroRes⟩ 33) fun r9 h6 => StL h6 ⟨r9, 0, none⟩ 0 [iV x.1.1, iV x.1.2.1, sV x.1.2.2.1, iV x.1.2.2.2.1, iV x.1.2.2.2.2.1, sV x.1.2.2.2.2.2.1] fun h7 => K x r9 h7 := by
  have fin : ∀ (x : ResD) e h5, Le h h5 → RunRes p ins fuel h5 x e → ∃ y, (Value.tuple ⟨[.agg ⟨ResD.cells x⟩, iV e]⟩) = Rs.mk (.tup [.agg [.int .i64, .int .i64, .sl, .int .i64, .int .i64, .sl], .one (.int .i64)]) y ∧
      New h5 (.cells ⟨zeroRes⟩ 33) fun r9 h6 => StL h6 ⟨r9, 0, none⟩ 0 [iV y.1.1, iV y.1.2.1, sV y.1.2.2.1, iV y.1.2.2.2.1, iV y.1.2.2.2.2.1, sV y.1.2.2.2.2.2.1] fun h7 => K y r9 h7 := fun x e h5 l5 r5 =>
    ⟨((x.val, x.trap, x.lk, x.steps, x.deep, x.ms, ()), e, ()), rfl, New_box fun r h6 hr l6 b6 => StL_box (h := h5) b6 rfl l6 hr fun h7 l7 b7 _ => hK x e r h7 (l5.trans l7) b7 (r5.le l7)⟩
  refine c_Run ha hf hi few nums hI hni hfuel (fun hn h' l' => ?_) (fun ok e h' l' => ?_) (fun ok S h' lk ms e l' hlk hms => ?_)
  · exact fin ⟨0, 0, ⟨none, 0, 0⟩, 0, 0, ⟨none, 0, 0⟩⟩ 40 h' l' (.inl ⟨hn, rfl, rfl⟩)
  · exact fin ⟨0, 0, ⟨none, 0, 0⟩, 0, 0, ⟨none, 0, 0⟩⟩ 41 h' l' (.inr (.inl ⟨ok, e, rfl, rfl⟩))
  · exact fin ⟨S.val, S.trap, lk, S.steps, S.deep, ms⟩ 0 h' l' (.inr (.inr ⟨ok, S, e, rfl, rfl, rfl, rfl, rfl, hlk, hms⟩))
end Go.Proofs.Ytapdnglpchejlaa

/- What a row reads of a program whose numbers are in range, and of inputs. -/
namespace Go.Proofs.Ytapdnglpchejlaa
open Go Go.VL

theorem isSl_split {α : Type} {rep : V → Addr → α → Prop} {Q : α → Prop} {sz : Nat} {h : V} {s : Sl} {xs : List α} (hs : isSl (fun h a x => rep h a x ∧ Q x) sz h s xs) : isSl rep sz h s xs ∧ ∀ x ∈ xs, Q x := by
  obtain ⟨h1, h2, h3, h4⟩ := hs
  refine ⟨⟨h1, h2, h3, fun k hk => let ⟨a, ha, hr⟩ := h4 k hk; ⟨a, ha, hr.1⟩⟩, fun x hx => ?_⟩
  obtain ⟨k, hk, rfl⟩ := List.getElem_of_mem hx
  obtain ⟨a, ha, hr⟩ := h4 k hk
  exact hr.2
section
variable {H : Type} {enc : TypeId × Value → H} {w : World} {base : Nat} {spare : Nat → Bool} {held : Bool}
theorem wf_I64 {n : Int} (h : (Lit.int .i64 n).wf = true) : I64 n := by
  unfold Lit.wf at h
  rw [Bool.and_eq_true, decide_eq_true_eq, decide_eq_true_eq] at h
  have e1 : IntKind.min .i64 = -9223372036854775808 := by decide
  have e2 : IntKind.max .i64 = 9223372036854775807 := by decide
  rw [e1, e2] at h
  exact h
theorem rd_num {t : TypeId} {v : Value} (ht : Try.prog.underlying t = some (.int .i64)) (h : RdT enc w base spare held t [v]) : ∃ n, v = .int .i64 n ∧ I64 n := by
  obtain ⟨n, e, hw⟩ := rd_int ht h
  exact ⟨n, by cases e; rfl, wf_I64 hw⟩
theorem u45 : Try.prog.underlying 45 = some (.slice 2) := by kernel_rfl
theorem u26r : Try.prog.underlying 26 = some (.slice 45) := by kernel_rfl
theorem rd_words {cs : List Value} (h : RdT enc w base spare held 45 cs) : ∃ (s : Sl) (xs : List Int), cs = [sV s] ∧ isInts (V.of w) s xs ∧ ∀ x ∈ xs, I64 x := by
  obtain ⟨s, xs, e, hs⟩ := rd_slice (rep := fun h a x => repInt h a x ∧ I64 x) u45 (by kernel_rfl) (fun a cs' hat hl hr => by
    obtain ⟨n, rfl, hw⟩ := rd_int u2 hr
    exact ⟨n, by have := (rd_at hat hl).1; rwa [Addr.add_z] at this, wf_I64 hw⟩) h
  obtain ⟨h1, h2⟩ := isSl_split hs
  exact ⟨s, xs, e, h1, h2⟩
theorem rd_rows {cs : List Value} (h : RdT enc w base spare held 26 cs) : ∃ (s : Sl) (xs : List (List Int)), cs = [sV s] ∧ isRows (V.of w) s xs ∧ ∀ x ∈ xs, ∀ y ∈ x, I64 y := by
  obtain ⟨s, xs, e, hs⟩ := rd_slice (sz := 1) (rep := fun h a x => repRow h a x ∧ ∀ y ∈ x, I64 y) u26r (by kernel_rfl) (fun a cs' hat hl hr => by
    have hc := rd_at hat hl
    match cs', hl with
    | [x], _ =>
      obtain ⟨s, xs, e, hs, hx⟩ := rd_words hr
      cases e
      exact ⟨xs, ⟨s, by have := hc.1; rwa [Addr.add_z] at this, hs⟩, hx⟩) h
  obtain ⟨h1, h2⟩ := isSl_split hs
  exact ⟨s, xs, e, h1, h2⟩
theorem rd_inssN {cs : List Value} (h : RdT enc w base spare held 52 cs) : ∃ (s : Sl) (xs : List InsD), cs = [sV s] ∧ isSl (fun h a x => repIns h a x ∧ I64 x.num) 7 (V.of w) s xs :=
  rd_slice u48 (by kernel_rfl) (fun a cs' hat hl hr => by
    have f0 := rd_fieldT (j := 0) (o := 0) u60 (by kernel_rfl) (by kernel_rfl : Try.prog.cellsOf 47 = 1) hr
    have f1 := rd_fieldT (j := 1) (o := 1) u60 (by kernel_rfl) (by kernel_rfl : Try.prog.cellsOf 3 = 1) hr
    have f2 := rd_fieldT (j := 2) (o := 2) u60 (by kernel_rfl) (by kernel_rfl : Try.prog.cellsOf 48 = 1) hr
    have f3 := rd_fieldT (j := 3) (o := 3) u60 (by kernel_rfl) (by kernel_rfl : Try.prog.cellsOf 2 = 1) hr
    have f4 := rd_fieldT (j := 4) (o := 4) u60 (by kernel_rfl) (by kernel_rfl : Try.prog.cellsOf 49 = 1) hr
    have f5 := rd_fieldT (j := 5) (o := 5) u60 (by kernel_rfl) (by kernel_rfl : Try.prog.cellsOf 3 = 1) hr
    have f6 := rd_fieldT (j := 6) (o := 6) u60 (by kernel_rfl) (by kernel_rfl : Try.prog.cellsOf 3 = 1) hr
    have hc := rd_at hat hl
    match cs', hl with
    | [x0, x1, x2, x3, x4, x5, x6], _ =>
      obtain ⟨n0, rfl⟩ := rd_one u57 f0
      obtain ⟨n1, rfl⟩ := rd_one u3 f1
      obtain ⟨s, xs, e, hs⟩ := rd_ints f2
      obtain ⟨n3, rfl, w3⟩ := rd_num u2 f3
      obtain ⟨n4, rfl⟩ := rd_one u58 f4
      obtain ⟨n5, rfl⟩ := rd_one u3 f5
      obtain ⟨n6, rfl⟩ := rd_one u3 f6
      cases e
      exact ⟨⟨n0, n1, xs, n3, n4, n5, n6⟩, ⟨s, hs, hc⟩, w3⟩) h
theorem rd_blocksN {cs : List Value} (h : RdT enc w base spare held 61 cs) : ∃ (s : Sl) (xs : List BlockD), cs = [sV s] ∧ isSl (fun h a (x : BlockD) => repBlock h a x ∧ ∀ i ∈ x.ins, I64 i.num) 6 (V.of w) s xs :=
  rd_slice u44 (by kernel_rfl) (fun a cs' hat hl hr => by
    have f0 := rd_fieldT (j := 0) (o := 0) u55 (by kernel_rfl) (by kernel_rfl : Try.prog.cellsOf 48 = 1) hr
    have f1 := rd_fieldT (j := 1) (o := 1) u55 (by kernel_rfl) (by kernel_rfl : Try.prog.cellsOf 52 = 1) hr
    have f2 := rd_fieldT (j := 2) (o := 2) u55 (by kernel_rfl) (by kernel_rfl : Try.prog.cellsOf 58 = 4) hr
    have hc := rd_at hat hl
    match cs', hl with
    | [x0, x1, x2, x3, x4, x5], _ =>
      obtain ⟨s0, ps, e0, hs0⟩ := rd_ints f0
      obtain ⟨s1, is, e1, hs1⟩ := rd_inssN f1
      have g0 := rd_fieldT (j := 0) (o := 0) u53 (by kernel_rfl) (by kernel_rfl : Try.prog.cellsOf 53 = 1) f2
      have g1 := rd_fieldT (j := 1) (o := 1) u53 (by kernel_rfl) (by kernel_rfl : Try.prog.cellsOf 3 = 1) f2
      have g2 := rd_fieldT (j := 2) (o := 2) u53 (by kernel_rfl) (by kernel_rfl : Try.prog.cellsOf 56 = 1) f2
      have g3 := rd_fieldT (j := 3) (o := 3) u53 (by kernel_rfl) (by kernel_rfl : Try.prog.cellsOf 30 = 1) f2
      obtain ⟨n0, rfl⟩ := rd_one u49 g0
      obtain ⟨n1, rfl⟩ := rd_one u3 g1
      obtain ⟨s2, ws, e2, hs2⟩ := rd_edges g2
      obtain ⟨n3, rfl⟩ := rd_one u51 g3
      cases e0
      cases e1
      cases e2
      obtain ⟨hs1, hp1⟩ := isSl_split hs1
      exact ⟨⟨ps, is, ⟨n0, n1, ws, n3⟩⟩, ⟨s0, s1, s2, hs0, hs1, hs2, hc⟩, hp1⟩) h
theorem rd_funcsN {cs : List Value} (h : RdT enc w base spare held 23 cs) : ∃ (s : Sl) (xs : List FuncD), cs = [sV s] ∧ isSl (fun h a (x : FuncD) => repFunc h a x ∧ ∀ b ∈ x.blocks, ∀ i ∈ b.ins, I64 i.num) 2 (V.of w) s xs :=
  rd_slice u23 (by kernel_rfl) (fun a cs' hat hl hr => by
    have f0 := rd_fieldT (j := 0) (o := 0) u46 (by kernel_rfl) (by kernel_rfl : Try.prog.cellsOf 9 = 1) hr
    have f1 := rd_fieldT (j := 1) (o := 1) u46 (by kernel_rfl) (by kernel_rfl : Try.prog.cellsOf 61 = 1) hr
    have hc := rd_at hat hl
    match cs', hl with
    | [x, y], _ =>
      obtain ⟨n, e0⟩ := rd_string u9 f0
      obtain ⟨s, xs, e, hs⟩ := rd_blocksN f1
      cases e0
      cases e
      obtain ⟨hs, hp⟩ := isSl_split hs
      exact ⟨⟨n, xs⟩, ⟨s, hs, hc⟩, hp⟩) h
theorem rd_progN {cs : List Value} (h : RdT enc w base spare held 25 cs) : ∃ (sa sf : Sl) (p : ProgD), cs = [sV sa, sV sf, iV p.main] ∧ isArrs (V.of w) sa p.arrays ∧ isFuncs (V.of w) sf p.funcs ∧ NumsOk p := by
  have f0 := rd_fieldT (j := 0) (o := 0) u25 (by kernel_rfl) (by kernel_rfl : Try.prog.cellsOf 22 = 1) h
  have f1 := rd_fieldT (j := 1) (o := 1) u25 (by kernel_rfl) (by kernel_rfl : Try.prog.cellsOf 23 = 1) h
  have f2 := rd_fieldT (j := 2) (o := 2) u25 (by kernel_rfl) (by kernel_rfl : Try.prog.cellsOf 3 = 1) h
  have hl := len_T u25 (by kernel_rfl : Try.prog.cellsOf 25 = 3) h
  match cs, hl with
  | [x, y, z], _ =>
    obtain ⟨sa, as_, e0, ha⟩ := rd_arrs f0
    obtain ⟨sf, fs, e1, hf⟩ := rd_funcsN f1
    obtain ⟨n, rfl⟩ := rd_one u3 f2
    cases e0
    cases e1
    obtain ⟨hf, hp⟩ := isSl_split hf
    exact ⟨sa, sf, ⟨as_, fs, n⟩, rfl, ha, hf, hp⟩
end
end Go.Proofs.Ytapdnglpchejlaa

/- SimFuel: its walk. -/
namespace Go.Proofs.Ytapdnglpchejlaa
open Go Go.VL

set_option maxRecDepth 100000 in
theorem walkFuel {h : V} {p : ProgD} {sa sf si : Sl} {ins : List (List Int)} {fuel more : Int} (ha : isArrs h sa p.arrays) (hf : isFuncs h sf p.funcs) (nums : NumsOk p) (hi : isRows h si ins) (hI : ∀ w ∈ ins, ∀ x ∈ w, I64 x) (_ : I64 fuel) (_ : I64 more) :
    ACalls Try.prog 6 [.agg ⟨[sV sa, sV sf, iV p.main]⟩, sV si, iV fuel, iV more] h (fun v h' => v = .bool true ∧ Le h h') := by
  refine S6_ok _ _ _ _ _ _ _ _ (New_box fun r4 h1 hr4 l1 b4 => c_head fun h2 l2 => ⟨true, rfl, cond_not (fun e => by cases e) (fun _ => ?_)⟩)
  have l02 := l1.trans l2
  have b4' := b4.le l2
  have T : ∀ {hh}, Le h hh → Wk hh fun h' => (Value.bool true = .bool true ∧ Le h h') := fun l => Wk_self ⟨rfl, l⟩
  have TB : ∀ {hh} {b : Bool}, Le h hh → b = true → Wk hh fun h' => (Value.bool b = .bool true ∧ Le h h') := fun {hh b} l e => Wk_self ⟨by rw [e], l⟩
  refine Cut_i (fun _ hh => Le h2 hh ∧ FewOk p ∧ CheckOk p ∧ ins.length ≤ 20) (fun J hJ => ?_) ?_
  · refine c_few (hi.le mono_row l02) fun b hb => ⟨b, rfl, cond_not (fun _ => T l02) (fun hy => ?_)⟩
    refine ⟨(sa, sf, p.main, ()), b4'.cells, c_okP (ha.le mono_arr l02) (hf.le mono_func l02) fun b2 h3 l3 hb2 => ⟨b2, rfl, cond_not (fun _ => T (l02.trans l3)) (fun hy2 => Wk_self (hJ _ _ ⟨l3, (hb2 hy2).1, (hb2 hy2).2, (hb hy).1⟩))⟩⟩
  rintro _ h4 ⟨l24, few, ok, hin⟩
  have l04 := l02.trans l24
  have f1 := and_bd fuel 511 (by decide)
  have f2 := and_bd more 511 (by decide)
  have e511 : ((511 : Nat) : Int) = 511 := rfl
  rw [e511] at f1 f2
  generalize bits .and .i64 fuel 511 = fu at *
  generalize bits .and .i64 more 511 = mo at *
  have hw : IntKind.wrap .i64 (fu + mo) = fu + mo := w64 (by omega) (by omega)
  rw [hw]
  refine ⟨(sa, sf, p.main, ()), (b4'.le l24).cells, ?_⟩
  refine c_RunB (ha.le mono_arr l04) (hf.le mono_func l04) (hi.le mono_row l04) few nums hI (by omega) (by omega) fun x1 e1 r9 h7 l7 b9 res1 => ?_
  have l07 := l04.trans l7
  refine ⟨(sa, sf, p.main, ()), ((b4'.le l24).le l7).cells, ?_⟩
  refine c_RunB (ha.le mono_arr l07) (hf.le mono_func l07) (hi.le mono_row l07) few nums hI (by omega) (by omega) fun x2 e2 r11 h10 l10 b11 res2 => ?_
  have l010 := l07.trans l10
  have b9' := b9.le l10
  have res1' := res1.le l10
  rcases res1' with ⟨hn, _⟩ | ⟨_, hn, rfl, rfl⟩ | ⟨_, S, hS, rfl, v1, t1, s1, d1, k1, m1⟩
  · exact absurd ok hn
  · exact cond_nei (fun _ => cond_eqi (fun _ => ⟨_, b9'.cell rfl, TB l010 rfl⟩) (fun n => absurd rfl n)) (fun e => by cases e)
  obtain ⟨p1, p2, p3, p4⟩ := runP_split hS f1.1
  refine cond_nei (fun n => absurd rfl n) (fun _ => ⟨(sa, sf, p.main, ()), (((b4'.le l24).le l7).le l10).cells, x1.steps, b9'.cell rfl, ?_⟩)
  refine c_RunB (ha.le mono_arr l010) (hf.le mono_func l010) (hi.le mono_row l010) few nums hI (by omega) (by omega) fun x3 e3 r13 h15 l15 b13 res3 => ?_
  have l015 := l010.trans l15
  refine ⟨(sa, sf, p.main, ()), ((((b4'.le l24).le l7).le l10).le l15).cells, x1.steps, (b9'.le l15).cell rfl, ?_⟩
  have hw1 : IntKind.wrap .i64 (x1.steps - 1) = S.steps - 1 := by rw [s1]; exact w64 (by omega) (by omega)
  refine c_RunB (fuel := IntKind.wrap .i64 (x1.steps - 1)) (ha.le mono_arr l015) (hf.le mono_func l015) (hi.le mono_row l015) few nums hI (by omega) (by rw [hw1]; omega) fun x4 e4 r15 h18 l18 b15 res4 => ?_
  rw [hw1] at res4
  have l018 := l015.trans l18
  have b9z := (b9'.le l15).le l18
  have b11z := (b11.le l15).le l18
  have b13z := b13.le l18
  have k1z := (k1.le mono_enc l15).le mono_enc l18
  rcases (res2.le l15).le l18 with ⟨hn, _⟩ | ⟨_, hn, _⟩ | ⟨_, S2, hS2, rfl, v2, t2, s2, d2, k2, m2⟩
  · exact absurd ok hn
  · rw [p3 (fu + mo) (by omega)] at hn; cases hn
  rw [p3 (fu + mo) (by omega)] at hS2
  cases hS2
  rcases res3.le l18 with ⟨hn, _⟩ | ⟨_, hn, _⟩ | ⟨_, S3, hS3, rfl, v3, t3, s3, d3, k3, m3⟩
  · exact absurd ok hn
  · rw [p3 x1.steps (by omega)] at hn; cases hn
  rw [p3 x1.steps (by omega)] at hS3
  cases hS3
  rcases res4 with ⟨hn, _⟩ | ⟨_, hn, rfl, _⟩ | ⟨_, S4, hS4, _⟩
  · exact absurd ok hn
  · have q : ∀ {a b : Int}, a = b → (a == b) = true := fun e => by rw [e]; exact beq_self_eq_true _
    refine cond_eqi (fun _ => cond_eqi (fun _ => cond_eqi (fun _ => ⟨_, b9z.cell rfl, _, b11z.cell rfl, cond_eqi (fun _ => ?_) (fun n => absurd (v1.trans v2.symm) n)⟩) (fun n => absurd rfl n)) (fun n => absurd rfl n)) (fun n => absurd rfl n)
    refine ⟨_, b9z.cell rfl, _, b11z.cell rfl, cond_eqi (fun _ => ⟨_, b9z.cell rfl, _, b11z.cell rfl, cond_eqi (fun _ => ⟨_, b9z.cell rfl, _, b11z.cell rfl, c_leaks k1z k2 ⟨_, rfl, ?_⟩⟩) (fun n => absurd (t1.trans t2.symm) n)⟩) (fun n => absurd (s1.trans s2.symm) n)⟩
    rw [decide_eq_true rfl]
    exact ⟨_, b13z.cell rfl, _, b9z.cell rfl, cond_eqi (fun _ => ⟨_, b13z.cell rfl, _, b9z.cell rfl, TB l018 (q (s3.trans s1.symm))⟩) (fun n => absurd (v3.trans v1.symm) n)⟩
  · rw [p4 (S.steps - 1) (by omega)] at hS4; cases hS4
end Go.Proofs.Ytapdnglpchejlaa

/- SimFuel: the row: whatever the input, the law returns true, and the input reads as it did. -/
namespace Go.Proofs.Ytapdnglpchejlaa
open Go Go.VL Go.ChangeShapes Go.WideShapes Go.ChangeAt Go.RowKit

theorem u4b : Try.prog.underlying 4 = some .bool := by kernel_rfl
theorem own : ownKnob Try.prog.godebug = none := by kernel_rfl
theorem laidOut : laidOutB Try.prog = true := by kernel_rfl
set_option maxRecDepth 100000 in
theorem lifted6 (os : Os) (started : os.Started) (H : Type) (enc : TypeId × Value → H) :
    ReturnsInHanded {} Try.checked os 6 .any (Rows.simFuelSpec.pre6 enc Try.prog Try.f6 Rows.simFuelRow.domain false) (Rows.simFuelSpec.post enc Try.prog Try.f6 false true false false) := by
  refine returnsInHanded_of_change (C := Try.checked) own started (by kernel_rfl) Try.func6
    (ChangeSpec.witness6 (enc := enc) (C := Try.checked) false ⟨#[], #[.agg #[.slice none 0 0, .slice none 0 0, .int .i64 0], .slice none 0 0, .int .i64 0, .int .i64 0], []⟩ 8 (by kernel_rfl) (by kernel_rfl) (by kernel_rfl) (by kernel_rfl)) ?_
  intro W base args ds gs before hval0 hW hcnd _
  have hW' := hW
  obtain ⟨p, q, hA0, hV, rfl, hfz, hnd⟩ := hW
  have hA : DataW.TrodAll enc Try.prog W 0 (fun _ => true) true Try.f6.params.toList args.toList ds p := hA0
  have hval : ∀ (j : Nat) t v, Try.f6.params[j]? = some t → args[j]? = some v → Value.okWide Try.prog W .any base t v := hval0
  rw [show Try.f6.params = #[25, 26, 3, 3] from by kernel_rfl] at hA hval
  obtain ⟨v0, vs0, d0, ds0, p0, q0, hargs, rfl, rfl, h0, r0⟩ := trodAll_cons hA
  obtain ⟨v1, vs1, d1, ds1, p1, q1, rfl, rfl, rfl, h1, r1⟩ := trodAll_cons r0
  obtain ⟨v2, vs2, d2, ds2, p2, q2, rfl, rfl, rfl, h2, r2⟩ := trodAll_cons r1
  obtain ⟨v3, vs3, d3, ds3, p3, q3, rfl, rfl, rfl, h3, r3⟩ := trodAll_cons r2
  obtain ⟨rfl, rfl, rfl⟩ := trodAll_nil r3
  obtain rfl : args = #[v0, v1, v2, v3] := by cases args; simp_all
  obtain ⟨rfl, rfl⟩ := trodVars_none hV
  have k0 := h0
  have k1 := h1
  have k2 := h2
  have k3 := h3
  have lt0 : ∀ x ∈ p0, x.block < W.heap.size := by obtain ⟨m, hm⟩ := k0; exact DataW.trod_lt m _ _ _ hm
  have lt1 : ∀ x ∈ p1, x.block < W.heap.size := by obtain ⟨m, hm⟩ := k1; exact DataW.trod_lt m _ _ _ hm
  have lt2 : ∀ x ∈ p2, x.block < W.heap.size := by obtain ⟨m, hm⟩ := k2; exact DataW.trod_lt m _ _ _ hm
  have lt3 : ∀ x ∈ p3, x.block < W.heap.size := by obtain ⟨m, hm⟩ := k3; exact DataW.trod_lt m _ _ _ hm
  obtain ⟨m0, hm0⟩ := h0
  obtain ⟨m1, hm1⟩ := h1
  obtain ⟨m2, hm2⟩ := h2
  obtain ⟨m3, hm3⟩ := h3
  obtain ⟨sa0, sf0, pr0, e0, ha0, hf0, nums0⟩ := rd_progN ⟨m0, _, hm0⟩
  obtain ⟨si1, ins1, e1, hi1, hI1⟩ := rd_rows ⟨m1, _, hm1⟩
  obtain ⟨n2, e2, w2⟩ := rd_int u3 ⟨m2, _, hm2⟩
  obtain ⟨n3, e3, w3⟩ := rd_int u3 ⟨m3, _, hm3⟩
  have ev0 : v0 = .agg ⟨[sV sa0, sV sf0, iV pr0.main]⟩ := by
    cases v0 <;> simp [Value.cells] at e0
    rename_i cs
    exact congrArg Value.agg (Array.ext' e0)
  have ev1 : v1 = sV si1 := by
    obtain ⟨a, l, c, rfl⟩ := okWide_slice u26r (hval 1 26 v1 rfl rfl)
    simpa [Value.cells] using e1
  have ev2 : v2 = iV n2 := by
    obtain ⟨m, rfl⟩ := okWide_int u3 (hval 2 3 v2 rfl rfl)
    simpa [Value.cells] using e2
  have ev3 : v3 = iV n3 := by
    obtain ⟨m, rfl⟩ := okWide_int u3 (hval 3 3 v3 rfl rfl)
    simpa [Value.cells] using e3
  subst ev0 ev1 ev2 ev3
  refine ((walkFuel ha0 hf0 nums0 hi1 hI1 (wf_I64 w2) (wf_I64 w3)).2 W (sees_of W)).mono fun e W' ⟨kept, v, h', he, hs, hv, hle⟩ => ?_
  subst he hv
  have bel := below_of kept hs hle
  exact ⟨_, rfl, _, _, _, [], _, [], hW', trodAll_mk1 (shut_bool u4b _), (trodAll_cons_mk (Below.trod laidOut (by kernel_rfl) (of_decide_eq_true (by kernel_rfl)) k0 bel lt0) (trodAll_cons_mk (Below.trod laidOut (by kernel_rfl) (of_decide_eq_true (by kernel_rfl)) k1 bel lt1) (trodAll_cons_mk (Below.trod laidOut (by kernel_rfl) (of_decide_eq_true (by kernel_rfl)) k2 bel lt2) (trodAll_cons_mk (Below.trod laidOut (by kernel_rfl) (of_decide_eq_true (by kernel_rfl)) k3 bel lt3) trodAll_mk0)))), rfl, bel.frame _, fun h => by cases h⟩
theorem over6 : Rows.simFuelRow.holds Try.pinned (OpenSpec.ofChange Rows.simFuelSpec) :=
  OpenClaim.holds_of_wide 6 Try.f6 rfl rfl rfl rfl rfl rfl rfl ⟨rfl, rfl, rfl, rfl, rfl⟩ rfl rfl rfl rfl rfl (by kernel_rfl) Try.func6 (by kernel_rfl)
    (of_decide_eq_true (by kernel_rfl)) (by unfold Func.isWrapper; first | (rw [if_pos (by decide +kernel)]; kernel_rfl) | (rw [if_neg (by decide +kernel)]; exact ⟨rfl, rfl⟩))
    (fun os started H enc _ => lifted6 os started H enc)
theorem proved6 : Rows.SimFuelSaid := over6
#print axioms proved6
end Go.Proofs.Ytapdnglpchejlaa
