/- SimRuns: the row: whatever the input, the law returns true, and the input reads as it did. -/
import Derived.Test.YtapdnglpchejlaaZSimRuns4
import Derived.Test.YtapdnglpchejlaaRows
import Derived.WalkKit
import Derived.ProofKit
import Derived.OpenShut
import Derived.ChangeOld
import Derived.Below
namespace Go.Proofs.Ytapdnglpchejlaa
open Go Go.VL

theorem box_own {h : V} {r n sz : Nat} {cs : List Value} {T : TypeId} (b : Box h r cs T) (hl : cs.length = n * sz) (hn : n ≤ 140737488355328) : OwnS (fun _ => none) h ⟨some ⟨r, 0, none⟩, n, n⟩ T sz cs :=
  ⟨hl, Nat.le_refl _, hn, .inr ⟨r, 0, _, rfl, rfl, b, by simp [hl], by simp [← hl]⟩⟩
theorem box_ints {h : V} {r : Nat} {l : List Int} {T : TypeId} (b : Box h r (l.map (Value.int .i64)) T) (hn : l.length ≤ 140737488355328) : isInts h ⟨some ⟨r, 0, none⟩, l.length, l.length⟩ l := (box_own (sz := 1) b (by simp) hn).sl fun _ _ _ h => h
theorem box_inss {h : V} {r : Nat} {ys : List InsH} {xs : List InsD} {T : TypeId} (b : Box h r (ys.flatMap encI) T) (hl : ys.length = xs.length) (hn : ys.length ≤ 1000) (hq : ∀ (k : Nat) x y, xs[k]? = some x → ys[k]? = some y → QI h x y) : isInss h ⟨some ⟨r, 0, none⟩, ys.length, ys.length⟩ xs :=
  own_sl (Q := QI) (enc := encI) (fun _ => rfl) (by omega) QI.rep QI.le (box_own (sz := 7) b (flat_len (enc := encI) (sz := 7) (fun _ => rfl) _) (by omega)) hl (Le.refl _) hq
theorem box_edges {h : V} {r : Nat} {ys : List EdgeH} {xs : List EdgeD} {T : TypeId} (b : Box h r (ys.flatMap encE) T) (hl : ys.length = xs.length) (hn : ys.length ≤ 1000) (hq : ∀ (k : Nat) x y, xs[k]? = some x → ys[k]? = some y → QE h x y) : isEdges h ⟨some ⟨r, 0, none⟩, ys.length, ys.length⟩ xs :=
  own_sl (Q := QE) (enc := encE) (fun _ => rfl) (by omega) QE.rep QE.le (box_own (sz := 2) b (flat_len (enc := encE) (sz := 2) (fun _ => rfl) _) (by omega)) hl (Le.refl _) hq
theorem box_blocks {h : V} {r : Nat} {ys : List BlkH} {xs : List BlockD} {T : TypeId} (b : Box h r (ys.flatMap encB) T) (hl : ys.length = xs.length) (hn : ys.length ≤ 1000) (hq : ∀ (k : Nat) x y, xs[k]? = some x → ys[k]? = some y → QB h x y) : isBlocks h ⟨some ⟨r, 0, none⟩, ys.length, ys.length⟩ xs :=
  own_sl (Q := QB) (enc := encB) (fun _ => rfl) (by omega) QB.rep QB.le (box_own (sz := 6) b (flat_len (enc := encB) (sz := 6) (fun _ => rfl) _) (by omega)) hl (Le.refl _) hq
theorem box_funcs {h : V} {r : Nat} {ys : List FunH} {xs : List FuncD} {T : TypeId} (b : Box h r (ys.flatMap encF) T) (hl : ys.length = xs.length) (hn : ys.length ≤ 1000) (hq : ∀ (k : Nat) x y, xs[k]? = some x → ys[k]? = some y → QF h x y) : isFuncs h ⟨some ⟨r, 0, none⟩, ys.length, ys.length⟩ xs :=
  own_sl (Q := QF) (enc := encF) (fun _ => rfl) (by omega) QF.rep QF.le (box_own (sz := 2) b (flat_len (enc := encF) (sz := 2) (fun _ => rfl) _) (by omega)) hl (Le.refl _) hq
theorem all1 {α β : Type} {Q : α → β → Prop} {x : α} {y : β} (h : Q x y) : ∀ (k : Nat) a b, [x][k]? = some a → [y][k]? = some b → Q a b
  | 0, _, _, h1, h2 => by cases h1; cases h2; exact h
  | k + 1, _, _, h1, _ => by simp at h1
theorem allC {α β : Type} {Q : α → β → Prop} {x : α} {y : β} {xs : List α} {ys : List β} (h : Q x y) (ht : ∀ (k : Nat) a b, xs[k]? = some a → ys[k]? = some b → Q a b) : ∀ (k : Nat) a b, (x :: xs)[k]? = some a → (y :: ys)[k]? = some b → Q a b
  | 0, _, _, h1, h2 => by cases h1; cases h2; exact h
  | k + 1, a, b, h1, h2 => ht k a b h1 h2
/- the document's example -/
def hdB : BlockD := ⟨[], [⟨1, 1, [], 5, 0, 0, 0⟩], ⟨3, 1, [], 0⟩⟩
def hdP : ProgD := ⟨[], [⟨⟨#[]⟩, [hdB]⟩], 0⟩
theorem hdOk : CheckOk hdP := chk_of (by decide)
theorem hdFew : FewOk hdP := by
  refine ⟨by decide, by decide, fun f hf => ?_⟩
  rw [List.mem_singleton.1 hf]
  refine ⟨by decide, by decide, fun b hb => ?_⟩
  rw [List.mem_singleton.1 hb]
  exact ⟨by decide, by decide, by decide, fun i hi => by rw [List.mem_singleton.1 hi]; decide, fun w hw => by simp [hdB] at hw⟩
theorem hdNums : NumsOk hdP := fun f hf b hb i hi => by
  rw [List.mem_singleton.1 hf] at hb
  rw [List.mem_singleton.1 hb] at hi
  rw [List.mem_singleton.1 hi]
  exact ⟨by decide, by decide⟩
def see (o : Option MS) : Option (Int × Int × Nat × Int × Int) := o.map fun S => (S.val, S.steps, S.leaks.length, S.deep, S.trap)
theorem hdRun : see (runP hdP [] 10) = some (5, 2, 0, 1, 0) := by rfl
theorem c_head {h : V} {R : Value → V → Prop} (hR : ∀ h', Le h h' → R (.bool true) h') : ACalls Try.prog 13 [] h R := by
  refine S13_ok _ _ (New_box fun r5 h1 hr5 l1 b5 => New_box fun r8 h2 hr8 l2 b8 => New_box fun r10 h3 hr10 l3 b10 => New_box fun r1 h4 hr1 l4 b1 => StL_box (h := h3) b1 rfl l4 hr1 fun h5 l5 b1' f5 => ?_)
  have l25 := l3.trans l5
  have l15 := l2.trans l25
  have hi : isInss h5 ⟨some ⟨r5, 0, none⟩, 1, 1⟩ hdB.ins := box_inss (ys := [⟨1, 1, ⟨none, 0, 0⟩, 5, 0, 0, 0⟩]) (b5.le l15) rfl (by simp) (all1 ⟨rfl, rfl, rfl, rfl, rfl, rfl, isSl_nil _ _ _⟩)
  have hb : isBlocks h5 ⟨some ⟨r8, 0, none⟩, 1, 1⟩ [hdB] := box_blocks (ys := [⟨⟨none, 0, 0⟩, ⟨some ⟨r5, 0, none⟩, 1, 1⟩, 3, 1, ⟨none, 0, 0⟩, 0⟩]) (b8.le l25) rfl (by simp) (all1 ⟨rfl, rfl, rfl, isSl_nil _ _ _, hi, isSl_nil _ _ _⟩)
  have hf : isFuncs h5 ⟨some ⟨r10, 0, none⟩, 1, 1⟩ hdP.funcs := box_funcs (ys := [⟨⟨#[]⟩, ⟨some ⟨r8, 0, none⟩, 1, 1⟩⟩]) (b10.le l5) rfl (by simp) (all1 ⟨rfl, hb⟩)
  refine ⟨(⟨none, 0, 0⟩, ⟨some ⟨r10, 0, none⟩, 1, 1⟩, 0, ()), b1'.cells, ?_⟩
  have l05 := l1.trans l15
  refine c_Run (p := hdP) (sa := ⟨none, 0, 0⟩) (si := ⟨none, 0, 0⟩) (ins := []) (isSl_nil _ _ _) hf (isSl_nil _ _ _) hdFew hdNums (by simp) (by decide) (by decide) (fun hn => absurd hdOk hn) (fun _ e => ?_) (fun _ S h6 lk ms e l6 hlk hms => ?_)
  · have := hdRun
    rw [e] at this; cases this
  · have hs := hdRun
    rw [e] at hs
    have hs := Option.some.inj hs
    simp only [Prod.mk.injEq] at hs
    obtain ⟨e1, e2, e3, e4, _⟩ := hs
    refine ⟨((S.val, S.trap, lk, S.steps, S.deep, ms, ()), 0, ()), rfl, New_box fun r2 h7 hr2 l7 b2 => StL_box (h := h6) b2 rfl l7 hr2 fun h8 l8 b2' f8 => ?_⟩
    refine cond_eqi (fun _ => ⟨S.val, b2'.cell rfl, cond_eqi (fun _ => ⟨S.steps, b2'.cell rfl, cond_eqi (fun _ => ⟨lk, b2'.cell rfl, cond_eqi (fun _ => ⟨S.deep, b2'.cell rfl, Wk_self ?_⟩) (fun n => absurd (by rw [hlk.len, e3]; rfl) n)⟩) (fun n => absurd e2 n)⟩) (fun n => absurd e1 n)⟩) (fun n => absurd rfl n)
    have : (S.deep == 1) = true := by rw [e4]; rfl
    rw [this]
    exact hR h8 ((l05.trans l6).trans l8)
theorem c_few {h : V} {si : Sl} {ins : List (List Int)} {R : Value → V → Prop} (hi : isRows h si ins) (hR : ∀ b : Bool, (b = true → ins.length ≤ 20 ∧ ∀ w ∈ ins, w.length ≤ 100) → R (.bool b) h) : ACalls Try.prog 15 [sV si] h R := by
  refine S15_ok _ _ _ (cond_dec (fun _ => Wk_self (hR false fun e => by cases e)) (fun g => ?_))
  have g : ¬ ((si.n : Nat) : Int) > 20 := g
  refine Lp_count ins.length (fun k st hh => st = ((k : Int), ()) ∧ h = hh ∧ ∀ w ∈ ins.take k, w.length ≤ 100) ⟨rfl, rfl, by simp⟩ ?_
  rintro k _ _ K hk ⟨rfl, rfl, hw⟩ hK
  refine cond_dec (fun hlt => ?_) (fun hge => ?_)
  · have hk' : k < ins.length := by have := hi.len; simp only at hlt; omega
    refine hi.ixn hk' fun a ⟨s, hs, hsi⟩ => ⟨s, hs, cond_dec (fun _ => Wk_self (hR false fun e => by cases e)) (fun g2 => Wk_self (hK _ _ hk' ⟨by rw [wnat hk' hi.bd], rfl, ?_⟩))⟩
    refine mem_take_succ hk' hw ?_
    have g2 : ¬ ((s.n : Nat) : Int) > 100 := g2
    rw [hsi.len] at g2
    omega
  · have : k = ins.length := by have := hi.len; simp only at hge; omega
    subst this
    rw [List.take_of_length_le (Nat.le_refl _)] at hw
    exact Wk_self (hR true fun _ => ⟨by rw [hi.len] at g; omega, hw⟩)
theorem c_okP {h : V} {p : ProgD} {sa sf : Sl} {R : Value → V → Prop} (ha : isArrs h sa p.arrays) (hf : isFuncs h sf p.funcs) (hR : ∀ b h', Le h h' → (b = true → FewOk p ∧ CheckOk p) → R (.bool b) h') : ACalls Try.prog 18 [.agg ⟨[sV sa, sV sf, iV p.main]⟩] h R := by
  refine S18_ok _ _ _ _ _ (New_box fun r1 h1 hr1 l1 b1 => ?_)
  have no : ∀ {hh}, Le h hh → Wk hh fun h' => R (.bool false) h' := fun l => Wk_self (hR false _ l fun e => by cases e)
  refine Cut_i (fun _ hh => h1 = hh ∧ FewOk p ∧ CheckOk p) (fun J hJ => ?_) ?_
  · refine ⟨(sa, sf, p.main, ()), b1.cells, c_Few (ha.le mono_arr l1) (hf.le mono_func l1) fun b hb => ⟨b, rfl, cond_not (fun _ => no l1) (fun hy => ?_)⟩⟩
    have few := hb hy
    exact ⟨(sa, sf, p.main, ()), b1.cells, c_Check (ha.le mono_arr l1) (hf.le mono_func l1) (few_B few) fun n _ hn => ⟨n, rfl, cond_nei (fun _ => no l1) (fun e => Wk_self (hJ _ _ ⟨rfl, few, hn.1 e⟩))⟩⟩
  · rintro _ _ ⟨rfl, few, ok⟩
    refine ⟨sa, b1.cell rfl, ?_⟩
    have ha1 := ha.le mono_arr l1
    refine Lp_count p.arrays.length (fun k st hh => st = ((k : Int), ()) ∧ Le h1 hh) ⟨rfl, Le.refl _⟩ ?_
    rintro k _ h3 K hk ⟨rfl, l3⟩ hK
    refine cond_dec (fun hlt => ?_) (fun hge => Wk_self (hR true _ (l1.trans l3) fun _ => ⟨few, ok⟩))
    have hk' : k < p.arrays.length := by have := ha.len; simp only at hlt; omega
    refine elem_arr ha1 l3 hk' rfl rfl fun r4 h5 l5 l5' hr4 b4 => ⟨_, b4.cell rfl, cond_dec (fun _ => no (l1.trans l5)) (fun _ => Wk_self (hK _ _ hk' ⟨by rw [wnat hk' ha.bd], l5⟩))⟩
theorem c_leaks {h : V} {s t : Sl} {l m : List LeakD} {R : Value → V → Prop} (hs : isLeaks h s l) (ht : isLeaks h t m) (hR : R (.bool (decide (l = m))) h) : ACalls Try.prog 21 [sV s, sV t] h R := by
  refine S21_ok _ _ _ _ (cond_nei (fun hne => Wk_self ?_) (fun he => ?_))
  · have hne : ((s.n : Nat) : Int) ≠ ((t.n : Nat) : Int) := hne
    rw [hs.len, ht.len] at hne
    have : l ≠ m := fun e => hne (by rw [e])
    rw [decide_eq_false this] at hR
    exact hR
  · have he : ((s.n : Nat) : Int) = ((t.n : Nat) : Int) := he
    rw [hs.len, ht.len] at he
    refine Lp_count l.length (fun k st hh => st = ((k : Int), ()) ∧ h = hh ∧ l.take k = m.take k) ⟨rfl, rfl, rfl⟩ ?_
    rintro k _ _ K hk ⟨rfl, rfl, hkm⟩ hK
    refine cond_dec (fun hlt => ?_) (fun hge => ?_)
    · have hk' : k < l.length := by have := hs.len; simp only at hlt; omega
      have hkm' : k < m.length := by omega
      refine hs.ixn hk' fun a ha => ⟨(l[k].kind, l[k].a, l[k].b, ()), ha, ht.ixn hkm' fun a' ha' => ⟨(m[k].kind, m[k].a, m[k].b, ()), ha', cond_not (fun e => Wk_self ?_) (fun e => ?_)⟩⟩
      · have : l ≠ m := fun e' => by
          subst e'
          simp at e
        rw [decide_eq_false this] at hR
        exact hR
      · refine Wk_self (hK _ _ hk' ⟨by rw [wnat hk' hs.bd], rfl, ?_⟩)
        have e1 : l[k] = m[k] := by
          simp only [Bool.and_eq_true, beq_iff_eq, and_true] at e
          cases h1 : l[k] with
          | mk a b c =>
            cases h2 : m[k] with
            | mk a' b' c' =>
              rw [h1, h2] at e
              obtain ⟨e1, e2, e3⟩ := e
              simp only at e1 e2 e3
              rw [e1, e2, e3]
        rw [List.take_succ_eq_append_getElem hk', List.take_succ_eq_append_getElem hkm', hkm, e1]
    · have : k = l.length := by have := hs.len; simp only at hge; omega
      subst this
      rw [List.take_of_length_le (Nat.le_refl _), List.take_of_length_le (by omega)] at hkm
      rw [decide_eq_true hkm] at hR
      exact Wk_self hR
end Go.Proofs.Ytapdnglpchejlaa

/- Plain: fuel. And runs with their result's variable. -/
namespace Go.Proofs.Ytapdnglpchejlaa
open Go Go.VL

section
variable {p : ProgD} {S S' : MS} {rest : List FrD} {f : FrD}
theorem enter_steps {fn dst : Int} {args : List Int} (h : enterS p S fn args dst = some S') : S'.steps = S.steps ∧ S'.fin = S.fin := by
  unfold enterS at h
  split at h
  · cases h
  · cases h; exact ⟨rfl, rfl⟩
theorem ite_st {c : Prop} [Decidable c] {A B : MS} {x : Int} (ha : A.steps = x) (hb : B.steps = x) : (if c then A else B).steps = x := by by_cases h : c <;> simp only [h, if_true, if_false] <;> assumption
theorem do_steps {i : InsD} (h : doS p S rest f i = some S') : S'.steps = S.steps := by
  unfold doS at h
  by_cases e : i.op = 1
  · rw [if_pos e] at h; cases h; rfl
  rw [if_neg e] at h
  by_cases e2 : i.op = 2
  · rw [if_pos e2] at h; cases h
    refine ite_st ?_ ?_
    · show (if _ then _ else _ : MS).steps = _
      exact ite_st rfl rfl
    · show (if _ then _ else _ : MS).steps = _
      exact ite_st rfl rfl
  rw [if_neg e2] at h
  by_cases e3 : i.op = 3
  · rw [if_pos e3] at h; cases h; rfl
  rw [if_neg e3] at h
  by_cases e4 : i.op = 4
  · rw [if_pos e4] at h; cases h; rfl
  rw [if_neg e4] at h
  by_cases e5 : i.op = 5
  · rw [if_pos e5] at h; cases h; exact ite_st rfl rfl
  rw [if_neg e5] at h
  by_cases e6 : i.op = 6
  · rw [if_pos e6] at h; cases h; exact ite_st rfl rfl
  rw [if_neg e6] at h
  by_cases e7 : i.op = 7
  · rw [if_pos e7] at h; exact (enter_steps h).1
  rw [if_neg e7] at h; cases h; rfl
theorem finish_steps {e : EndD} : (finishS p S rest f e).steps = S.steps := by
  unfold finishS
  refine ite_st (ite_st rfl rfl) (ite_st rfl (ite_st rfl rfl))
theorem step_steps (h : stepS p S rest f = some S') : S'.steps = S.steps := by
  unfold stepS at h
  simp only at h
  split at h
  · cases h; exact finish_steps
  · have := do_steps (S := { S with fs := rest ++ [{ f with pos := f.pos + 1 }] }) h
    exact this
theorem runS_split : ∀ (n : Nat) (S S' : MS), runS p n S = some S' → S.steps ≤ S'.steps ∧ S'.steps - S.steps ≤ n ∧ S'.fin = true ∧ (∀ m : Nat, S'.steps - S.steps ≤ (m : Int) → runS p m S = some S') ∧ (∀ m : Nat, (m : Int) < S'.steps - S.steps → runS p m S = none)
  | 0, S, S', h => by
    unfold runS at h
    split at h
    · rename_i hf
      cases h
      exact ⟨Int.le_refl _, by omega, hf, fun m _ => runS_fin hf m, fun m hm => by omega⟩
    · cases h
  | n + 1, S, S', h => by
    by_cases hf : S.fin = true
    · rw [runS_fin hf] at h
      cases h
      exact ⟨Int.le_refl _, by omega, hf, fun m _ => runS_fin hf m, fun m hm => by omega⟩
    · have hf' : S.fin = false := by simpa using hf
      cases ht : topOf S.fs with
      | none =>
        unfold runS at h
        rw [if_neg hf, ht] at h
        cases h
      | some rf =>
        obtain ⟨rest, f⟩ := rf
        have hS := topOf_some.1 ht
        rw [runS_succ hf' hS] at h
        cases hs : stepS p { S with steps := S.steps + 1 } rest f with
        | none => rw [hs] at h; cases h
        | some S1 =>
          rw [hs] at h
          have h : runS p n S1 = some S' := h
          have e : S1.steps = S.steps + 1 := step_steps hs
          obtain ⟨a1, a2, a3, a4, a5⟩ := runS_split n S1 S' h
          refine ⟨by omega, by omega, a3, fun m hm => ?_, fun m hm => ?_⟩
          · obtain ⟨k, rfl⟩ : ∃ k, m = k + 1 := ⟨m - 1, by omega⟩
            rw [runS_succ hf' hS, hs]
            exact a4 k (by omega)
          · cases m with
            | zero => exact runS_zero hf'
            | succ k =>
              rw [runS_succ hf' hS, hs]
              exact a5 k (by omega)
theorem runP_split {ins : List (List Int)} {fuel : Int} (h : runP p ins fuel = some S') (h0 : 0 ≤ fuel) : 1 ≤ S'.steps ∧ S'.steps ≤ fuel ∧ (∀ g : Int, S'.steps ≤ g → runP p ins g = some S') ∧ (∀ g : Int, g < S'.steps → runP p ins g = none) := by
  unfold runP at *
  cases he : enterS p (startS p (startM p.arrays ins)) p.main [] 0 with
  | none => rw [he] at h; cases h
  | some S1 =>
    rw [he] at h
    have h : runS p fuel.toNat S1 = some S' := h
    obtain ⟨e1, e2⟩ := enter_steps he
    have e1 : S1.steps = 0 := e1
    have e2 : S1.fin = false := e2
    obtain ⟨a1, a2, a3, a4, a5⟩ := runS_split _ _ _ h
    have hpos : 1 ≤ S'.steps := by
      apply Classical.byContradiction
      intro hn
      have := a4 0 (by omega)
      rw [runS_zero e2] at this; cases this
    refine ⟨hpos, by omega, fun g hg => ?_, fun g hg => ?_⟩
    · exact a4 g.toNat (by omega)
    · by_cases g0 : 0 ≤ g
      · exact a5 g.toNat (by omega)
      · have : g.toNat = 0 := by omega
        show runS p g.toNat S1 = none
        rw [this]; exact runS_zero e2
end
theorem and_bd (x : Int) (m : Nat) (hm : m < 4611686018427387904) : 0 ≤ bits .and .i64 x m ∧ bits .and .i64 x m ≤ m := by
  unfold bits
  simp only
  have h1 : ((BitVec.ofInt 64 x &&& BitVec.ofInt 64 (m : Int)).toNat : Int) ≤ m := by
    rw [BitVec.toNat_and]
    have h2 : (BitVec.ofInt 64 (m : Int)).toNat = m := by
      rw [BitVec.toNat_ofInt]
      omega
    rw [h2]
    exact Int.ofNat_le.2 Nat.and_le_right
  show 0 ≤ IntKind.wrap .i64 (((BitVec.ofInt 64 x &&& BitVec.ofInt 64 (m : Int)).toNat : Nat) : Int) ∧ IntKind.wrap .i64 (((BitVec.ofInt 64 x &&& BitVec.ofInt 64 (m : Int)).toNat : Nat) : Int) ≤ _
  rw [w64 (by have : (0 : Int) ≤ ((BitVec.ofInt 64 x &&& BitVec.ofInt 64 (m : Int)).toNat : Int) := Int.natCast_nonneg _; exact Int.le_trans (by decide) this) (Int.le_trans h1 (by omega))]
  exact ⟨Int.natCast_nonneg _, h1⟩
/- a run, and the variable that has its result -/
structure ResD where
  val : Int
  trap : Int
  lk : Sl
  steps : Int
  deep : Int
  ms : Sl
def ResD.cells (x : ResD) : List Value := [iV x.val, iV x.trap, sV x.lk, iV x.steps, iV x.deep, sV x.ms]
def RunRes (p : ProgD) (ins : List (List Int)) (fuel : Int) (h : V) (x : ResD) (e : Int) : Prop :=
  (¬ CheckOk p ∧ e = 40 ∧ x = ⟨0, 0, ⟨none, 0, 0⟩, 0, 0, ⟨none, 0, 0⟩⟩) ∨ (CheckOk p ∧ runP p ins fuel = none ∧ e = 41 ∧ x = ⟨0, 0, ⟨none, 0, 0⟩, 0, 0, ⟨none, 0, 0⟩⟩) ∨
    (CheckOk p ∧ ∃ S, runP p ins fuel = some S ∧ e = 0 ∧ x.val = S.val ∧ x.trap = S.trap ∧ x.steps = S.steps ∧ x.deep = S.deep ∧ isLeaks h x.lk S.leaks ∧ isRows h x.ms S.mem)
theorem RunRes.le {p : ProgD} {ins : List (List Int)} {fuel : Int} {h h' : V} {x : ResD} {e : Int} (r : RunRes p ins fuel h x e) (l : Le h h') : RunRes p ins fuel h' x e :=
  r.imp id fun r => r.imp id fun ⟨ok, S, a, b, c, d, e, f, g, i⟩ => ⟨ok, S, a, b, c, d, e, f, g.le mono_enc l, i.le mono_row l⟩
theorem c_RunB {h : V} {p : ProgD} {sa sf si : Sl} {ins : List (List Int)} {fuel : Int} {K : ((Int × Int × Sl × Int × Int × Sl × Unit) × Int × Unit) → Nat → V → Prop} (ha : isArrs h sa p.arrays) (hf : isFuncs h sf p.funcs) (hi : isRows h si ins) (few : FewOk p) (nums : NumsOk p) (hI : ∀ w ∈ ins, ∀ x ∈ w, I64 x) (hni : ins.length ≤ 1048576) (hfuel : fuel ≤ 2097152)
    (hK : ∀ x e r h', Le h h' → Box h' r (ResD.cells x) 33 → RunRes p ins fuel h' x e → K ((x.val, x.trap, x.lk, x.steps, x.deep, x.ms, ()), e, ()) r h') :
    CallK Try.prog 16 [.agg ⟨[sV sa, sV sf, iV p.main]⟩, sV si, iV fuel] h (.tup [.agg [.int .i64, .int .i64, .sl, .int .i64, .int .i64, .sl], .one (.int .i64)]) fun x h5 =>
      New h5 (.cells ⟨zeroRes⟩ 33) fun r9 h6 => StL h6 ⟨r9, 0, none⟩ 0 [iV x.1.1, iV x.1.2.1, sV x.1.2.2.1, iV x.1.2.2.2.1, iV x.1.2.2.2.2.1, sV x.1.2.2.2.2.2.1] fun h7 => K x r9 h7 := by
  have fin : ∀ (x : ResD) e h5, Le h h5 → RunRes p ins fuel h5 x e → ∃ y, (Value.tuple ⟨[.agg ⟨ResD.cells x⟩, iV e]⟩) = Rs.mk (.tup [.agg [.int .i64, .int .i64, .sl, .int .i64, .int .i64, .sl], .one (.int .i64)]) y ∧
      New h5 (.cells ⟨zeroRes⟩ 33) fun r9 h6 => StL h6 ⟨r9, 0, none⟩ 0 [iV y.1.1, iV y.1.2.1, sV y.1.2.2.1, iV y.1.2.2.2.1, iV y.1.2.2.2.2.1, sV y.1.2.2.2.2.2.1] fun h7 => K y r9 h7 := fun x e h5 l5 r5 =>
    ⟨((x.val, x.trap, x.lk, x.steps, x.deep, x.ms, ()), e, ()), rfl, New_box fun r h6 hr l6 b6 => StL_box (h := h5) b6 rfl l6 hr fun h7 l7 b7 _ => hK x e r h7 (l5.trans l7) b7 (r5.le l7)⟩
  refine c_Run ha hf hi few nums hI hni hfuel (fun hn h' l' => ?_) (fun ok e h' l' => ?_) (fun ok S h' lk ms e l' hlk hms => ?_)
  · exact fin ⟨0, 0, ⟨none, 0, 0⟩, 0, 0, ⟨none, 0, 0⟩⟩ 40 h' l' (.inl ⟨hn, rfl, rfl⟩)
  · exact fin ⟨0, 0, ⟨none, 0, 0⟩, 0, 0, ⟨none, 0, 0⟩⟩ 41 h' l' (.inr (.inl ⟨ok, e, rfl, rfl⟩))
  · exact fin ⟨S.val, S.trap, lk, S.steps, S.deep, ms⟩ 0 h' l' (.inr (.inr ⟨ok, S, e, rfl, rfl, rfl, rfl, rfl, hlk, hms⟩))
end Go.Proofs.Ytapdnglpchejlaa

/- What a row reads of a program whose numbers are in range, and of inputs. -/
namespace Go.Proofs.Ytapdnglpchejlaa
open Go Go.VL

theorem isSl_split {α : Type} {rep : V → Addr → α → Prop} {Q : α → Prop} {sz : Nat} {h : V} {s : Sl} {xs : List α} (hs : isSl (fun h a x => rep h a x ∧ Q x) sz h s xs) : isSl rep sz h s xs ∧ ∀ x ∈ xs, Q x := by
  obtain ⟨h1, h2, h3, h4⟩ := hs
  refine ⟨⟨h1, h2, h3, fun k hk => let ⟨a, ha, hr⟩ := h4 k hk; ⟨a, ha, hr.1⟩⟩, fun x hx => ?_⟩
  obtain ⟨k, hk, rfl⟩ := List.getElem_of_mem hx
  obtain ⟨a, ha, hr⟩ := h4 k hk
  exact hr.2
section
variable {H : Type} {enc : TypeId × Value → H} {w : World} {base : Nat} {spare : Nat → Bool} {held : Bool}
theorem wf_I64 {n : Int} (h : (Lit.int .i64 n).wf = true) : I64 n := by
  unfold Lit.wf at h
  rw [Bool.and_eq_true, decide_eq_true_eq, decide_eq_true_eq] at h
  have e1 : IntKind.min .i64 = -9223372036854775808 := by decide
  have e2 : IntKind.max .i64 = 9223372036854775807 := by decide
  rw [e1, e2] at h
  exact h
theorem rd_num {t : TypeId} {v : Value} (ht : Try.prog.underlying t = some (.int .i64)) (h : RdT enc w base spare held t [v]) : ∃ n, v = .int .i64 n ∧ I64 n := by
  obtain ⟨n, e, hw⟩ := rd_int ht h
  exact ⟨n, by cases e; rfl, wf_I64 hw⟩
theorem u45 : Try.prog.underlying 45 = some (.slice 2) := by kernel_rfl
theorem u26r : Try.prog.underlying 26 = some (.slice 45) := by kernel_rfl
theorem rd_words {cs : List Value} (h : RdT enc w base spare held 45 cs) : ∃ (s : Sl) (xs : List Int), cs = [sV s] ∧ isInts (V.of w) s xs ∧ ∀ x ∈ xs, I64 x := by
  obtain ⟨s, xs, e, hs⟩ := rd_slice (rep := fun h a x => repInt h a x ∧ I64 x) u45 (by kernel_rfl) (fun a cs' hat hl hr => by
    obtain ⟨n, rfl, hw⟩ := rd_int u2 hr
    exact ⟨n, by have := (rd_at hat hl).1; rwa [Addr.add_z] at this, wf_I64 hw⟩) h
  obtain ⟨h1, h2⟩ := isSl_split hs
  exact ⟨s, xs, e, h1, h2⟩
theorem rd_rows {cs : List Value} (h : RdT enc w base spare held 26 cs) : ∃ (s : Sl) (xs : List (List Int)), cs = [sV s] ∧ isRows (V.of w) s xs ∧ ∀ x ∈ xs, ∀ y ∈ x, I64 y := by
  obtain ⟨s, xs, e, hs⟩ := rd_slice (sz := 1) (rep := fun h a x => repRow h a x ∧ ∀ y ∈ x, I64 y) u26r (by kernel_rfl) (fun a cs' hat hl hr => by
    have hc := rd_at hat hl
    match cs', hl with
    | [x], _ =>
      obtain ⟨s, xs, e, hs, hx⟩ := rd_words hr
      cases e
      exact ⟨xs, ⟨s, by have := hc.1; rwa [Addr.add_z] at this, hs⟩, hx⟩) h
  obtain ⟨h1, h2⟩ := isSl_split hs
  exact ⟨s, xs, e, h1, h2⟩
theorem rd_inssN {cs : List Value} (h : RdT enc w base spare held 52 cs) : ∃ (s : Sl) (xs : List InsD), cs = [sV s] ∧ isSl (fun h a x => repIns h a x ∧ I64 x.num) 7 (V.of w) s xs :=
  rd_slice u48 (by kernel_rfl) (fun a cs' hat hl hr => by
    have f0 := rd_fieldT (j := 0) (o := 0) u60 (by kernel_rfl) (by kernel_rfl : Try.prog.cellsOf 47 = 1) hr
    have f1 := rd_fieldT (j := 1) (o := 1) u60 (by kernel_rfl) (by kernel_rfl : Try.prog.cellsOf 3 = 1) hr
    have f2 := rd_fieldT (j := 2) (o := 2) u60 (by kernel_rfl) (by kernel_rfl : Try.prog.cellsOf 48 = 1) hr
    have f3 := rd_fieldT (j := 3) (o := 3) u60 (by kernel_rfl) (by kernel_rfl : Try.prog.cellsOf 2 = 1) hr
    have f4 := rd_fieldT (j := 4) (o := 4) u60 (by kernel_rfl) (by kernel_rfl : Try.prog.cellsOf 49 = 1) hr
    have f5 := rd_fieldT (j := 5) (o := 5) u60 (by kernel_rfl) (by kernel_rfl : Try.prog.cellsOf 3 = 1) hr
    have f6 := rd_fieldT (j := 6) (o := 6) u60 (by kernel_rfl) (by kernel_rfl : Try.prog.cellsOf 3 = 1) hr
    have hc := rd_at hat hl
    match cs', hl with
    | [x0, x1, x2, x3, x4, x5, x6], _ =>
      obtain ⟨n0, rfl⟩ := rd_one u57 f0
      obtain ⟨n1, rfl⟩ := rd_one u3 f1
      obtain ⟨s, xs, e, hs⟩ := rd_ints f2
      obtain ⟨n3, rfl, w3⟩ := rd_num u2 f3
      obtain ⟨n4, rfl⟩ := rd_one u58 f4
      obtain ⟨n5, rfl⟩ := rd_one u3 f5
      obtain ⟨n6, rfl⟩ := rd_one u3 f6
      cases e
      exact ⟨⟨n0, n1, xs, n3, n4, n5, n6⟩, ⟨s, hs, hc⟩, w3⟩) h
theorem rd_blocksN {cs : List Value} (h : RdT enc w base spare held 61 cs) : ∃ (s : Sl) (xs : List BlockD), cs = [sV s] ∧ isSl (fun h a (x : BlockD) => repBlock h a x ∧ ∀ i ∈ x.ins, I64 i.num) 6 (V.of w) s xs :=
  rd_slice u44 (by kernel_rfl) (fun a cs' hat hl hr => by
    have f0 := rd_fieldT (j := 0) (o := 0) u55 (by kernel_rfl) (by kernel_rfl : Try.prog.cellsOf 48 = 1) hr
    have f1 := rd_fieldT (j := 1) (o := 1) u55 (by kernel_rfl) (by kernel_rfl : Try.prog.cellsOf 52 = 1) hr
    have f2 := rd_fieldT (j := 2) (o := 2) u55 (by kernel_rfl) (by kernel_rfl : Try.prog.cellsOf 58 = 4) hr
    have hc := rd_at hat hl
    match cs', hl with
    | [x0, x1, x2, x3, x4, x5], _ =>
      obtain ⟨s0, ps, e0, hs0⟩ := rd_ints f0
      obtain ⟨s1, is, e1, hs1⟩ := rd_inssN f1
      have g0 := rd_fieldT (j := 0) (o := 0) u53 (by kernel_rfl) (by kernel_rfl : Try.prog.cellsOf 53 = 1) f2
      have g1 := rd_fieldT (j := 1) (o := 1) u53 (by kernel_rfl) (by kernel_rfl : Try.prog.cellsOf 3 = 1) f2
      have g2 := rd_fieldT (j := 2) (o := 2) u53 (by kernel_rfl) (by kernel_rfl : Try.prog.cellsOf 56 = 1) f2
      have g3 := rd_fieldT (j := 3) (o := 3) u53 (by kernel_rfl) (by kernel_rfl : Try.prog.cellsOf 30 = 1) f2
      obtain ⟨n0, rfl⟩ := rd_one u49 g0
      obtain ⟨n1, rfl⟩ := rd_one u3 g1
      obtain ⟨s2, ws, e2, hs2⟩ := rd_edges g2
      obtain ⟨n3, rfl⟩ := rd_one u51 g3
      cases e0
      cases e1
      cases e2
      obtain ⟨hs1, hp1⟩ := isSl_split hs1
      exact ⟨⟨ps, is, ⟨n0, n1, ws, n3⟩⟩, ⟨s0, s1, s2, hs0, hs1, hs2, hc⟩, hp1⟩) h
theorem rd_funcsN {cs : List Value} (h : RdT enc w base spare held 23 cs) : ∃ (s : Sl) (xs : List FuncD), cs = [sV s] ∧ isSl (fun h a (x : FuncD) => repFunc h a x ∧ ∀ b ∈ x.blocks, ∀ i ∈ b.ins, I64 i.num) 2 (V.of w) s xs :=
  rd_slice u23 (by kernel_rfl) (fun a cs' hat hl hr => by
    have f0 := rd_fieldT (j := 0) (o := 0) u46 (by kernel_rfl) (by kernel_rfl : Try.prog.cellsOf 9 = 1) hr
    have f1 := rd_fieldT (j := 1) (o := 1) u46 (by kernel_rfl) (by kernel_rfl : Try.prog.cellsOf 61 = 1) hr
    have hc := rd_at hat hl
    match cs', hl with
    | [x, y], _ =>
      obtain ⟨n, e0⟩ := rd_string u9 f0
      obtain ⟨s, xs, e, hs⟩ := rd_blocksN f1
      cases e0
      cases e
      obtain ⟨hs, hp⟩ := isSl_split hs
      exact ⟨⟨n, xs⟩, ⟨s, hs, hc⟩, hp⟩) h
theorem rd_progN {cs : List Value} (h : RdT enc w base spare held 25 cs) : ∃ (sa sf : Sl) (p : ProgD), cs = [sV sa, sV sf, iV p.main] ∧ isArrs (V.of w) sa p.arrays ∧ isFuncs (V.of w) sf p.funcs ∧ NumsOk p := by
  have f0 := rd_fieldT (j := 0) (o := 0) u25 (by kernel_rfl) (by kernel_rfl : Try.prog.cellsOf 22 = 1) h
  have f1 := rd_fieldT (j := 1) (o := 1) u25 (by kernel_rfl) (by kernel_rfl : Try.prog.cellsOf 23 = 1) h
  have f2 := rd_fieldT (j := 2) (o := 2) u25 (by kernel_rfl) (by kernel_rfl : Try.prog.cellsOf 3 = 1) h
  have hl := len_T u25 (by kernel_rfl : Try.prog.cellsOf 25 = 3) h
  match cs, hl with
  | [x, y, z], _ =>
    obtain ⟨sa, as_, e0, ha⟩ := rd_arrs f0
    obtain ⟨sf, fs, e1, hf⟩ := rd_funcsN f1
    obtain ⟨n, rfl⟩ := rd_one u3 f2
    cases e0
    cases e1
    obtain ⟨hf, hp⟩ := isSl_split hf
    exact ⟨sa, sf, ⟨as_, fs, n⟩, rfl, ha, hf, hp⟩
end
end Go.Proofs.Ytapdnglpchejlaa

/- The law's own machine in memory. -/
namespace Go.Proofs.Ytapdnglpchejlaa
open Go Go.VL

structure OS where
  mem : List (List Int)
  lks : List LeakD
  left : Int
  trap : Int
  sp : Bool
def ownV (p : ProgD) (sa sf lk ms : Sl) (O : OS) : List Value := [sV sa, sV sf, iV p.main, sV ms, sV lk, iV O.left, iV O.trap, .bool O.sp]
structure OwnW (hB hh : V) (p : ProgD) (r : Nat) (sa sf lk ms : Sl) (rows : List Sl) (O : OS) : Prop where
  le : Le hB hh
  nil : hB r = none
  box : Box hh r (ownV p sa sf lk ms O) 41
  olk : OwnS hB hh lk 108 3 (O.lks.flatMap encLk)
  rlen : rows.length = O.mem.length
  orow : ∀ (k : Nat) s l, rows[k]? = some s → O.mem[k]? = some l → OwnS hB hh s 2 1 (l.map (Value.int .i64))
  rnd : ∀ (i j : Nat) s t, i ≠ j → rows[i]? = some s → rows[j]? = some t → neB s t
/- with a map of values -/
structure OwnF (hB hh : V) (p : ProgD) (r : Nat) (sa sf lk ms : Sl) (rows : List Sl) (O : OS) (q : Nat) (vals : Int → Int) : Prop where
  w : OwnW hB hh p r sa sf lk ms rows O
  qn : hB q = none
  qm : mapIs hh q vals
def KeepM (hh h' : V) : Prop := ∀ b o, hh b = some o → kindOf o = 0 → h' b = some o
theorem mapIs.keepM {hh h' : V} {q : Nat} {vals : Int → Int} (m : mapIs hh q vals) (hK : KeepM hh h') : mapIs h' q vals := m.keep fun o ho hk => hK q o ho hk

section
variable {hB hh h' : V} {p : ProgD} {r q : Nat} {sa sf lk ms : Sl} {rows : List Sl} {O : OS} {vals : Int → Int}
theorem OwnW.up (k : OwnW hB hh p r sa sf lk ms rows O) (l : Le hh h') : OwnW hB h' p r sa sf lk ms rows O :=
  ⟨k.le.trans l, k.nil, k.box.le l, k.olk.le l, k.rlen, fun i s t hs ht => (k.orow i s t hs ht).le l, k.rnd⟩
theorem OwnF.up (k : OwnF hB hh p r sa sf lk ms rows O q vals) (l : Le hh h') : OwnF hB h' p r sa sf lk ms rows O q vals := ⟨k.w.up l, k.qn, k.qm.keepM fun b o hb _ => l _ _ hb⟩
theorem OwnW.base {hC : V} (k : OwnW hB hh p r sa sf lk ms rows O) (lC : Le hC hh) (hn : ∀ b, hC b ≠ none → hB b ≠ none ∨ (b ≠ r ∧ (∀ a, lk.a = some a → b ≠ a.block) ∧ ∀ s ∈ rows, ∀ a, s.a = some a → b ≠ a.block)) : OwnW hC hh p r sa sf lk ms rows O := by
  have key : ∀ b, hB b = none → (¬ (b ≠ r ∧ (∀ a, lk.a = some a → b ≠ a.block) ∧ ∀ s ∈ rows, ∀ a, s.a = some a → b ≠ a.block)) → hC b = none := fun b e1 e3 => by
    cases hx : hC b with
    | none => rfl
    | some x =>
      rcases hn b (by rw [hx]; simp) with e | e
      · exact absurd e1 e
      · exact absurd e e3
  refine ⟨lC, key _ k.nil fun e => e.1 rfl, k.box, k.olk.rebaseN fun a ha => ?_, k.rlen, fun i s t hs ht => (k.orow i s t hs ht).rebaseN fun a ha => ?_, k.rnd⟩
  · exact key _ (k.olk.blk ha).1 fun e => e.2.1 a ha rfl
  · exact key _ ((k.orow i s t hs ht).blk ha).1 fun e => e.2.2 s (List.mem_of_getElem? hs) a ha rfl
theorem OwnW.less {hC : V} (k : OwnW hB hh p r sa sf lk ms rows O) (l : Le hC hB) : OwnW hC hh p r sa sf lk ms rows O :=
  k.base (l.trans k.le) fun b h => .inl (by
    cases hx : hC b with
    | none => exact absurd hx h
    | some x => rw [l _ _ hx]; simp)
theorem le_none {h h' : V} (l : Le h h') {b : Nat} (hb : h' b = none) : h b = none := by
  cases hx : h b with
  | none => rfl
  | some x => have := l _ _ hx; rw [hb] at this; cases this
theorem OwnF.less {hC : V} (k : OwnF hB hh p r sa sf lk ms rows O q vals) (l : Le hC hB) : OwnF hC hh p r sa sf lk ms rows O q vals := ⟨k.w.less l, le_none l k.qn, k.qm⟩
/- a constant more: what is none of the own -/
theorem OwnW.addC {b : Nat} {o : Obj} (k : OwnW hB hh p r sa sf lk ms rows O) (hb : hh b = some o) (hne : b ≠ r) (hk : kindOf o ≠ 110) (hk4 : kindOf o ≠ 4) : OwnW (hB.upd b o) hh p r sa sf lk ms rows O := by
  refine k.base (fun c x hc => ?_) fun c hc => ?_
  · by_cases e : c = b
    · subst e; rw [upd_self] at hc; cases hc; exact hb
    · rw [upd_ne e] at hc; exact k.le _ _ hc
  · by_cases e : c = b
    · subst e
      refine .inr ⟨hne, fun a ha e => ?_, fun s hs a ha e => ?_⟩
      · obtain ⟨_, arr, h2⟩ := k.olk.blk ha
        rw [← e, hb] at h2; cases h2; exact hk rfl
      · obtain ⟨i, hi⟩ := List.mem_iff_getElem?.1 hs
        have hl : i < O.mem.length := by have := (List.getElem?_eq_some_iff.1 hi).1; rw [k.rlen] at this; exact this
        obtain ⟨_, arr, h2⟩ := (k.orow i s _ hi (List.getElem?_eq_getElem hl)).blk ha
        rw [← e, hb] at h2; cases h2; exact hk4 rfl
    · rw [upd_ne e] at hc; exact .inl hc
theorem OwnW.new {b : Nat} {o : Obj} (k : OwnW hB hh p r sa sf lk ms rows O) (l : Le hh h') (hn : hh b = none) (hb : h' b = some o) : OwnW (hB.upd b o) h' p r sa sf lk ms rows O := by
  have k' := k.up l
  refine k'.base (fun c x hc => ?_) fun c hc => ?_
  · by_cases e : c = b
    · subst e; rw [upd_self] at hc; cases hc; exact hb
    · rw [upd_ne e] at hc; exact k'.le _ _ hc
  · by_cases e : c = b
    · subst e
      refine .inr ⟨fun e => ?_, fun a ha e => ?_, fun s hs a ha e => ?_⟩
      · have := k.box; unfold Box at this; rw [← e, hn] at this; cases this
      · obtain ⟨_, arr, h2⟩ := k.olk.blk ha
        rw [← e, hn] at h2; cases h2
      · obtain ⟨i, hi⟩ := List.mem_iff_getElem?.1 hs
        have hl : i < O.mem.length := by have := (List.getElem?_eq_some_iff.1 hi).1; rw [k.rlen] at this; exact this
        obtain ⟨_, arr, h2⟩ := (k.orow i s _ hi (List.getElem?_eq_getElem hl)).blk ha
        rw [← e, hn] at h2; cases h2
    · rw [upd_ne e] at hc; exact .inl hc
theorem OwnW.leB {b : Nat} {o : Obj} (k : OwnW hB hh p r sa sf lk ms rows O) (hn : hh b = none) : Le hB (hB.upd b o) := fun c x hc => by
  rw [upd_ne (fun e => by have := k.le _ _ hc; rw [e, hn] at this; cases this)]; exact hc
theorem mapIs.ne {b q : Nat} {vals : Int → Int} (m : mapIs hh q vals) (hn : hh b = none) : q ≠ b := fun e => by
  obtain ⟨o, _, h1, _⟩ := m
  rw [e, hn] at h1; cases h1
theorem OwnF.new {b : Nat} {o : Obj} (k : OwnF hB hh p r sa sf lk ms rows O q vals) (l : Le hh h') (hn : hh b = none) (hb : h' b = some o) : OwnF (hB.upd b o) h' p r sa sf lk ms rows O q vals :=
  ⟨k.w.new l hn hb, by rw [upd_ne (k.qm.ne hn)]; exact k.qn, (k.up l).qm⟩
theorem OwnF.box1 {r1 : Nat} {o1 : Obj} (k : OwnF hB hh p r sa sf lk ms rows O q vals) (l : Le hh h') (n1 : hh r1 = none) (b1 : h' r1 = some o1) : ∃ hC, Le hB hC ∧ OwnF hC h' p r sa sf lk ms rows O q vals ∧ hC r1 = some o1 :=
  ⟨_, k.w.leB n1, k.new l n1 b1, upd_self _ _ _⟩
theorem OwnF.addS {s : Sl} {T : TypeId} {sz : Nat} {cs : List Value} (k : OwnF hB hh p r sa sf lk ms rows O q vals) (l : Le hh h') (o : OwnS hh h' s T sz cs) : ∃ hC, Le hB hC ∧ OwnF hC h' p r sa sf lk ms rows O q vals ∧ OwnS hB hC s T sz cs := by
  obtain ⟨e1, e2, e3, e4⟩ := o
  rcases e4 with ⟨ha, hc⟩ | ⟨b, off, arr, ha, hr0, hr, hsz, ht⟩
  · exact ⟨hB, Le.refl _, k.up l, e1, e2, e3, .inl ⟨ha, hc⟩⟩
  · obtain ⟨hC, k1, k2, k3⟩ := k.box1 l hr0 hr
    exact ⟨hC, k1, k2, e1, e2, e3, .inr ⟨b, off, arr, ha, k.w.le.nil hr0, k3, hsz, ht⟩⟩
theorem OwnW.at (k : OwnW hB hh p r sa sf lk ms rows O) {i : Nat} {v : Value} (hv : (ownV p sa sf lk ms O)[i]? = some v) : cellq hh (Addr.add ⟨r, 0, none⟩ i) = some v := k.box.cell hv
theorem keepM_of {τ : Nat} (kk : KeepK hh h' τ) (h : τ ≠ 0) : KeepM hh h' := fun b o hb hk => kk b o hb (by rw [hk]; exact fun e => h e.symm)
/- the parts that own no number -/
theorem OwnW.st {i : Nat} {v : Value} {cs : List Value} {O' : OS} {lk' : Sl} {K : V → Prop} (lB : Le hB hh) (nil : hB r = none) (b : Box hh r cs 41) (olk : OwnS hB hh lk' 108 3 (O'.lks.flatMap encLk)) (rlen : rows.length = O'.mem.length)
    (orow : ∀ (k : Nat) s l, rows[k]? = some s → O'.mem[k]? = some l → OwnS hB hh s 2 1 (l.map (Value.int .i64))) (rnd : ∀ (i j : Nat) s t, i ≠ j → rows[i]? = some s → rows[j]? = some t → neB s t) (hi : i < cs.length) (hc : cs.set i v = ownV p sa sf lk' ms O')
    (hK : ∀ h', OwnW hB h' p r sa sf lk' ms rows O' → KeepM hh h' → K h') : StL hh (Addr.add ⟨r, 0, none⟩ i) 0 [v] K := by
  refine Box.st b hi fun h' b' f => ?_
  have kk : KeepK hh h' 43 := fun c o hb hk => by
    rw [f c (fun e => by subst e; unfold Box at b; rw [hb] at b; cases b; exact hk rfl)]; exact hb
  refine hK h' ⟨fun b o hb => ?_, nil, hc ▸ b', own_keep olk kk (by decide), rlen, fun i s l hs hl => own_keep (orow i s l hs hl) kk (by decide), rnd⟩ (keepM_of kk (by decide))
  rw [f b (fun e => by rw [e, nil] at hb; cases hb)]
  exact lB _ _ hb
theorem OwnW.sc {i : Nat} {v : Value} {O' : OS} {K : V → Prop} (k : OwnW hB hh p r sa sf lk ms rows O) (hi : i < 8) (hc : (ownV p sa sf lk ms O).set i v = ownV p sa sf lk ms O') (h2 : O'.lks = O.lks) (h3 : O'.mem = O.mem)
    (hK : ∀ h', OwnW hB h' p r sa sf lk ms rows O' → KeepM hh h' → K h') : StL hh (Addr.add ⟨r, 0, none⟩ i) 0 [v] K :=
  OwnW.st k.le k.nil k.box (by rw [h2]; exact k.olk) (by rw [h3]; exact k.rlen) (by rw [h3]; exact k.orow) k.rnd hi hc hK
theorem OwnF.sc {i : Nat} {v : Value} {O' : OS} {K : V → Prop} (k : OwnF hB hh p r sa sf lk ms rows O q vals) (hi : i < 8) (hc : (ownV p sa sf lk ms O).set i v = ownV p sa sf lk ms O') (h2 : O'.lks = O.lks) (h3 : O'.mem = O.mem)
    (hK : ∀ h', OwnF hB h' p r sa sf lk ms rows O' q vals → K h') : StL hh (Addr.add ⟨r, 0, none⟩ i) 0 [v] K :=
  k.w.sc hi hc h2 h3 fun h' w' kk => hK h' ⟨w', k.qn, k.qm.keepM kk⟩
theorem OwnF.setv {v u : Int} {K : V → Prop} (k : OwnF hB hh p r sa sf lk ms rows O q vals) (hK : ∀ h', OwnF hB h' p r sa sf lk ms rows O q (setV vals v u) → K h') : MUpd hh (some q) (.int .i64) (.int .i64 v) (.int .i64 u) K :=
  mapIs_put k.qm fun o' hm' _ ⟨o, ho, hko⟩ => hK _ (by
    have kk : KeepK hh (hh.upd q o') 0 := fun b ob hb hk => by
      rw [upd_ne (fun e => by subst e; rw [ho] at hb; cases hb; exact hk hko)]; exact hb
    exact ⟨⟨k.w.le.upd k.qn o', k.w.nil, box_keep k.w.box kk (by decide), own_keep k.w.olk kk (by decide), k.w.rlen, fun i s l hs hl => own_keep (k.w.orow i s l hs hl) kk (by decide), k.w.rnd⟩, k.qn, hm'⟩)
theorem OwnF.look {v : Int} {K : Int → Bool → Prop} (k : OwnF hB hh p r sa sf lk ms rows O q vals) (hK : ∀ b, K (vals v) b) : Look hh (some q) (.int .i64) (.int .i64 v) (.one (.int .i64)) 0 K := by
  obtain ⟨o, m, h1, h2, h3⟩ := k.qm
  refine Look_map h1 h2 ?_
  rw [h3]; exact hK _
theorem OwnF.setm {j : Nat} {s : Sl} {l : List Int} {i x : Int} {K : V → Prop} (k : OwnF hB hh p r sa sf lk ms rows O q vals) (hs : rows[j]? = some s) (hl : O.mem[j]? = some l) (h0 : 0 ≤ i) (hi : i.toNat < l.length)
    (hK : ∀ h', OwnF hB h' p r sa sf lk ms rows { O with mem := O.mem.set j (l.set i.toNat x) } q vals → K h') : Ix s i 1 fun a => StL hh a 0 [iV x] K := by
  have hjl : j < O.mem.length := (List.getElem?_eq_some_iff.1 hl).1
  have oj := k.w.orow j s l hs hl
  refine OwnS.set oj k.w.le h0 (by simpa using hi) fun h' l' o' f' => hK h' ?_
  have kk : KeepK hh h' 4 := fun q o hb hk => by
    rw [f' q (fun a ha e => by
      obtain ⟨_, arr, h2⟩ := oj.blk ha
      rw [← e, hb] at h2; cases h2; exact hk rfl)]
    exact hb
  refine ⟨⟨l', k.w.nil, box_keep k.w.box kk (by decide), own_keep k.w.olk kk (by decide), by simp [k.w.rlen], fun m t u ht hu => ?_, k.w.rnd⟩, k.qn, k.qm.keepM (keepM_of kk (by decide))⟩
  by_cases e : j = m
  · subst e
    rw [hs] at ht; cases ht
    rw [List.getElem?_set_self hjl] at hu
    rw [← Option.some.inj hu, List.map_set]
    exact o'
  · rw [List.getElem?_set_ne e] at hu
    exact (k.w.orow m t u ht hu).off (k.w.rnd m j t s (fun e' => e e'.symm) ht hs) f'
/- a leak more -/
theorem OwnF.leak {x : LeakD} {K : V → Prop} (k : OwnF hB hh p r sa sf lk ms rows O q vals) (hb : (O.lks.length + 1) * 24 ≤ 140737488355328) (hK : ∀ h' lk', OwnF hB h' p r sa sf lk' ms rows { O with lks := O.lks ++ [x] } q vals → K h') :
    New hh (.cells ⟨encLk x⟩ 108) fun r1 h1 => App h1 lk ⟨some ⟨r1, 0, none⟩, 1, 1⟩ 108 3 24 [iV 0, iV 0, iV 0] fun s' h2 => OA (some ⟨r, 0, none⟩) fun a => StL h2 (Addr.add a 4) 0 [sV s'] K := by
  refine New_box fun r1 h1 hr1 l1 b1 => ?_
  have k1 := k.up l1
  refine App_enc (enc := encLk) (x := x) encLk_len (by omega) k1.w.le k1.w.olk b1 rfl rfl (by omega) hb fun s' h2 l2 o2 n2 f2 d2 => ?_
  have kk : KeepK h1 h2 110 := fun q o hq hk => by
    rw [f2 q (fun a ha e => by
      obtain ⟨_, arr, h⟩ := k1.w.olk.blk ha
      rw [← e, hq] at h; cases h; exact hk rfl) (by rw [hq]; simp)]
    exact hq
  refine OwnW.st (O' := { O with lks := O.lks ++ [x] }) (lk' := s') (p := p) (sa := sa) (sf := sf) (ms := ms) (rows := rows) l2 k1.w.nil (box_keep k1.w.box kk (by decide)) o2 k1.w.rlen (fun i s l hs hl => own_keep (k1.w.orow i s l hs hl) kk (by decide)) k1.w.rnd (by simp [ownV]) rfl fun h3 w3 kk3 => hK h3 s' ⟨w3, k.qn, (k1.qm.keepM (keepM_of kk (by decide))).keepM kk3⟩
/- a constant that turns -/
theorem OwnF.stC {hD : V} {b : Nat} {cs vs : List Value} {T : TypeId} {K : V → Prop} (k : OwnF hB hh p r sa sf lk ms rows O q vals) (lD : Le hD hB) (hDb : hD b = none) (bB : Box hB b cs T) (hl : cs.length = vs.length)
    (hK : ∀ h', OwnF hD h' p r sa sf lk ms rows O q vals → Box h' b vs T → K h') : StL hh ⟨b, 0, none⟩ 0 vs K := by
  refine StL_box_aux (h := hh) vs [] cs 0 hh rfl hl (k.w.le _ _ bB) (fun _ _ => rfl) fun h' B' F' => hK h' ?_ B'
  have ne : ∀ {c : Nat}, hB c = none → c ≠ b := fun {c} hc e => by unfold Box at bB; rw [← e, hc] at bB; cases bB
  have own : ∀ {s : Sl} {T : TypeId} {sz : Nat} {cs : List Value}, OwnS hB hh s T sz cs → OwnS hD h' s T sz cs := fun {s T sz cs} o =>
    (o.frame fun a ob ha hob => by rw [F' _ (ne (o.blk ha).1)]; exact hob).rebaseN fun a ha => le_none lD (o.blk ha).1
  refine ⟨⟨fun c o hc => ?_, le_none lD k.w.nil, ?_, own k.w.olk, k.w.rlen, fun i s l hs hl => own (k.w.orow i s l hs hl), k.w.rnd⟩, le_none lD k.qn, k.qm.keep fun o ho _ => by rw [F' _ (ne k.qn)]; exact ho⟩
  · rw [F' c (fun e => by rw [e, hDb] at hc; cases hc)]
    exact k.w.le _ _ (lD _ _ hc)
  · unfold Box
    rw [F' r (ne k.w.nil)]
    exact k.w.box
theorem OwnF.addC {b : Nat} {o : Obj} (k : OwnF hB hh p r sa sf lk ms rows O q vals) (hb : hh b = some o) (hne : b ≠ r) (hk : kindOf o ≠ 110) (hk4 : kindOf o ≠ 4) (hk0 : kindOf o ≠ 0) : OwnF (hB.upd b o) hh p r sa sf lk ms rows O q vals :=
  ⟨k.w.addC hb hne hk hk4, by
    obtain ⟨o', _, h1, h2, _⟩ := k.qm
    rw [upd_ne (fun e => by rw [e, hb] at h1; cases h1; exact hk0 (kind_map h2))]
    exact k.qn, k.qm⟩
/- values of names -/
theorem OwnF.valsL {s : Sl} {l : List Int} {hF : V} {r1 : Nat} {h1 : V} (hs : isInts hF s l) (lF : Le hF hh) (k : OwnF hB hh p r sa sf lk ms rows O q vals) (hb : l.length ≤ 1048576) (l1 : Le hh h1) (hr1 : hh r1 = none) (b1 : Box h1 r1 [] 2) {K : Sl × Int × Unit → V → Prop} (hK : ∀ s' i h', Le hh h' → OwnS hh h' s' 2 1 ((l.map vals).map (Value.int .i64)) → K (s', i, ()) h') :
    Lp (σ := Sl × Int × Unit) (fun KK st h2 => cond (decide (st.2.1 < ((s.n : Nat) : Int)))
      (Ix s st.2.1 1 fun a => Ld h2 a (.int .i64) fun (x : Int) => Look h2 (some q) (.int .i64) (.int .i64 x) (.one (.int .i64)) 0 fun (y : Int) _ => New h2 (.cells #[iV y] 2) fun r2 h3 => App h3 st.1 ⟨some ⟨r2, 0, none⟩, 1, 1⟩ 2 1 8 [iV 0] fun s' h4 => Wk h4 fun h5 => KK (s', IntKind.wrap .i64 (st.2.1 + 1), ()) h5)
      (K st h2)) (⟨some ⟨r1, 0, none⟩, 0, 0⟩, (0 : Int), ()) h1 := by
  have o1 : OwnS hh h1 ⟨some ⟨r1, 0, none⟩, 0, 0⟩ 2 1 (((l.take 0).map vals).map (Value.int .i64)) := ⟨rfl, Nat.le_refl _, by show 0 ≤ 140737488355328; omega, .inr ⟨r1, 0, _, rfl, hr1, b1, by simp, by simp⟩⟩
  refine Lp_count l.length (fun j st h1 => st.2 = ((j : Int), ()) ∧ Le hh h1 ∧ OwnS hh h1 st.1 2 1 (((l.take j).map vals).map (Value.int .i64))) ⟨rfl, l1, o1⟩ ?_
  rintro j ⟨sm, jj, u⟩ h1 KK hj ⟨hj2, l1, o1⟩ hKK
  obtain ⟨rfl, -⟩ := hj2
  refine cond_dec (fun hlt => ?_) (fun hge => ?_)
  · have hj' : j < l.length := by have := hs.len; simp only at hlt; omega
    refine (hs.le mono_int (lF.trans l1)).ixn hj' fun a ha => ⟨_, ha, ?_⟩
    refine (k.up l1).look fun _ => New_box fun r21 h2 hr21 l2 b21 => ?_
    have hlen := o1.1
    simp only [List.length_map, List.length_take, Nat.mul_one] at hlen
    refine App_one (l1.trans l2) (o1.le l2) b21 rfl (by omega) (by show (sm.n + 1) * 8 ≤ 140737488355328; omega) fun s' h3 l3 o3 _ f3 _ => Wk_self (hKK _ _ hj' ⟨by rw [wnat hj' hs.bd], l3, ?_⟩)
    rw [List.take_succ_eq_append_getElem hj', List.map_append, List.map_append]
    exact o3
  · have : j = l.length := by have := hs.len; simp only at hge; omega
    subst this
    rw [List.take_of_length_le (Nat.le_refl _)] at o1
    exact hK sm _ h1 l1 o1
end
end Go.Proofs.Ytapdnglpchejlaa

/- Plain: a call, as the law does it, against the machine. -/
namespace Go.Proofs.Ytapdnglpchejlaa
open Go Go.VL

theorem enter_deep {p : ProgD} {S S' : MS} {fn d : Int} {args : List Int} (h : enterS p S fn args d = some S') : S.deep ≤ S'.deep ∧ ((S.fs.length : Int) ≤ S.deep → (S'.fs.length : Int) ≤ S'.deep) := by
  unfold enterS at h
  split at h
  · cases h
  · cases h
    simp only [List.length_append, List.length_cons, List.length_nil]
    split <;> omega
theorem do_deep {p : ProgD} {S S' : MS} {rest : List FrD} {f : FrD} {i : InsD} (hS : S.fs = rest ++ [f]) (h : doS p S rest f i = some S') : S.deep ≤ S'.deep ∧ ((S.fs.length : Int) ≤ S.deep → (S'.fs.length : Int) ≤ S'.deep) := by
  have put : ∀ {S1 : MS} {v x : Int}, S1.deep = S.deep → S.deep ≤ (putS S1 rest f v x).deep ∧ ((S.fs.length : Int) ≤ S.deep → ((putS S1 rest f v x).fs.length : Int) ≤ (putS S1 rest f v x).deep) := fun {S1 v x} e => by
    unfold putS
    rw [hS]
    simp only [List.length_append, List.length_cons, List.length_nil]
    omega
  unfold doS at h
  by_cases e : i.op = 1
  · rw [if_pos e] at h; cases h; exact put rfl
  rw [if_neg e] at h
  by_cases e2 : i.op = 2
  · rw [if_pos e2] at h
    have h := Option.some.inj h
    subst h
    split <;> split <;> first | exact put rfl | (unfold trapS; exact put rfl)
  rw [if_neg e2] at h
  by_cases e3 : i.op = 3
  · rw [if_pos e3] at h; cases h; exact put rfl
  rw [if_neg e3] at h
  by_cases e4 : i.op = 4
  · rw [if_pos e4] at h; cases h; exact ⟨Int.le_refl _, id⟩
  rw [if_neg e4] at h
  by_cases e5 : i.op = 5
  · rw [if_pos e5] at h
    have h := Option.some.inj h
    subst h
    split
    · exact put rfl
    · exact ⟨Int.le_refl _, id⟩
  rw [if_neg e5] at h
  by_cases e6 : i.op = 6
  · rw [if_pos e6] at h
    have h := Option.some.inj h
    subst h
    split <;> exact ⟨Int.le_refl _, id⟩
  rw [if_neg e6] at h
  by_cases e7 : i.op = 7
  · rw [if_pos e7] at h; exact enter_deep h
  rw [if_neg e7] at h
  cases h
  exact ⟨Int.le_refl _, id⟩
theorem backS_len (v x : Int) : ∀ l : List FrD, (backS l v x).length = l.length
  | [] => rfl
  | [_] => rfl
  | _ :: g :: l => congrArg (· + 1) (backS_len v x (g :: l))
theorem finish_deep {p : ProgD} {S : MS} {rest : List FrD} {f : FrD} {e : EndD} (hS : S.fs = rest ++ [f]) : S.deep ≤ (finishS p S rest f e).deep ∧ ((S.fs.length : Int) ≤ S.deep → ((finishS p S rest f e).fs.length : Int) ≤ (finishS p S rest f e).deep) := by
  have hl : S.fs.length = rest.length + 1 := by rw [hS]; simp
  unfold finishS
  split
  · unfold leaveS
    split
    · exact ⟨Int.le_refl _, fun _ => by show ((0 : Nat) : Int) ≤ S.deep; omega⟩
    · exact ⟨Int.le_refl _, fun _ => by show ((backS rest f.dst _).length : Int) ≤ S.deep; rw [backS_len]; omega⟩
  split
  · exact ⟨Int.le_refl _, id⟩
  split
  · refine ⟨Int.le_refl _, fun _ => ?_⟩
    show ((rest ++ [_]).length : Int) ≤ S.deep
    simp; omega
  · refine ⟨Int.le_refl _, fun _ => ?_⟩
    show ((rest ++ [_]).length : Int) ≤ S.deep
    simp; omega
theorem step_deep {p : ProgD} {S S' : MS} {rest : List FrD} {f : FrD} (hS : S.fs = rest ++ [f]) (h : stepS p S rest f = some S') : S.deep ≤ S'.deep ∧ ((S.fs.length : Int) ≤ S.deep → (S'.fs.length : Int) ≤ S'.deep) := by
  unfold stepS at h
  simp only at h
  split at h
  · cases h; exact finish_deep hS
  · have := do_deep (by rfl) h
    refine ⟨this.1, fun hd => this.2 ?_⟩
    rw [hS] at hd
    simpa using hd
theorem run_deep {p : ProgD} : ∀ (n : Nat) (S S' : MS), runS p n S = some S' → S.deep ≤ S'.deep
  | 0, S, S', h => by
    unfold runS at h
    split at h
    · cases h; exact Int.le_refl _
    · cases h
  | n + 1, S, S', h => by
    by_cases hf : S.fin = true
    · rw [runS_fin hf] at h; cases h; exact Int.le_refl _
    · have hf' : S.fin = false := by simpa using hf
      cases ht : topOf S.fs with
      | none =>
        unfold runS at h
        rw [if_neg hf, ht] at h
        cases h
      | some rf =>
        obtain ⟨rest, f⟩ := rf
        have hS := topOf_some.1 ht
        rw [runS_succ hf' hS] at h
        cases hs : stepS p { S with steps := S.steps + 1 } rest f with
        | none => rw [hs] at h; cases h
        | some S1 =>
          rw [hs] at h
          have h1 := (step_deep (S := { S with steps := S.steps + 1 }) hS hs).1
          have h2 := run_deep n S1 S' h
          have h1 : S.deep ≤ S1.deep := h1
          omega
/- so many steps on -/
def Reach (p : ProgD) (S : MS) (k : Nat) (T : MS) : Prop := ∀ N, runS p (N + k) S = runS p N T
theorem Reach.refl {p : ProgD} (S : MS) : Reach p S 0 S := fun _ => rfl
theorem Reach.trans {p : ProgD} {S T U : MS} {k m : Nat} (h : Reach p S k T) (g : Reach p T m U) : Reach p S (k + m) U := fun N => by rw [show N + (k + m) = (N + m) + k by omega, h, g]
/- a machine in the midst of a call -/
structure At (p : ProgD) (rest : List FrD) (d : Int) (S0 : MS) (left0 : Int) (fn b j : Int) (vals : Int → Int) (S : MS) (left : Int) : Prop where
  ex : ∃ k : Nat, Reach p S0 k S ∧ left + k = left0 ∧ S.steps = S0.steps + k ∧ S.leaks.length ≤ S0.leaks.length + k
  pos : 0 ≤ left
  fs : S.fs = rest ++ [⟨fn, b, j, vals, d⟩]
  fin : S.fin = false
  trap : S.trap = 0
  val : S.val = 0
  ok : MsOk p S
  deep : (S.fs.length : Int) ≤ S.deep
/- what a call brings -/
def CallPost (p : ProgD) (rest : List FrD) (d : Int) (S : MS) (left v : Int) (g : Bool) (O : OS) : Prop :=
  (O.sp = true ∧ g = false ∧ ∀ T, runS p left.toNat S = some T → T.deep > 60) ∨
  (O.sp = false ∧ ∃ (k : Nat) (T : MS), Reach p S k T ∧ O.left + k = left ∧ 0 ≤ O.left ∧ T.steps = S.steps + k ∧ T.mem = O.mem ∧ T.leaks = O.lks ∧ T.trap = O.trap ∧ MsOk p T ∧ (T.fs.length : Int) ≤ T.deep ∧ T.leaks.length ≤ S.leaks.length + k ∧
    ((g = true ∧ O.trap = 0 ∧ (rest = [] → T.fin = true ∧ T.val = v) ∧ (rest ≠ [] → T.fin = false ∧ T.val = 0 ∧ T.fs = backS rest d v)) ∨ (g = false ∧ v = 0 ∧ T.fin = true ∧ T.val = 0)))
theorem CallPost.back {p : ProgD} {rest : List FrD} {d : Int} {S0 S : MS} {left0 left v : Int} {g : Bool} {O : OS} {k : Nat} (h : CallPost p rest d S left v g O) (r : Reach p S0 k S) (hl : left + k = left0) (h0 : 0 ≤ left) (hst : S.steps = S0.steps + k) (hlk : S.leaks.length ≤ S0.leaks.length + k) : CallPost p rest d S0 left0 v g O := by
  rcases h with ⟨a, b, c⟩ | ⟨a, m, T, c1, c2, c3, c4, c5, c6, c7, c8, c9, c10, c11⟩
  · refine .inl ⟨a, b, fun T hT => c T ?_⟩
    rw [show left0.toNat = left.toNat + k by omega, r] at hT
    exact hT
  · exact .inr ⟨a, k + m, T, r.trans c1, by omega, c3, by omega, c5, c6, c7, c8, c9, by omega, c11⟩
theorem CallPost.fail {p : ProgD} {rest rest' : List FrD} {d d' : Int} {S : MS} {left v : Int} {O : OS} (h : CallPost p rest' d' S left v false O) : CallPost p rest d S left 0 false O := by
  rcases h with ⟨a, b, c⟩ | ⟨a, m, T, c1, c2, c3, c4, c5, c6, c7, c8, c9, c10, ⟨e, _⟩ | ⟨_, _, e1, e2⟩⟩
  · exact .inl ⟨a, rfl, c⟩
  · cases e
  · exact .inr ⟨a, m, T, c1, c2, c3, c4, c5, c6, c7, c8, c9, c10, .inr ⟨rfl, rfl, e1, e2⟩⟩
section
variable {p : ProgD} {rest : List FrD} {d : Int} {S0 S : MS} {left0 left fn b j : Int} {vals : Int → Int}
theorem At.post {v : Int} {g : Bool} {O : OS} (a : At p rest d S0 left0 fn b j vals S left) (h : CallPost p rest d S left v g O) : CallPost p rest d S0 left0 v g O := by
  obtain ⟨k, r, h1, h2, h3⟩ := a.ex
  exact h.back r h1 a.pos h2 h3
theorem reach1 {S' : MS} {f : FrD} (hf : S.fin = false) (hS : S.fs = rest ++ [f]) (h : stepS p { S with steps := S.steps + 1 } rest f = some S') : Reach p S 1 S' := fun N => by
  rw [runS_succ hf hS, h]; rfl
/- spent -/
theorem At.spent (a : At p rest d S0 left0 fn b j vals S left) {O : OS} (hO : O.sp = true) (h : left < 1) : CallPost p rest d S0 left0 0 false O :=
  a.post (.inl ⟨hO, rfl, fun T hT => by
    have := a.pos
    rw [show left.toNat = 0 by omega, runS_zero a.fin] at hT
    cases hT⟩)
theorem At.ok1 (a : At p rest d S0 left0 fn b j vals S left) : MsOk p { S with steps := S.steps + 1 } := ⟨a.ok.fr, a.ok.mem, a.ok.rows, a.ok.len⟩
/- a step on, within the call -/
theorem At.step (a : At p rest d S0 left0 fn b j vals S left) {S' : MS} {b' j' : Int} {vals' : Int → Int} (ok : CheckOk p) (nums : NumsOk p) (h : stepS p { S with steps := S.steps + 1 } rest ⟨fn, b, j, vals, d⟩ = some S') (hl : 1 ≤ left)
    (h1 : S'.fs = rest ++ [⟨fn, b', j', vals', d⟩]) (h2 : S'.fin = false) (h3 : S'.trap = 0) (h4 : S'.val = 0) : At p rest d S0 left0 fn b' j' vals' S' (left - 1) := by
  obtain ⟨k, r, e1, e2, e3⟩ := a.ex
  have ff := step_facts ok nums a.ok1 (show ({ S with steps := S.steps + 1 } : MS).fs = _ from a.fs) h
  have dd := step_deep (show ({ S with steps := S.steps + 1 } : MS).fs = _ from a.fs) h
  have l1 : S'.leaks.length ≤ S.leaks.length + 1 := ff.leaks
  have s1 : S'.steps = S.steps + 1 := step_steps h
  exact ⟨⟨k + 1, r.trans (reach1 a.fin a.fs h), by omega, by omega, by omega⟩, by omega, h1, h2, h3, h4, ff.ok, dd.2 a.deep⟩
/- the last step of a call -/
theorem At.last (a : At p rest d S0 left0 fn b j vals S left) {S' : MS} {v : Int} {g : Bool} {O : OS} (ok : CheckOk p) (nums : NumsOk p) (h : stepS p { S with steps := S.steps + 1 } rest ⟨fn, b, j, vals, d⟩ = some S') (hl : 1 ≤ left)
    (h0 : O.sp = false) (h1 : O.left = left - 1) (h2 : S'.mem = O.mem) (h3 : S'.leaks = O.lks) (h4 : S'.trap = O.trap)
    (h5 : (g = true ∧ O.trap = 0 ∧ (rest = [] → S'.fin = true ∧ S'.val = v) ∧ (rest ≠ [] → S'.fin = false ∧ S'.val = 0 ∧ S'.fs = backS rest d v)) ∨ (g = false ∧ v = 0 ∧ S'.fin = true ∧ S'.val = 0)) : CallPost p rest d S0 left0 v g O := by
  have ff := step_facts ok nums a.ok1 (show ({ S with steps := S.steps + 1 } : MS).fs = _ from a.fs) h
  have dd := step_deep (show ({ S with steps := S.steps + 1 } : MS).fs = _ from a.fs) h
  have l1 : S'.leaks.length ≤ S.leaks.length + 1 := ff.leaks
  have s1 : S'.steps = S.steps + 1 := step_steps h
  exact a.post (.inr ⟨h0, 1, S', reach1 a.fin a.fs h, by omega, by omega, by omega, h2, h3, h4, ff.ok, dd.2 a.deep, by omega, h5⟩)
/- the machine at an instruction -/
def nextS (rest : List FrD) (d : Int) (fn b j : Int) (vals : Int → Int) (S : MS) : MS := { S with steps := S.steps + 1, fs := rest ++ [⟨fn, b, j + 1, vals, d⟩] }
theorem At.ins (a : At p rest d S0 left0 fn b j vals S left) {bl : BlockD} {n : Nat} (hb : blAt p ⟨fn, b, j, vals, d⟩ = bl) (hj : j = (n : Nat)) (hn : n < bl.ins.length) : stepS p { S with steps := S.steps + 1 } rest ⟨fn, b, j, vals, d⟩ = doS p (nextS rest d fn b j vals S) rest ⟨fn, b, j + 1, vals, d⟩ bl.ins[n] := by
  unfold stepS
  simp only
  rw [hb, if_neg (by omega)]
  subst hj
  rw [List.getD_eq_getElem?_getD, Int.toNat_natCast, List.getElem?_eq_getElem hn]
  rfl
theorem At.ends (a : At p rest d S0 left0 fn b j vals S left) {bl : BlockD} (hb : blAt p ⟨fn, b, j, vals, d⟩ = bl) (hj : j = (bl.ins.length : Nat)) : stepS p { S with steps := S.steps + 1 } rest ⟨fn, b, j, vals, d⟩ = some (finishS p { S with steps := S.steps + 1 } rest ⟨fn, b, j, vals, d⟩ bl.e) := by
  unfold stepS
  simp only
  rw [hb, if_pos hj]
end
end Go.Proofs.Ytapdnglpchejlaa

/- The law's own call, walked. -/
namespace Go.Proofs.Ytapdnglpchejlaa
open Go Go.VL

def CallOk (p : ProgD) (n : Nat) : Prop := ∀ {hB hh : V} {r : Nat} {sa sf lk ms : Sl} {rows : List Sl} {S0 : MS} {rest : List FrD} {fn d left0 : Int} {asl : Sl} {args : List Int} {R : Value → V → Prop},
  left0.toNat = n → 0 ≤ left0 → left0 ≤ 1023 → OwnW hB hh p r sa sf lk ms rows ⟨S0.mem, S0.leaks, left0, 0, false⟩ → SimC hB p sa sf ms rows → S0.fs = rest ++ [⟨fn, 0, 0, setVs (fun _ => 0) (fnAt p fn).params args, d⟩] →
  S0.fin = false → S0.trap = 0 → S0.val = 0 → MsOk p S0 → (S0.fs.length : Int) ≤ S0.deep → S0.leaks.length + left0.toNat ≤ 2000 → isInts hB asl args → args.length = (fnAt p fn).params.length →
  (∀ h' v g O' lk', Le hB h' → OwnW hB h' p r sa sf lk' ms rows O' → CallPost p rest d S0 left0 v g O' → R (.tuple ⟨[iV v, .bool g]⟩) h') →
  ACalls Try.prog 20 [.pointer (some ⟨r, 0, none⟩), iV fn, sV asl, iV ((rest.length : Nat) : Int)] hh R

theorem params_gen (nm : ByteArray) : ∀ (bs : List BlockD) (h : 0 < bs.length), bs[0].params = FuncD.params ⟨nm, bs⟩
  | [], h => by simp at h
  | _ :: _, _ => rfl
theorem params_eq {p : ProgD} {fn : Int} (h : fn.toNat < p.funcs.length) (h0 : 0 < (p.funcs[fn.toNat]).blocks.length) : ((p.funcs[fn.toNat]).blocks[0]).params = (fnAt p fn).params := by
  rw [fnAt_eq h]
  exact params_gen _ _ h0
theorem cellsAt_from {h : V} {a : Addr} {cs vs : List Value} (hc : cellsAt h a 0 cs) (i : Nat) (hv : ∀ (j : Nat) v, vs[j]? = some v → cs[i + j]? = some v) : cellsAt h (a.add i) 0 vs :=
  cellsAt_of fun j v hj => by
    have := cellsAt_get hc (i + j) v (hv j v hj)
    rw [Nat.zero_add] at this
    rw [Nat.zero_add, Addr.add_add]; exact this
theorem leave_parts (S : MS) (rest : List FrD) (f : FrD) (x : Int) : (leaveS S rest f x).mem = S.mem ∧ (leaveS S rest f x).leaks = S.leaks ∧ (leaveS S rest f x).trap = S.trap := by
  unfold leaveS
  split <;> exact ⟨rfl, rfl, rfl⟩
theorem leave_nil (S : MS) (f : FrD) (x : Int) : leaveS S [] f x = { S with fs := [], val := x, fin := true } := by unfold leaveS; rw [if_pos rfl]
theorem leave_ne {S : MS} {rest : List FrD} {f : FrD} {x : Int} (h : rest ≠ []) : leaveS S rest f x = { S with fs := backS rest f.dst x } := by unfold leaveS; rw [if_neg h]
theorem CallOk.app {p : ProgD} {n : Nat} (H : CallOk p n) {hB hh : V} {r : Nat} {sa sf lk ms : Sl} {rows : List Sl} {S0 : MS} {rest : List FrD} {fn d left0 dp : Int} {asl : Sl} {args : List Int} {K : Int × Bool × Unit → V → Prop}
  (e1 : left0.toNat = n) (e2 : 0 ≤ left0) (e3 : left0 ≤ 1023) (e4 : OwnW hB hh p r sa sf lk ms rows ⟨S0.mem, S0.leaks, left0, 0, false⟩) (e5 : SimC hB p sa sf ms rows) (e6 : S0.fs = rest ++ [⟨fn, 0, 0, setVs (fun _ => 0) (fnAt p fn).params args, d⟩])
  (e7 : S0.fin = false) (e8 : S0.trap = 0) (e9 : S0.val = 0) (e10 : MsOk p S0) (e11 : (S0.fs.length : Int) ≤ S0.deep) (e12 : S0.leaks.length + left0.toNat ≤ 2000) (e13 : isInts hB asl args) (e14 : args.length = (fnAt p fn).params.length) (e15 : dp = ((rest.length : Nat) : Int))
  (hR : ∀ h' v g O' lk', Le hB h' → OwnW hB h' p r sa sf lk' ms rows O' → CallPost p rest d S0 left0 v g O' → K (v, g, ()) h') :
  CallK Try.prog 20 [.pointer (some ⟨r, 0, none⟩), iV fn, sV asl, iV dp] hh (.tup [.one (.int .i64), .one .bool]) K := by
  subst e15
  exact H (R := fun v h' => ∃ x, v = Rs.mk (.tup [.one (.int .i64), .one .bool]) x ∧ K x h') e1 e2 e3 e4 e5 e6 e7 e8 e9 e10 e11 e12 e13 e14 fun h' v g O' lk' a b c => ⟨(v, g, ()), rfl, hR h' v g O' lk' a b c⟩
set_option maxRecDepth 100000 in
theorem c_call_body {p : ProgD} (ok : CheckOk p) (few : FewOk p) (nums : NumsOk p) {n : Nat} (IH : ∀ m, m < n → CallOk p m) : CallOk p n := by
  intro hB hh r sa sf lk ms rows S0 rest fn d left0 asl args R hn hl0 hl1 k c hS hfin htrap hval hok hdeep hlks has hal hR
  have okf := hok.fr _ (by rw [hS]; exact List.mem_append_right _ (List.mem_singleton.2 rfl))
  have hSl : S0.fs.length = rest.length + 1 := by rw [hS]; simp
  have hfn1 : fn.toNat < p.funcs.length := okf.fn1
  have hfeq : fnAt p fn = p.funcs[fn.toNat] := fnAt_eq hfn1
  refine S20_ok _ _ _ _ _ _ (cond_dec (fun (g : ((rest.length : Nat) : Int) > 60) => ?_) (fun (g : ¬ ((rest.length : Nat) : Int) > 60) => ?_))
  · refine k.sc (i := 7) (v := .bool true) (O' := ⟨S0.mem, S0.leaks, left0, 0, true⟩) (by omega) rfl rfl rfl fun h1 k1 _ => Wk_self (hR h1 0 false _ lk k1.le k1 (.inl ⟨rfl, rfl, fun T hT => ?_⟩))
    have := run_deep _ _ _ hT
    omega
  refine ⟨sf, by rw [Addr.add_add]; exact k.at rfl, c.funcs.ix okf.fn0 hfn1 fun a ⟨sb, hsb, hcc⟩ => ⟨(_, sb, ()), cellsAt_le k.le hcc, ?_⟩⟩
  refine New_box fun r10 h1 hr10 l1 b10 => StL_box (h := hh) b10 rfl l1 hr10 fun h2 l2 b10' f2 => ?_
  intro r48 hr48
  have kC := k.new l2 hr10 b10'
  have lC := k.leB (o := .cells ⟨[.string (p.funcs[fn.toNat]).name, sV sb]⟩ 63 (0, 0)) hr10
  have bC : Box (hB.upd r10 (.cells ⟨[.string (p.funcs[fn.toNat]).name, sV sb]⟩ 63 (0, 0))) r10 [.string (p.funcs[fn.toNat]).name, sV sb] 63 := upd_self _ _ _
  have kC : OwnW (hB.upd r10 (.cells ⟨[.string (p.funcs[fn.toNat]).name, sV sb]⟩ 63 (0, 0))) h2 p r sa sf lk ms rows ⟨S0.mem, S0.leaks, left0, 0, false⟩ := kC
  generalize (hB.upd r10 (.cells ⟨[.string (p.funcs[fn.toNat]).name, sV sb]⟩ 63 (0, 0))) = hC at *
  have k3 : OwnF hC (h2.upd r48 (.map #[] 0)) p r sa sf lk ms rows ⟨S0.mem, S0.leaks, left0, 0, false⟩ r48 (fun _ => 0) :=
    ⟨kC.up (le_upd hr48 _), le_none kC.le hr48, ⟨_, [], upd_self _ _ _, MapRep.empty _, fun v => by rw [mget_nil]; rfl⟩⟩
  generalize h2.upd r48 (.map #[] 0) = h3 at *
  have hb1 : 0 < (p.funcs[fn.toNat]).blocks.length := by have := okf.b1; rw [hfeq] at this; exact Nat.lt_of_le_of_lt (Nat.zero_le _) this
  have cC := c.le lC
  have hsbC : isBlocks hC sb (p.funcs[fn.toNat]).blocks := hsb.le mono_block lC
  have hasC := has.le mono_int lC
  refine ⟨sb, (bC.le k3.w.le).cell rfl, hsbC.ix (i := 0) (by omega) hb1 fun a2 ⟨pp, ii, ww, hpp, _, _, hc2⟩ => ⟨pp, (cellsAt_le k3.w.le hc2).1, ?_⟩⟩
  have hpp : isInts hC pp (fnAt p fn).params := by rw [← params_eq hfn1 hb1]; exact hpp
  generalize hps : (fnAt p fn).params = ps at *
  refine Lp_count ps.length (fun j st h6 => st = ((j : Int), ()) ∧ OwnF hC h6 p r sa sf lk ms rows ⟨S0.mem, S0.leaks, left0, 0, false⟩ r48 (setVs (fun _ => 0) (ps.take j) (args.take j))) ⟨rfl, k3⟩ ?_
  rintro j _ h6 K hj ⟨rfl, k6⟩ hK
  refine cond_dec (fun hlt => ?_) (fun hge => ?_)
  · have hj' : j < ps.length := by have := hpp.len; simp only at hlt; omega
    have hja : j < args.length := by omega
    refine (hpp.le mono_int k6.w.le).ixn hj' fun a1 ha1 => ⟨_, ha1, (hasC.le mono_int k6.w.le).ixn hja fun a2 ha2 => ⟨_, ha2, ?_⟩⟩
    refine k6.setv fun h7 k7 => Wk_self (hK _ _ hj' ⟨by rw [wnat hj' hpp.bd], ?_⟩)
    rw [setVs_take hj' hja]; exact k7
  have hje : j = ps.length := by have := hpp.len; simp only at hge; omega
  subst hje
  rw [List.take_of_length_le (Nat.le_refl _), List.take_of_length_le (by omega)] at k6
  clear hK hge hj
  refine Lp_inv (fun m st hh => ∃ b vals lk S left, st = (b, ()) ∧ m = left.toNat ∧ OwnF hC hh p r sa sf lk ms rows ⟨S.mem, S.leaks, left, 0, false⟩ r48 vals ∧ At p rest d S0 left0 fn b 0 vals S left) (n := left0.toNat)
    ⟨0, _, lk, S0, left0, rfl, rfl, k6, ⟨⟨0, Reach.refl _, by omega, by omega, by omega⟩, hl0, hS, hfin, htrap, hval, hok, hdeep⟩⟩ ?_
  rintro m _ h9 K1 ⟨b, vals0, lk0, SB, leftB, rfl, rfl, k9, aB⟩ hK1
  have okb := aB.ok.fr _ (by rw [aB.fs]; exact List.mem_append_right _ (List.mem_singleton.2 rfl))
  have hb0 : 0 ≤ b := okb.b0
  have hb2 : b.toNat < (p.funcs[fn.toNat]).blocks.length := by have := okb.b1; rw [hfeq] at this; exact this
  have hbeq : ∀ (j : Int) (vals : Int → Int), blAt p ⟨fn, b, j, vals, d⟩ = (p.funcs[fn.toNat]).blocks[b.toNat] := fun j vals => by
    unfold blAt
    rw [hfeq, List.getD_eq_getElem?_getD, List.getElem?_eq_getElem hb2]; rfl
  have hfm := List.getElem_mem hfn1
  have hbm := List.getElem_mem hb2
  obtain ⟨okE, okI⟩ := (ok.funcs _ hfm).2.2.2.1 _ hbm
  have fewB' := (few.all _ hfm).all _ hbm
  refine ⟨sb, (bC.le k9.w.le).cell rfl, hsbC.ix hb0 hb2 fun a3 ⟨_, ii, ww, _, hii, hww, hc3⟩ => ⟨ii, (cellsAt_le k9.w.le hc3).2.1, ?_⟩⟩
  generalize hbl : (p.funcs[fn.toNat]).blocks[b.toNat] = bl at *
  refine Lp_count bl.ins.length (fun j st hh => ∃ vals lk S left, st = ((j : Int), ()) ∧ left ≤ leftB ∧ OwnF hC hh p r sa sf lk ms rows ⟨S.mem, S.leaks, left, 0, false⟩ r48 vals ∧ At p rest d S0 left0 fn b (j : Int) vals S left)
    ⟨vals0, lk0, SB, leftB, rfl, Int.le_refl _, k9, aB⟩ ?_
  rintro j _ h10 K2 hj ⟨vals, lk1, S, left, rfl, hle, k10, a10⟩ hK2
  have hpos := a10.pos
  have hexl : left ≤ 1023 ∧ S.leaks.length ≤ 2000 ∧ left ≤ left0 ∧ (S.leaks.length : Int) + left ≤ 2000 := by
    obtain ⟨k', _, e1, _, e3⟩ := a10.ex
    omega
  have hw : IntKind.wrap .i64 (left - 1) = left - 1 := w64 (by omega) (by omega)
  refine cond_dec (fun hlt => ?_) (fun hge => ?_)
  · have hj' : j < bl.ins.length := by have := hii.len; simp only at hlt; omega
    have him := List.getElem_mem hj'
    have hri := okI _ him
    have hargs := fewB'.args _ him
    refine elem_ins hii k10.w.le hj' rfl rfl fun q hq r16 h12 _ l12 hr16 b16 => ?_
    obtain ⟨hD, lD, k12, e16⟩ := k10.box1 l12 hr16 b16
    refine ⟨left, k12.w.at rfl, ?_⟩
    show StL h12 (Addr.add ⟨r, 0, none⟩ 5) 0 [iV (IntKind.wrap .i64 (left - 1))] _
    rw [hw]
    refine k12.sc (i := 5) (O' := ⟨S.mem, S.leaks, left - 1, 0, false⟩) (by omega) rfl rfl rfl fun h13 k13 => ⟨left - 1, k13.w.at rfl, cond_dec (fun (g : left - 1 < 0) => ?_) (fun (g : ¬ left - 1 < 0) => ?_)⟩
    · exact k13.w.sc (i := 7) (v := .bool true) (O' := ⟨S.mem, S.leaks, left - 1, 0, true⟩) (by omega) rfl rfl rfl fun h73 w73 _ => Wk_self (hR _ 0 false _ lk1 ((lC.trans lD).trans w73.le) (w73.less (lC.trans lD)) (a10.spent rfl (by omega)))
    have hl1 : 1 ≤ left := by omega
    have hins := a10.ins (hbeq _ _) rfl hj'
    generalize hi : bl.ins[j] = i at *
    have b16D : Box hD r16 (insV i q) 51 := e16
    have cD := cC.le lD
    have hqD := hq.le mono_int lD
    have l0D := lC.trans lD
    have mv : ∀ {hh' : V} {vals' : Int → Int} {lk' : Sl} {S' : MS}, OwnF hD hh' p r sa sf lk' ms rows ⟨S'.mem, S'.leaks, left - 1, 0, false⟩ r48 vals' → doS p (nextS rest d fn b j vals S) rest ⟨fn, b, (j : Int) + 1, vals, d⟩ i = some S' → S'.fs = rest ++ [⟨fn, b, (j : Int) + 1, vals', d⟩] → S'.fin = false → S'.trap = 0 → S'.val = 0 →
        ∃ vals' lk' S', OwnF hD hh' p r sa sf lk' ms rows ⟨S'.mem, S'.leaks, left - 1, 0, false⟩ r48 vals' ∧ At p rest d S0 left0 fn b ((j : Int) + 1) vals' S' (left - 1) := fun k' e f1 f2 f3 f4 => ⟨_, _, _, k', a10.step ok nums (hins.trans e) hl1 f1 f2 f3 f4⟩
    have fail : ∀ {hh' : V} {lk' : Sl} {S' : MS} (t : Int), OwnW hD hh' p r sa sf lk' ms rows ⟨S'.mem, S'.leaks, left - 1, t, false⟩ → doS p (nextS rest d fn b j vals S) rest ⟨fn, b, (j : Int) + 1, vals, d⟩ i = some S' → S'.trap = t → S'.fin = true → S'.val = 0 → R (.tuple ⟨[iV 0, .bool false]⟩) hh' :=
      fun t w e f1 f2 f3 => hR _ 0 false _ _ (l0D.trans w.le) (w.less l0D) (a10.last ok nums (hins.trans e) hl1 rfl rfl rfl rfl f1 (.inr ⟨rfl, rfl, f2, f3⟩))
    let Inv : Int → V → Prop := fun n hh' => ((i.op < 1 ∨ n < i.op) ∧ OwnF hD hh' p r sa sf lk1 ms rows ⟨S.mem, S.leaks, left - 1, 0, false⟩ r48 vals) ∨ ((1 ≤ i.op ∧ i.op ≤ n) ∧ ∃ vals' lk' S', OwnF hD hh' p r sa sf lk' ms rows ⟨S'.mem, S'.leaks, left - 1, 0, false⟩ r48 vals' ∧ At p rest d S0 left0 fn b ((j : Int) + 1) vals' S' (left - 1))
    have invLe : ∀ {n hh'}, Inv n hh' → Le hD hh' := fun h => by
      rcases h with ⟨_, k⟩ | ⟨_, _, _, _, k, _⟩ <;> exact k.w.le
    have hl2 : ∀ {lks : List LeakD}, lks = S.leaks → (lks.length + 1) * 24 ≤ 140737488355328 := fun e => by rw [e]; omega
    have rowAt : 0 ≤ i.arr ∧ i.arr.toNat < p.arrays.length → ∀ {hh' : V} {lk' : Sl} {O' : OS} {vals' : Int → Int} {K : Sl → Prop}, OwnF hD hh' p r sa sf lk' ms rows O' r48 vals' → (∀ (h : i.arr.toNat < rows.length), K rows[i.arr.toNat]) →
        Ld hh' (Addr.add ⟨r, 0, none⟩ 3) .sl fun x => Ld hh' (Addr.add ⟨r16, 0, none⟩ 5) (.int .i64) fun y => Ix x y 1 fun a => Ld hh' a .sl K := fun h hh' lk' O' vals' K k' hK => by
      have har : i.arr.toNat < rows.length := by rw [k10.w.rlen]; show _ < S.mem.length; rw [a10.ok.mem]; exact h.2
      exact ⟨ms, k'.w.at rfl, _, (b16D.le k'.w.le).cell rfl, (cD.rows.le mono_sl k'.w.le).ix h.1 har fun a hs => ⟨_, hs, hK har⟩⟩
    refine Cut_i (fun _ hh' => Inv 1 hh') (fun J hJ => ?_) ?_
    · refine ⟨_, (b16D.le k13.w.le).cell rfl, cond_eqi (fun (e : i.op = 1) => ⟨_, (b16D.le k13.w.le).cell rfl, _, (b16D.le k13.w.le).cell rfl, k13.setv fun h' k' => Wk_self (hJ _ _ (.inr ⟨by omega, ?_⟩))⟩) (fun (e : ¬ i.op = 1) => Wk_self (hJ _ _ (.inl ⟨by omega, k13⟩)))⟩
      exact mv (S' := putS (nextS rest d fn b j vals S) rest ⟨fn, b, (j : Int) + 1, vals, d⟩ i.dst i.num) k' (by unfold doS; rw [if_pos e]) rfl a10.fin a10.trap a10.val
    rintro _ h16 inv1
    have b16h := b16D.le (invLe inv1)
    refine Cut_i (fun _ hh' => Inv 2 hh') (fun J hJ => ?_) ?_
    · refine ⟨_, b16h.cell rfl, cond_eqi (fun (e : i.op = 2) => ?_) (fun (e : ¬ i.op = 2) => Wk_self (hJ _ _ (inv1.imp (fun h => ⟨by have := h.1; omega, h.2⟩) (fun h => ⟨by have := h.1; omega, h.2⟩))))⟩
      obtain ⟨_, k16⟩ := inv1.resolve_right (fun h => by have := h.1; omega)
      have hal2 : i.args.length = 2 := by
        have := right_len hri (by rw [e]; decide)
        rw [e] at this
        have h2 : (shapeD 2).1 = 2 := by decide
        omega
      obtain ⟨x, z, hxz⟩ : ∃ x z, i.args = [x, z] := by
        match hm : i.args, hal2 with
        | [x, z], _ => exact ⟨x, z, rfl⟩
      rw [hxz] at hqD
      let S1 : MS := if i.bin = 4 ∨ i.bin = 5 then leakS (nextS rest d fn b j vals S) 3 (vals x) (vals z) else nextS rest d fn b j vals S
      have hS1 : S1.fin = false ∧ S1.trap = 0 ∧ S1.val = 0 := by
        show (if _ then _ else _ : MS).fin = false ∧ (if _ then _ else _ : MS).trap = 0 ∧ (if _ then _ else _ : MS).val = 0
        split <;> exact ⟨a10.fin, a10.trap, a10.val⟩
      have hdo : doS p (nextS rest d fn b j vals S) rest ⟨fn, b, (j : Int) + 1, vals, d⟩ i = some (if (doW i.bin (vals x) (vals z)).2 = true then putS S1 rest ⟨fn, b, (j : Int) + 1, vals, d⟩ i.dst (doW i.bin (vals x) (vals z)).1 else trapS (putS S1 rest ⟨fn, b, (j : Int) + 1, vals, d⟩ i.dst (doW i.bin (vals x) (vals z)).1) 2) := by
        unfold doS
        rw [if_neg (by omega), if_pos e, hxz]
        rfl
      refine ⟨q, b16h.cell rfl, (hqD.le mono_int k16.w.le).ix (i := 0) (by omega) (by simp) fun a ha => ⟨x, ha, k16.look fun _ => ⟨q, b16h.cell rfl, (hqD.le mono_int k16.w.le).ix (i := 1) (by omega) (by simp) fun a ha => ⟨z, ha, k16.look fun _ => ?_⟩⟩⟩⟩
      refine Cut_i (fun _ h54 => ∃ lk', OwnF hD h54 p r sa sf lk' ms rows ⟨S1.mem, S1.leaks, left - 1, 0, false⟩ r48 vals) (fun J7 hJ7 => ?_) ?_
      · refine Cut_i (fun st h60 => st = (decide (i.bin = 4 ∨ i.bin = 5), ()) ∧ h16 = h60) (fun J8 hJ8 => ?_) ?_
        · refine ⟨_, b16h.cell rfl, cond_eqi (fun (e4 : i.bin = 4) => Wk_self (hJ8 _ _ ⟨by rw [decide_eq_true (Or.inl e4)], rfl⟩)) (fun (e4 : ¬ i.bin = 4) => ⟨_, b16h.cell rfl, Wk_self (hJ8 _ _ ⟨?_, rfl⟩)⟩)⟩
          show (i.bin == 5, ()) = _
          by_cases e5 : i.bin = 5
          · rw [e5]; rfl
          · rw [decide_eq_false (fun h => h.elim e4 e5)]
            simp [e5]
        · rintro _ _ ⟨rfl, rfl⟩
          refine cond_dec (fun g => ⟨lk1, k16.w.at rfl, k16.leak (x := ⟨3, vals x, vals z⟩) (hl2 rfl) fun h' lk' k' => Wk_self (hJ7 _ _ ⟨lk', ?_⟩)⟩) (fun g => Wk_self (hJ7 _ _ ⟨lk1, ?_⟩))
          · have : S1 = leakS (nextS rest d fn b j vals S) 3 (vals x) (vals z) := if_pos g
            rw [this]; exact k'
          · have : S1 = nextS rest d fn b j vals S := if_neg g
            rw [this]; exact k16
      · rintro _ h54 ⟨lk', k54⟩
        have b54 := b16D.le k54.w.le
        refine ⟨_, b54.cell rfl, c_Do ⟨(_, _, ()), rfl, cond_not (fun g => ?_) (fun g => ⟨_, b54.cell rfl, k54.setv fun h' k' => Wk_self (hJ _ _ (.inr ⟨by omega, ?_⟩))⟩)⟩⟩
        · have g : (doW i.bin (vals x) (vals z)).2 = false := g
          exact k54.w.sc (i := 6) (v := iV 2) (O' := ⟨S1.mem, S1.leaks, left - 1, 2, false⟩) (by omega) rfl rfl rfl fun h56 w56 _ => Wk_self (fail 2 (S' := trapS (putS S1 rest ⟨fn, b, (j : Int) + 1, vals, d⟩ i.dst (doW i.bin (vals x) (vals z)).1) 2) w56 (by rw [hdo, if_neg (by rw [g]; simp)]) rfl rfl hS1.2.2)
        · have g : (doW i.bin (vals x) (vals z)).2 = true := g
          exact mv (S' := putS S1 rest ⟨fn, b, (j : Int) + 1, vals, d⟩ i.dst (doW i.bin (vals x) (vals z)).1) k' (by rw [hdo, if_pos g]) rfl hS1.1 hS1.2.1 hS1.2.2
    rintro _ h17 inv2
    have b16h := b16D.le (invLe inv2)
    refine Cut_i (fun _ hh' => Inv 3 hh') (fun J hJ => ?_) ?_
    · refine ⟨_, b16h.cell rfl, cond_eqi (fun (e : i.op = 3) => ?_) (fun (e : ¬ i.op = 3) => Wk_self (hJ _ _ (inv2.imp (fun h => ⟨by have := h.1; omega, h.2⟩) (fun h => ⟨by have := h.1; omega, h.2⟩))))⟩
      obtain ⟨_, k17⟩ := inv2.resolve_right (fun h => by have := h.1; omega)
      have hra := right_arr hri (.inl e)
      have hml : i.arr.toNat < S.mem.length := by rw [a10.ok.mem]; exact hra.2
      obtain ⟨hne, _⟩ := a10.ok.rows _ (List.getElem_mem hml)
      have hpos0 : 0 < (S.mem[i.arr.toNat]).length := List.length_pos_iff.2 hne
      have hgd : S.mem.getD i.arr.toNat [] = S.mem[i.arr.toNat] := by rw [List.getD_eq_getElem?_getD, List.getElem?_eq_getElem hml]; rfl
      have hm : memAt S.mem i.arr 0 = (S.mem[i.arr.toNat])[0] := by
        unfold memAt
        rw [hgd, List.getD_eq_getElem?_getD]
        show ((S.mem[i.arr.toNat])[0]?).getD 0 = _
        rw [List.getElem?_eq_getElem hpos0]; rfl
      refine ⟨_, b16h.cell rfl, rowAt hra k17 fun har => ?_⟩
      have hrow := k17.w.orow _ _ _ (List.getElem?_eq_getElem har) (List.getElem?_eq_getElem hml)
      exact (OwnS.ints hrow).ix (i := 0) (by omega) hpos0 fun a ha => ⟨_, ha, k17.setv fun h' k' => Wk_self (hJ _ _ (.inr ⟨by omega, mv (S' := putS (nextS rest d fn b j vals S) rest ⟨fn, b, (j : Int) + 1, vals, d⟩ i.dst (S.mem[i.arr.toNat])[0]) k' (by
        unfold doS
        rw [if_neg (by omega), if_neg (by omega), if_pos e]
        show some (putS _ _ _ _ (memAt S.mem i.arr 0)) = _
        rw [hm]) rfl a10.fin a10.trap a10.val⟩))⟩
    rintro _ h18 inv3
    have b16h := b16D.le (invLe inv3)
    refine Cut_i (fun _ hh' => Inv 4 hh') (fun J hJ => ?_) ?_
    · refine ⟨_, b16h.cell rfl, cond_eqi (fun (e : i.op = 4) => ?_) (fun (e : ¬ i.op = 4) => Wk_self (hJ _ _ (inv3.imp (fun h => ⟨by have := h.1; omega, h.2⟩) (fun h => ⟨by have := h.1; omega, h.2⟩))))⟩
      obtain ⟨_, k18⟩ := inv3.resolve_right (fun h => by have := h.1; omega)
      have hra := right_arr hri (.inr (.inl e))
      have hml : i.arr.toNat < S.mem.length := by rw [a10.ok.mem]; exact hra.2
      obtain ⟨hne, _⟩ := a10.ok.rows _ (List.getElem_mem hml)
      have hpos0 : 0 < (S.mem[i.arr.toNat]).length := List.length_pos_iff.2 hne
      have hgd : S.mem.getD i.arr.toNat [] = S.mem[i.arr.toNat] := by rw [List.getD_eq_getElem?_getD, List.getElem?_eq_getElem hml]; rfl
      have h0a : 0 < i.args.length := by
        have := right_len hri (by rw [e]; decide)
        rw [e] at this
        have h2 : (shapeD 4).1 = 1 := by decide
        omega
      refine rowAt hra k18 fun har => ⟨q, b16h.cell rfl, (hqD.le mono_int k18.w.le).ix (i := 0) (by omega) h0a fun a ha => ⟨_, ha, k18.look fun _ => k18.setm (List.getElem?_eq_getElem har) (List.getElem?_eq_getElem hml) (by omega) hpos0 fun h' k' => Wk_self (hJ _ _ (.inr ⟨by omega, ?_⟩))⟩⟩
      refine mv (S' := { nextS rest d fn b j vals S with mem := S.mem.set i.arr.toNat ((S.mem[i.arr.toNat]).set 0 (vals i.args[0])) }) k' ?_ rfl a10.fin a10.trap a10.val
      unfold doS
      rw [if_neg (by omega), if_neg (by omega), if_neg (by omega), if_pos e]
      show some ({ nextS rest d fn b j vals S with mem := S.mem.set i.arr.toNat ((S.mem.getD i.arr.toNat []).set (0 : Int).toNat ((i.args.map vals).getD 0 0)) } : MS) = _
      rw [hgd, List.getD_eq_getElem?_getD, List.getElem?_map, List.getElem?_eq_getElem h0a]
      rfl
    rintro _ h19 inv4
    have b16h := b16D.le (invLe inv4)
    refine Cut_i (fun _ hh' => Inv 6 hh') (fun J hJ => ?_) ?_
    · refine Cut_i (fun st h31 => st = (decide (i.op = 5 ∨ i.op = 6), ()) ∧ h19 = h31) (fun J5 hJ5 => ?_) ?_
      · refine ⟨_, b16h.cell rfl, cond_eqi (fun (e4 : i.op = 5) => Wk_self (hJ5 _ _ ⟨by rw [decide_eq_true (Or.inl e4)], rfl⟩)) (fun (e4 : ¬ i.op = 5) => ⟨_, b16h.cell rfl, Wk_self (hJ5 _ _ ⟨?_, rfl⟩)⟩)⟩
        show (i.op == 6, ()) = _
        by_cases e5 : i.op = 6
        · rw [e5]; rfl
        · rw [decide_eq_false (fun h => h.elim e4 e5)]
          simp [e5]
      rintro _ _ ⟨rfl, rfl⟩
      refine cond_dec (fun g56 => ?_) (fun g56 => Wk_self (hJ _ _ (inv4.imp (fun h => ⟨by have := h.1; omega, h.2⟩) (fun h => ⟨by have := h.1; omega, h.2⟩))))
      obtain ⟨_, k19⟩ := inv4.resolve_right (fun h => by have := h.1; omega)
      have hra := right_arr hri (.inr (.inr g56))
      have hml : i.arr.toNat < S.mem.length := by rw [a10.ok.mem]; exact hra.2
      obtain ⟨hne, _⟩ := a10.ok.rows _ (List.getElem_mem hml)
      have hpos0 : 0 < (S.mem[i.arr.toNat]).length := List.length_pos_iff.2 hne
      have hgd : S.mem.getD i.arr.toNat [] = S.mem[i.arr.toNat] := by rw [List.getD_eq_getElem?_getD, List.getElem?_eq_getElem hml]; rfl
      have hal6 : i.args.length = (if i.op = 5 then 1 else 2) := by
        rcases g56 with e | e
        · have := right_len hri (by rw [e]; decide)
          rw [e] at this
          have h2 : (shapeD 5).1 = 1 := by decide
          rw [if_pos e]; omega
        · rw [if_neg (by omega)]; exact right_two hri e
      have h0a : 0 < i.args.length := by rw [hal6]; split <;> omega
      have hg0 : (i.args.map vals).getD 0 0 = vals i.args[0] := by rw [List.getD_eq_getElem?_getD, List.getElem?_map, List.getElem?_eq_getElem h0a]; rfl
      refine ⟨q, b16h.cell rfl, (hqD.le mono_int k19.w.le).ix (i := 0) (by omega) h0a fun a ha => ⟨i.args[0], ha, k19.look fun _ => ⟨lk1, k19.w.at rfl, ?_⟩⟩⟩
      generalize hv0 : vals i.args[0] = v0 at *
      refine k19.leak (x := ⟨2, v0, 0⟩) (hl2 rfl) fun h34 lk' k34 => ?_
      have k34 : OwnF hD h34 p r sa sf lk' ms rows ⟨S.mem, (leakS (nextS rest d fn b j vals S) 2 v0 0).leaks, left - 1, 0, false⟩ r48 vals := k34
      have hdo : doS p (nextS rest d fn b j vals S) rest ⟨fn, b, (j : Int) + 1, vals, d⟩ i = some (if memIn S.mem i.arr v0 = true then (if i.op = 5 then putS (leakS (nextS rest d fn b j vals S) 2 v0 0) rest ⟨fn, b, (j : Int) + 1, vals, d⟩ i.dst (memAt S.mem i.arr v0) else { leakS (nextS rest d fn b j vals S) 2 v0 0 with mem := memSet S.mem i.arr v0 ((i.args.map vals).getD 1 0) }) else trapS (leakS (nextS rest d fn b j vals S) 2 v0 0) 4) := by
        unfold doS
        rw [if_neg (by omega), if_neg (by omega), if_neg (by omega), if_neg (by omega)]
        rcases g56 with e | e
        · rw [if_pos e, if_pos e]
          show some (if memIn S.mem i.arr ((i.args.map vals).getD 0 0) = true then _ else _) = _
          rw [hg0]; rfl
        · rw [if_neg (show ¬ i.op = 5 by omega), if_pos e, if_neg (show ¬ i.op = 5 by omega)]
          show some (if memIn S.mem i.arr ((i.args.map vals).getD 0 0) = true then _ else _) = _
          rw [hg0]; rfl
      have hin : memIn S.mem i.arr v0 = true ↔ (0 ≤ v0 ∧ v0.toNat < (S.mem[i.arr.toNat]).length) := by
        unfold memIn
        rw [hgd]
        simp
      have fail4 : ¬ (0 ≤ v0 ∧ v0.toNat < (S.mem[i.arr.toNat]).length) → StL h34 (Addr.add ⟨r, 0, none⟩ 6) 0 [iV 4] fun h40 => Wk h40 fun h41 => R (.tuple ⟨[iV 0, .bool false]⟩) h41 := fun hn =>
        k34.w.sc (i := 6) (v := iV 4) (O' := ⟨S.mem, (leakS (nextS rest d fn b j vals S) 2 v0 0).leaks, left - 1, 4, false⟩) (by omega) rfl rfl rfl fun h40 w40 _ => Wk_self (fail 4 (S' := trapS (leakS (nextS rest d fn b j vals S) 2 v0 0) 4) w40 (by rw [hdo, if_neg (fun h => hn (hin.1 h))]) rfl rfl a10.val)
      have b34 := b16D.le k34.w.le
      refine Cut_i (fun _ h35 => h34 = h35 ∧ 0 ≤ v0 ∧ v0.toNat < (S.mem[i.arr.toNat]).length) (fun J6 hJ6 => ?_) ?_
      · refine cond_dec (fun g1 => fail4 (by omega)) (fun g1 => rowAt hra k34 fun har => ?_)
        have hrow := (k34.w.orow _ _ _ (List.getElem?_eq_getElem har) (List.getElem?_eq_getElem hml)).1
        simp only [List.length_map, Nat.mul_one] at hrow
        exact cond_dec (fun g2 => fail4 (by omega)) (fun g2 => Wk_self (hJ6 _ _ ⟨rfl, by omega, by omega⟩))
      rintro _ _ ⟨rfl, hv1, hv2⟩
      refine ⟨_, b34.cell rfl, cond_eqi (fun (e5 : i.op = 5) => ⟨_, b34.cell rfl, rowAt hra k34 fun har => ?_⟩) (fun (e5 : ¬ i.op = 5) => rowAt hra k34 fun har => ⟨q, b34.cell rfl, ?_⟩)⟩
      · have hrow := k34.w.orow _ _ _ (List.getElem?_eq_getElem har) (List.getElem?_eq_getElem hml)
        have hmv : memAt S.mem i.arr v0 = (S.mem[i.arr.toNat])[v0.toNat] := by
          unfold memAt
          rw [hgd, List.getD_eq_getElem?_getD, List.getElem?_eq_getElem hv2]; rfl
        exact (OwnS.ints hrow).ix hv1 hv2 fun a ha => ⟨_, ha, k34.setv fun h' k' => Wk_self (hJ _ _ (.inr ⟨by omega, mv (S' := putS (leakS (nextS rest d fn b j vals S) 2 v0 0) rest ⟨fn, b, (j : Int) + 1, vals, d⟩ i.dst (S.mem[i.arr.toNat])[v0.toNat]) k' (by rw [hdo, if_pos (hin.2 ⟨hv1, hv2⟩), if_pos e5, hmv]) rfl a10.fin a10.trap a10.val⟩))⟩
      · have h1a : 1 < i.args.length := by rw [hal6, if_neg e5]; omega
        have hg1 : (i.args.map vals).getD 1 0 = vals i.args[1] := by rw [List.getD_eq_getElem?_getD, List.getElem?_map, List.getElem?_eq_getElem h1a]; rfl
        refine (hqD.le mono_int k34.w.le).ix (i := 1) (by omega) h1a fun a ha => ⟨i.args[1], ha, k34.look fun _ => k34.setm (List.getElem?_eq_getElem har) (List.getElem?_eq_getElem hml) hv1 hv2 fun h' k' => Wk_self (hJ _ _ (.inr ⟨by omega, mv (lk' := lk') (S' := { leakS (nextS rest d fn b j vals S) 2 v0 0 with mem := memSet S.mem i.arr v0 (vals i.args[1]) }) ?_ (by rw [hdo, if_pos (hin.2 ⟨hv1, hv2⟩), if_neg e5, hg1]) rfl a10.fin a10.trap a10.val⟩))⟩
        unfold memSet
        rw [hgd]
        exact k'
    rintro _ h20 inv6
    have b16h := b16D.le (invLe inv6)
    have on : ∀ {hh' : V} {vals' : Int → Int} {lk' : Sl} {S' : MS} {l' : Int}, OwnF hD hh' p r sa sf lk' ms rows ⟨S'.mem, S'.leaks, l', 0, false⟩ r48 vals' → At p rest d S0 left0 fn b ((j : Int) + 1) vals' S' l' → l' ≤ left → Wk hh' fun h29 => K2 (IntKind.wrap .i64 ((j : Int) + 1), ()) h29 := fun {hh' vals' lk' S' l'} k' a' hl' => by
      refine Wk_self (hK2 _ _ hj' ⟨vals', lk', S', l', by rw [wnat hj' hii.bd], by omega, k'.less lD, ?_⟩)
      rw [show ((j + 1 : Nat) : Int) = (j : Int) + 1 by omega]
      exact a'
    refine ⟨_, b16h.cell rfl, cond_eqi (fun (e : i.op = 7) => ?_) (fun (e : ¬ i.op = 7) => ?_)⟩
    · obtain ⟨_, k20⟩ := inv6.resolve_right (fun h => by have := h.1; omega)
      obtain ⟨hf0, hf1, halc⟩ := right_call hri e
      refine New_box fun r266 h21 hr266 l21 b266 => ⟨q, (b16h.le l21).cell rfl, ?_⟩
      refine OwnF.valsL (hF := hD) hqD k20.w.le k20 (by omega) l21 hr266 b266 fun s' _ h22 l22 o22 => ?_
      obtain ⟨hE, lE, k22, oE⟩ := k20.addS l22 o22
      have i22 : isInts hE s' (i.args.map vals) := oE.ints
      have b22 := (b16D.le lE).le k22.w.le
      obtain ⟨om, mm, hm1, hm2, hm3⟩ := k22.qm
      have hk0 := kind_map hm2
      have hne48 : r48 ≠ r := fun e => by
        have := k22.w.box
        unfold Box at this
        rw [← e, hm1] at this
        cases this
        cases hk0
      have kG := k22.w.addC hm1 hne48 (by rw [hk0]; decide) (by rw [hk0]; decide)
      have lG : Le hE (hE.upd r48 om) := le_upd k22.qn _
      have mG : (hE.upd r48 om) r48 = some om := upd_self _ _ _
      generalize (hE.upd r48 om) = hG at *
      have lDG := lE.trans lG
      have hfr : (nextS rest d fn b j vals S).fs.length = rest.length + 1 := by show (rest ++ [_]).length = _; simp
      have hdo : doS p (nextS rest d fn b j vals S) rest ⟨fn, b, (j : Int) + 1, vals, d⟩ i = enterS p (nextS rest d fn b j vals S) i.fn (i.args.map vals) i.dst := by
        unfold doS
        rw [if_neg (by omega), if_neg (by omega), if_neg (by omega), if_neg (by omega), if_neg (by omega), if_neg (by omega), if_pos e]
      obtain ⟨S2, hent, t1, t2, t3, t4, t5, t6⟩ : ∃ S2, enterS p (nextS rest d fn b j vals S) i.fn (i.args.map vals) i.dst = some S2 ∧ S2.fs = (rest ++ [⟨fn, b, (j : Int) + 1, vals, d⟩]) ++ [⟨i.fn, 0, 0, setVs (fun _ => 0) (fnAt p i.fn).params (i.args.map vals), i.dst⟩] ∧ S2.mem = S.mem ∧ S2.leaks = S.leaks ∧ S2.fin = false ∧ S2.trap = 0 ∧ S2.val = 0 :=
        ⟨{ nextS rest d fn b j vals S with fs := (nextS rest d fn b j vals S).fs ++ [⟨i.fn, 0, 0, setVs (fun _ => 0) (fnAt p i.fn).params (i.args.map vals), i.dst⟩], deep := if (((nextS rest d fn b j vals S).fs.length + 1 : Nat) : Int) > (nextS rest d fn b j vals S).deep then (((nextS rest d fn b j vals S).fs.length + 1 : Nat) : Int) else (nextS rest d fn b j vals S).deep }, by unfold enterS; rw [if_neg (by rw [hfr]; omega)], rfl, rfl, rfl, a10.fin, a10.trap, a10.val⟩
      have hst2 := hins.trans (hdo.trans hent)
      have ff := step_facts ok nums a10.ok1 (show ({ S with steps := S.steps + 1 } : MS).fs = _ from a10.fs) hst2
      have dd := step_deep (show ({ S with steps := S.steps + 1 } : MS).fs = _ from a10.fs) hst2
      have s2 : S2.steps = S.steps + 1 := step_steps hst2
      have hrl : ((rest ++ [(⟨fn, b, (j : Int) + 1, vals, d⟩ : FrD)]).length : Nat) = rest.length + 1 := by simp
      have hwd : IntKind.wrap .i64 (((rest.length : Nat) : Int) + 1) = (((rest ++ [(⟨fn, b, (j : Int) + 1, vals, d⟩ : FrD)]).length : Nat) : Int) := by rw [hrl, w64 (by omega) (by omega)]; omega
      refine ⟨i.fn, b22.cell rfl, ?_⟩
      have kG2 : OwnW hG h22 p r sa sf lk1 ms rows ⟨S2.mem, S2.leaks, left - 1, 0, false⟩ := by rw [t2, t3]; exact kG
      have deep2 := dd.2 a10.deep
      refine CallOk.app (IH (left - 1).toNat (by omega)) rfl (by omega) (by omega) kG2 (cD.le lDG) t1 t4 t5 t6 ff.ok deep2 (by rw [t3]; omega) (i22.le mono_int lG) (by rw [List.length_map]; exact halc) hwd fun h26 z gg O' lk' l26 w26 post => cond_not (fun eg => ?_) (fun eg => ?_)
      · have eg : gg = false := eg
        subst eg
        exact Wk_self (hR _ 0 false O' lk' ((l0D.trans lDG).trans l26) (w26.less (l0D.trans lDG)) (a10.post (post.fail.back (reach1 a10.fin a10.fs hst2) (by omega) (by omega) s2 (by rw [t3]; omega))))
      · have eg : gg = true := eg
        subst eg
        rcases post with ⟨_, hx, _⟩ | ⟨osp, k', T, c1, c2, c3, c4, c5, c6, c7, c8, c9, c10, ⟨_, ot, _, hne⟩ | ⟨hx, _⟩⟩
        · cases hx
        · obtain ⟨n1, n2, n3⟩ := hne (by simp)
          rw [backS_snoc] at n3
          have kE : OwnF hE h26 p r sa sf lk' ms rows O' r48 vals := ⟨w26.less lG, k22.qn, ⟨om, mm, l26 _ _ mG, hm2, hm3⟩⟩
          have kD := kE.less lE
          refine ⟨_, (b16D.le kD.w.le).cell rfl, kD.setv fun h28 k28 => ?_⟩
          have hO : O' = ⟨T.mem, T.leaks, O'.left, 0, false⟩ := by
            cases O'
            simp only at osp ot c5 c6
            rw [osp, ot, c5, c6]
          rw [hO] at k28
          obtain ⟨k0, e0, e1, e2, e3⟩ := a10.ex
          exact on k28 ⟨⟨k0 + (1 + k'), e0.trans ((reach1 a10.fin a10.fs hst2).trans c1), by omega, by omega, by rw [t3] at c10; omega⟩, c3, n3, n1, by rw [c7, ot], n2, c8, c9⟩ (by omega)
        · cases hx
    · rcases inv6 with ⟨ho, k20⟩ | ⟨_, vals', lk', S', k', a'⟩
      · obtain ⟨vals', lk', S', k', a'⟩ := mv (S' := nextS rest d fn b j vals S) k20 (by
          unfold doS
          rw [if_neg (by omega), if_neg (by omega), if_neg (by omega), if_neg (by omega), if_neg (by omega), if_neg (by omega), if_neg e]) rfl a10.fin a10.trap a10.val
        exact on k' a' (by omega)
      · exact on k' a' (by omega)
  · have hje : j = bl.ins.length := by have := hii.len; simp only at hge; omega
    subst hje
    refine ⟨left, k10.w.at rfl, ?_⟩
    show StL h10 (Addr.add ⟨r, 0, none⟩ 5) 0 [iV (IntKind.wrap .i64 (left - 1))] _
    rw [hw]
    refine k10.sc (i := 5) (O' := ⟨S.mem, S.leaks, left - 1, 0, false⟩) (by omega) rfl rfl rfl fun h72 k72 => ⟨left - 1, k72.w.at rfl, cond_dec (fun (g : left - 1 < 0) => ?_) (fun (g : ¬ left - 1 < 0) => ?_)⟩
    · exact k72.w.sc (i := 7) (v := .bool true) (O' := ⟨S.mem, S.leaks, left - 1, 0, true⟩) (by omega) rfl rfl rfl fun h73 w73 _ => Wk_self (hR _ 0 false _ lk1 (lC.trans w73.le) (w73.less lC) (a10.spent rfl (by omega)))
    have hl1 : 1 ≤ left := by omega
    refine ⟨sb, (bC.le k72.w.le).cell rfl, hsbC.ix hb0 hb2 fun a4 ⟨_, _, ww, _, _, hww, hc4⟩ => ⟨(bl.e.kind, bl.e.val, ww, bl.e.trap, ()), cellsAt_from (cellsAt_le k72.w.le hc4) 2 (fun j v hv => ?_), ?_⟩⟩
    · rw [hbl]
      match j, hv with
      | 0, hv => exact hv
      | 1, hv => exact hv
      | 2, hv => exact hv
      | 3, hv => exact hv
    rw [hbl] at hww
    refine New_box fun r27 h75 hr27 l75 b27 => StL_box (h := h72) b27 rfl l75 hr27 fun h76 l76 b27' _ => ?_
    obtain ⟨hD, lD, k76, e27⟩ := k72.box1 l76 hr27 b27'
    refine New_box fun r28 h77 hr28 l77 b28 => StL_box (h := h76) b28 rfl l77 hr28 fun h78 l78 b28' _ => ?_
    obtain ⟨hE, lE, k78, e28⟩ := k76.box1 l78 hr28 b28'
    have hDn : hD r28 = none := le_none k76.w.le hr28
    have hne28 : r28 ≠ r := fun e => by have := k76.w.box; unfold Box at this; rw [← e, hr28] at this; cases this
    have b27h : Box h78 r27 [iV bl.e.kind, iV bl.e.val, sV ww, iV bl.e.trap] 58 := k78.w.le _ _ (lE _ _ e27)
    have hstep := a10.ends (hbeq _ _) rfl
    have lCE := lD.trans lE
    have l0E := lC.trans lCE
    have hwwh := hww.le mono_edge (lCE.trans k78.w.le)
    refine Cut_i (fun _ h79 => ∃ lk' Sx w q, OwnF hD h79 p r sa sf lk' ms rows ⟨S.mem, Sx.leaks, left - 1, 0, false⟩ r48 vals ∧ w ∈ bl.e.ways ∧ isInts hC q w.args ∧ Box h79 r28 (edgeV w q) 55 ∧ finishS p { S with steps := S.steps + 1 } rest ⟨fn, b, (bl.ins.length : Nat), vals, d⟩ bl.e = wayS p Sx rest ⟨fn, b, (bl.ins.length : Nat), vals, d⟩ w ∧ Sx.mem = S.mem ∧ Sx.trap = 0 ∧ Sx.val = 0 ∧ Sx.fin = false) (fun J hJ => ?_) ?_
    · have way : ∀ {hh' : V} {lk' : Sl} {Sx : MS} {i : Nat} (hi : i < bl.e.ways.length), OwnF hE hh' p r sa sf lk' ms rows ⟨S.mem, Sx.leaks, left - 1, 0, false⟩ r48 vals →
          finishS p { S with steps := S.steps + 1 } rest ⟨fn, b, (bl.ins.length : Nat), vals, d⟩ bl.e = wayS p Sx rest ⟨fn, b, (bl.ins.length : Nat), vals, d⟩ bl.e.ways[i] → Sx.mem = S.mem → Sx.trap = 0 → Sx.val = 0 → Sx.fin = false →
          Ix ww (i : Int) 2 fun a362 => LdA hh' a362 [.int .i64, .sl] fun x363 => StL hh' ⟨r28, 0, none⟩ 0 [iV x363.1, sV x363.2.1] fun h92 => Wk h92 fun h93 => J () h93 := fun {hh' lk' Sx i} hi k' e1 e2 e3 e4 e5 =>
        hww.ixn hi fun a6 ⟨q, hq, hcq⟩ => ⟨(bl.e.ways[i].to, q, ()), cellsAt_le (lCE.trans k'.w.le) hcq, k'.stC lE hDn e28 rfl fun h92 k92 b92 => Wk_self (hJ _ _ ⟨lk', Sx, _, q, k92, List.getElem_mem hi, hq, b92, e1, e2, e3, e4, e5⟩)⟩
      rcases ends_kind okE with ⟨ek, ew⟩ | ⟨ek, ew⟩ | ⟨ek, ew⟩ | ⟨ek, ew⟩
      · refine ⟨_, b27h.cell rfl, cond_eqi (fun e' => absurd (ek.symm.trans e') (by decide)) (fun _ => cond_eqi (fun e' => absurd (ek.symm.trans e') (by decide)) (fun _ => cond_eqi (fun _ => ⟨_, b27h.cell rfl, ?_⟩) (fun e' => absurd ek e')))⟩
        refine way (Sx := { S with steps := S.steps + 1 }) (i := 0) (by omega) k78 ?_ rfl a10.trap a10.val a10.fin
        have hg : bl.e.ways.getD 0 noE = bl.e.ways[0] := by rw [List.getD_eq_getElem?_getD, List.getElem?_eq_getElem (by omega)]; rfl
        unfold finishS
        rw [if_neg (by omega), if_neg (by omega), if_neg (by omega), hg]
      · refine ⟨_, b27h.cell rfl, cond_eqi (fun e' => absurd (ek.symm.trans e') (by decide)) (fun _ => cond_eqi (fun e' => absurd (ek.symm.trans e') (by decide)) (fun _ => cond_eqi (fun e' => absurd (ek.symm.trans e') (by decide)) (fun _ => ⟨_, b27h.cell rfl, k78.look fun _ => c_Bool ⟨_, rfl, ⟨lk1, k78.w.at rfl, ?_⟩⟩⟩)))⟩
        refine k78.leak (x := ⟨1, b2i (vals bl.e.val != 0), 0⟩) (by show (S.leaks.length + 1) * 24 ≤ _; omega) fun h97 lk' k97 => ⟨ww, (show Box h97 r27 [iV bl.e.kind, iV bl.e.val, sV ww, iV bl.e.trap] 58 from k97.w.le _ _ (lE _ _ e27)).cell rfl, ?_⟩
        have hw2 : IntKind.wrap .i64 (1 - b2i (vals bl.e.val != 0)) = (((1 - b2i (vals bl.e.val != 0)).toNat : Nat) : Int) := by cases (vals bl.e.val != 0) <;> rfl
        have hlt2 : (1 - b2i (vals bl.e.val != 0)).toNat < bl.e.ways.length := by rw [ew]; cases (vals bl.e.val != 0) <;> decide
        show Ix ww (IntKind.wrap .i64 (1 - b2i (vals bl.e.val != 0))) 2 _
        rw [hw2]
        refine way (Sx := leakS { S with steps := S.steps + 1 } 1 (b2i (vals bl.e.val != 0)) 0) hlt2 k97 ?_ rfl a10.trap a10.val a10.fin
        have hg : bl.e.ways.getD (1 - b2i (vals bl.e.val != 0)).toNat noE = bl.e.ways[(1 - b2i (vals bl.e.val != 0)).toNat] := by rw [List.getD_eq_getElem?_getD, List.getElem?_eq_getElem hlt2]; rfl
        unfold finishS
        rw [if_neg (by omega), if_neg (by omega), if_pos ek, hg]
      · have hf : finishS p { S with steps := S.steps + 1 } rest ⟨fn, b, (bl.ins.length : Nat), vals, d⟩ bl.e = leaveS { S with steps := S.steps + 1 } rest ⟨fn, b, (bl.ins.length : Nat), vals, d⟩ (vals bl.e.val) := by unfold finishS; rw [if_pos ek]
        rw [hf] at hstep
        obtain ⟨q1, q2, q3⟩ := leave_parts { S with steps := S.steps + 1 } rest ⟨fn, b, (bl.ins.length : Nat), vals, d⟩ (vals bl.e.val)
        refine ⟨_, b27h.cell rfl, cond_eqi (fun _ => ⟨_, b27h.cell rfl, k78.look fun _ => Wk_self (hR _ (vals bl.e.val) true _ lk1 (l0E.trans k78.w.le) (k78.w.less l0E) (a10.last ok nums hstep hl1 rfl rfl q1 q2 (q3.trans a10.trap) (.inl ⟨rfl, rfl, fun hr => ?_, fun hr => ?_⟩)))⟩) (fun e' => absurd ek e')⟩
        · subst hr
          rw [leave_nil]
          exact ⟨rfl, rfl⟩
        · rw [leave_ne hr]
          exact ⟨a10.fin, a10.val, rfl⟩
      · have hf : finishS p { S with steps := S.steps + 1 } rest ⟨fn, b, (bl.ins.length : Nat), vals, d⟩ bl.e = trapS { S with steps := S.steps + 1 } bl.e.trap := by unfold finishS; rw [if_neg (by omega), if_pos ek]
        rw [hf] at hstep
        refine ⟨_, b27h.cell rfl, cond_eqi (fun e' => absurd (ek.symm.trans e') (by decide)) (fun _ => cond_eqi (fun _ => ⟨_, b27h.cell rfl, ?_⟩) (fun e' => absurd ek e'))⟩
        exact k78.w.sc (i := 6) (v := iV bl.e.trap) (O' := ⟨S.mem, S.leaks, left - 1, bl.e.trap, false⟩) (by omega) rfl rfl rfl fun h90 w90 _ => Wk_self (hR _ 0 false _ lk1 (l0E.trans w90.le) (w90.less l0E) (a10.last ok nums hstep hl1 rfl rfl rfl rfl rfl (.inr ⟨rfl, rfl, rfl, a10.val⟩)))
    · rintro _ h79 ⟨lk', Sx, w, q, k79, hwm, hq, b28', hfin', m1, t1, v1, f1⟩
      have k79' := k79.addC b28' hne28 (show (57 : Nat) ≠ 110 by decide) (show (57 : Nat) ≠ 4 by decide) (show (57 : Nat) ≠ 0 by decide)
      have lD' : Le hD (hD.upd r28 (.cells ⟨edgeV w q⟩ 55 (0, 0))) := le_upd hDn _
      have b28E : Box (hD.upd r28 (.cells ⟨edgeV w q⟩ 55 (0, 0))) r28 (edgeV w q) 55 := upd_self _ _ _
      generalize (hD.upd r28 (.cells ⟨edgeV w q⟩ 55 (0, 0))) = hF at *
      have lCF := lD.trans lD'
      have hwok := endsD_ways okE _ hwm
      have hto := wayOk_to hwok
      have hwa := wayOk_args hwok
      refine New_box fun r364 h80 hr364 l80 b364 => ⟨q, (b28E.le (k79'.w.le.trans l80)).cell rfl, ?_⟩
      refine OwnF.valsL (hF := hF) (hq.le mono_int lCF) k79'.w.le k79' (by have := fewB'.wargs w hwm; omega) l80 hr364 b364 fun s' _ h81 l81 o81 => ?_
      obtain ⟨hG, lG, k81, oG⟩ := k79'.addS l81 o81
      have i81 : isInts hG s' (w.args.map vals) := oG.ints
      have lCG := lCF.trans lG
      have b28G := b28E.le lG
      refine ⟨w.to, (b28G.le k81.w.le).cell rfl, sb, ((bC.le lCG).le k81.w.le).cell rfl, ?_⟩
      refine hsbC.ix (by omega) hto.2 fun a5 ⟨pw, _, _, hpw, _, _, hc5⟩ => ⟨pw, (cellsAt_le (lCG.trans k81.w.le) hc5).1, ?_⟩
      have hps : ((p.funcs[fn.toNat]).blocks[w.to.toNat]'hto.2) = (fnAt p fn).blocks.getD w.to.toNat noB := by
        rw [hfeq, List.getD_eq_getElem?_getD, List.getElem?_eq_getElem hto.2]; rfl
      rw [hps] at hpw
      rw [← hfeq] at hwa
      have hwayS : wayS p Sx rest ⟨fn, b, (bl.ins.length : Nat), vals, d⟩ w = { Sx with fs := rest ++ [⟨fn, w.to, 0, setVs vals (((fnAt p fn).blocks.getD w.to.toNat noB).params) (w.args.map vals), d⟩] } := rfl
      generalize hP : ((fnAt p fn).blocks.getD w.to.toNat noB).params = ps2 at *
      have hal2 : (w.args.map vals).length = ps2.length := by rw [List.length_map]; exact hwa
      refine Lp_count ps2.length (fun j st h6 => st = ((j : Int), ()) ∧ OwnF hG h6 p r sa sf lk' ms rows ⟨S.mem, Sx.leaks, left - 1, 0, false⟩ r48 (setVs vals (ps2.take j) ((w.args.map vals).take j))) ⟨rfl, k81⟩ ?_
      rintro j _ h85 K5 hj5 ⟨rfl, k85⟩ hK5
      refine cond_dec (fun hlt => ?_) (fun hge => ?_)
      · have hj' : j < ps2.length := by have := hpw.len; simp only at hlt; omega
        have hja : j < (w.args.map vals).length := by omega
        refine (hpw.le mono_int (lCG.trans k85.w.le)).ixn hj' fun a1 ha1 => ⟨_, ha1, (i81.le mono_int k85.w.le).ixn hja fun a2 ha2 => ⟨_, ha2, ?_⟩⟩
        refine k85.setv fun h7 k7 => Wk_self (hK5 _ _ hj' ⟨by rw [wnat hj' hpw.bd], ?_⟩)
        rw [setVs_take hj' hja]; exact k7
      · have hje : j = ps2.length := by have := hpw.len; simp only at hge; omega
        subst hje
        rw [List.take_of_length_le (Nat.le_refl _), List.take_of_length_le (by omega)] at k85
        rw [hfin', hwayS] at hstep
        refine Wk_self (hK1 (left - 1).toNat _ _ (by omega) ⟨w.to, _, lk', _, left - 1, rfl, rfl, ?_, a10.step ok nums hstep hl1 rfl f1 t1 v1⟩)
        have k85' := k85.less lCG
        rw [← m1] at k85'
        exact k85'
end Go.Proofs.Ytapdnglpchejlaa

/- SimRuns: its walk. -/
namespace Go.Proofs.Ytapdnglpchejlaa
open Go Go.VL

theorem c_call {p : ProgD} (ok : CheckOk p) (few : FewOk p) (nums : NumsOk p) (n : Nat) : CallOk p n := by
  induction n using Nat.strongRecOn with
  | _ n IH => exact c_call_body ok few nums IH
set_option maxRecDepth 100000 in
theorem walkRuns {h : V} {p : ProgD} {sa sf si : Sl} {ins : List (List Int)} {fuel : Int} (ha : isArrs h sa p.arrays) (hf : isFuncs h sf p.funcs) (nums : NumsOk p) (hi : isRows h si ins) (hI : ∀ w ∈ ins, ∀ x ∈ w, I64 x) (_ : I64 fuel) :
    ACalls Try.prog 3 [.agg ⟨[sV sa, sV sf, iV p.main]⟩, sV si, iV fuel] h (fun v h' => v = .bool true ∧ Le h h') := by
  refine S3_ok _ _ _ _ _ _ _ (New_box fun r3 h1 hr3 l1 b3 => c_head fun h2 l2 => ⟨true, rfl, cond_not (fun e => by cases e) (fun _ => ?_)⟩)
  have l02 := l1.trans l2
  have b3' := b3.le l2
  have T : ∀ {hh}, Le h hh → Wk hh fun h' => (Value.bool true = .bool true ∧ Le h h') := fun l => Wk_self ⟨rfl, l⟩
  have TB : ∀ {hh} {b : Bool}, Le h hh → b = true → Wk hh fun h' => (Value.bool b = .bool true ∧ Le h h') := fun {hh b} l e => Wk_self ⟨by rw [e], l⟩
  refine Cut_i (fun _ hh => Le h2 hh ∧ FewOk p ∧ ins.length ≤ 20) (fun J hJ => ?_) ?_
  · refine ⟨(sa, sf, p.main, ()), b3'.cells, c_Few (ha.le mono_arr l02) (hf.le mono_func l02) fun b hb => ⟨b, rfl, cond_not (fun _ => T l02) (fun hy => ?_)⟩⟩
    exact c_few (hi.le mono_row l02) fun b2 hb2 => ⟨b2, rfl, cond_not (fun _ => T l02) (fun hy2 => Wk_self (hJ _ _ ⟨Le.refl _, hb hy, (hb2 hy2).1⟩))⟩
  rintro _ h4 ⟨l24, few, hin⟩
  have l04 := l02.trans l24
  have f1 := and_bd fuel 1023 (by decide)
  have e1023 : ((1023 : Nat) : Int) = 1023 := rfl
  rw [e1023] at f1
  generalize bits .and .i64 fuel 1023 = fu at *
  have b34 := b3'.le l24
  refine ⟨(sa, sf, p.main, ()), b34.cells, ?_⟩
  refine c_RunB (ha.le mono_arr l04) (hf.le mono_func l04) (hi.le mono_row l04) few nums hI (by omega) (by omega) fun x e r7 h7 l7 b7 res => ?_
  have l07 := l04.trans l7
  have b37 := b34.le l7
  refine ⟨(sa, sf, p.main, ()), b37.cells, c_Check (ha.le mono_arr l07) (hf.le mono_func l07) (few_B few) fun n _ hn => ⟨n, rfl, cond_nei (fun hne => ?_) (fun heq => ?_)⟩⟩
  · rcases res with ⟨_, rfl, rfl⟩ | ⟨ok, _⟩ | ⟨ok, _⟩
    · exact cond_eqi (fun _ => ⟨_, b7.cell rfl, TB l07 rfl⟩) (fun n => absurd rfl n)
    · exact absurd (hn.2 ok) hne
    · exact absurd (hn.2 ok) hne
  have ok := hn.1 heq
  refine ⟨(sa, sf, p.main, ()), b37.cells, c_okP (ha.le mono_arr l07) (hf.le mono_func l07) fun b2 h11 l11 hb2 => ⟨b2, rfl, cond_not (fun _ => T (l07.trans l11)) (fun hy2 => ?_)⟩⟩
  have l011 := l07.trans l11
  have b311 := b37.le l11
  refine ⟨(sa, sf, p.main, ()), b311.cells, (sa, sf, p.main, ()), b311.cells, ?_⟩
  have na := few.arrays
  refine c_Start (ha.le mono_arr l011) (hi.le mono_row l011) (by omega) (by omega) fun ms rows h13 l13 oms rl orow rnd => ⟨ms, rfl, l13, New_box fun r53 h14 hr53 l14 b53 => ⟨p.main, (b311.le (l13.trans l14)).cell rfl, ?_⟩⟩
  obtain ⟨hB, lB, lB13, omB, hBn⟩ := addOwn l13 oms
  have lB14 := lB13.trans l14
  have l0B := l011.trans lB
  have c : SimC hB p sa sf ms rows := ⟨ha.le mono_arr l0B, hf.le mono_func l0B, OwnS.sl (fun _ _ _ h => h) omB⟩
  have k14 : OwnW hB h14 p r53 sa sf ⟨none, 0, 0⟩ ms rows ⟨startM p.arrays ins, [], fu, 0, false⟩ := by
    refine ⟨lB14, lB13.nil hr53, b53, OwnS_nil _ _ _ _, by rw [rl]; show _ = (startM p.arrays ins).length; rw [startM_len], fun k s l hs hl => ((orow k s l hs hl).rebaseN fun a ha' => ?_).le l14, rnd⟩
    cases hx : hB a.block with
    | none => rfl
    | some o =>
      rcases hBn a.block (by rw [hx]; simp) with e | ⟨a2, ha2, e⟩
      · exact absurd ((orow k s l hs hl).blk ha').1 e
      · obtain ⟨_, arr, hh⟩ := oms.blk ha2
        obtain ⟨_, arr2, hh2⟩ := (orow k s l hs hl).blk ha'
        rw [e, hh] at hh2; cases hh2
  have ok0 : MsOk p (startS p (startM p.arrays ins)) := ⟨fun f hf => by simp [startS] at hf, startM_len _ _, startM_rows ins hI _, by simp [startS]⟩
  have hmp : (fnAt p p.main).params = [] := by
    have h1 := ok.main1
    rw [fnAt_eq h1]
    exact ok.main2 _ (List.getElem?_eq_getElem h1)
  obtain ⟨S1, hent, t1, t2, t3, t4, t5, t6, t7, t8⟩ : ∃ S1, enterS p (startS p (startM p.arrays ins)) p.main [] 0 = some S1 ∧ S1.fs = [] ++ [⟨p.main, 0, 0, setVs (fun _ => 0) (fnAt p p.main).params [], 0⟩] ∧ S1.mem = startM p.arrays ins ∧ S1.leaks = [] ∧ S1.fin = false ∧ S1.trap = 0 ∧ S1.val = 0 ∧ S1.steps = 0 ∧ S1.deep = 1 :=
    ⟨⟨[⟨p.main, 0, 0, setVs (fun _ => 0) (fnAt p p.main).params [], 0⟩], 0, 0, [], 0, 1, startM p.arrays ins, false⟩, by unfold enterS; rw [if_neg (by simp [startS])]; rfl, rfl, rfl, rfl, rfl, rfl, rfl, rfl, rfl⟩
  have hrun : runP p ins fu = runS p fu.toNat S1 := by unfold runP; rw [hent]; rfl
  have ff := enter_facts ok ok0 ok.main0 ok.main1 (by simp) hent
  refine CallOk.app (c_call ok few nums fu.toNat) (d := 0) (rest := []) (args := []) (asl := ⟨none, 0, 0⟩) rfl f1.1 f1.2 (by rw [t2, t3]; exact k14) c t1 t4 t5 t6 ff.ok (by rw [t1, t8]; simp) (by rw [t3]; simp; omega) (isSl_nil _ _ _) (by rw [hmp]) rfl fun h15 v g O' lk' l15 k15 post => ⟨O'.sp, k15.at rfl, ?_⟩
  have lh15 := l0B.trans l15
  have b715 : Box h15 r7 (ResD.cells x) 33 := b7.le (l11.trans (lB.trans l15))
  have res15 := res.le (l11.trans (lB.trans l15))
  refine cond_b (fun (hsp : O'.sp = true) => ?_) (fun (hsp : O'.sp = false) => ?_)
  · rcases res15 with ⟨hn, _⟩ | ⟨_, _, rfl, rfl⟩ | ⟨_, S, hS, rfl, x1, x2, x3, x4, x5, x6⟩
    · exact absurd ok hn
    · exact cond_eqi (fun _ => ⟨_, b715.cell rfl, cond_eqi (fun _ => T lh15) (fun n => absurd rfl n)⟩) (fun n => absurd rfl n)
    · refine cond_eqi (fun n => by cases n) (fun _ => cond_eqi (fun _ => ⟨x.deep, b715.cell rfl, TB lh15 ?_⟩) (fun n => absurd rfl n))
      rcases post with ⟨_, _, hx⟩ | ⟨hx, _⟩
      · rw [hrun] at hS
        have := hx S hS
        rw [x4]
        exact decide_eq_true this
      · rw [hsp] at hx; cases hx
  rcases post with ⟨hx, _⟩ | ⟨_, k, Tm, c1, c2, c3, c4, c5, c6, c7, c8, c9, c10, c11⟩
  · rw [hsp] at hx; cases hx
  have hTv : Tm.fin = true ∧ Tm.val = v := by
    rcases c11 with ⟨_, _, a, _⟩ | ⟨_, rfl, a, b⟩
    · exact a rfl
    · exact ⟨a, b⟩
  have hrunT : runP p ins fu = some Tm := by
    rw [hrun, show fu.toNat = O'.left.toNat + k by omega, c1, runS_fin hTv.1]
  rcases res15 with ⟨hn, _⟩ | ⟨_, hS, _⟩ | ⟨_, S, hS, rfl, x1, x2, x3, x4, x5, x6⟩
  · exact absurd ok hn
  · rw [hrunT] at hS; cases hS
  rw [hrunT] at hS
  cases hS
  have olk := OwnS.slN encLk_len (by omega) k15.olk
  have hml : Tm.mem.length = rows.length := by rw [c5]; exact k15.rlen.symm
  have hwf : IntKind.wrap .i64 (fu - O'.left) = fu - O'.left := w64 (by omega) (by omega)
  have cr := c.rows.le mono_sl l15
  refine Cut_i (fun _ hh => h15 = hh) (fun J hJ => ?_) ?_
  · refine cond_nei (fun n => absurd rfl n) (fun _ => ⟨_, b715.cell rfl, _, k15.at rfl, cond_nei (fun n => absurd (x2.trans c7) n) (fun _ => ⟨_, b715.cell rfl, cond_nei (fun n => absurd (x1.trans hTv.2) n) (fun _ => ⟨_, b715.cell rfl, _, k15.at rfl, c_leaks x5 olk ⟨_, rfl, ?_⟩⟩)⟩)⟩)
    rw [decide_eq_true c6]
    refine cond_not (fun e => by cases e) (fun _ => ⟨_, b715.cell rfl, _, k15.at rfl, ?_⟩)
    have hst : x.steps = IntKind.wrap .i64 (fu - O'.left) := by rw [hwf, x3]; omega
    refine cond_nei (fun n => absurd hst n) (fun _ => ⟨_, b715.cell rfl, _, k15.at rfl, cond_nei (fun n => absurd ?_ n) (fun _ => Wk_self (hJ _ _ rfl))⟩)
    show ((x.ms.n : Nat) : Int) = ((ms.n : Nat) : Int)
    rw [x6.len, cr.len, hml]
  rintro _ _ rfl
  refine ⟨x.ms, b715.cell rfl, ?_⟩
  refine Lp_count Tm.mem.length (fun j st hh => st = ((j : Int), ()) ∧ h15 = hh) ⟨rfl, rfl⟩ ?_
  rintro j _ _ K hj ⟨rfl, rfl⟩ hK
  refine cond_dec (fun hlt => ?_) (fun hge => T lh15)
  have hj' : j < Tm.mem.length := by have := x6.len; simp only at hlt; omega
  have hjr : j < rows.length := by omega
  have hjo : j < O'.mem.length := by rw [← c5]; exact hj'
  have ho := k15.orow j _ _ (List.getElem?_eq_getElem hjr) (List.getElem?_eq_getElem hjo)
  have hoi : isInts h15 rows[j] O'.mem[j] := ho.ints
  have hme : Tm.mem[j] = O'.mem[j] := by simp only [c5]
  refine ⟨x.ms, b715.cell rfl, x6.ixn hj' fun a ⟨s, hs, hsi⟩ => ⟨s, hs, ms, k15.at rfl, cr.ixn hjr fun a2 hs2 => ⟨rows[j], hs2, cond_nei (fun n => absurd ?_ n) (fun _ => ⟨x.ms, b715.cell rfl, x6.ixn hj' fun a3 ⟨s3, hs3, hsi3⟩ => ⟨s3, hs3, ?_⟩⟩)⟩⟩⟩
  · show ((s.n : Nat) : Int) = (((rows[j]).n : Nat) : Int)
    rw [hsi.len, hoi.len, hme]
  refine Lp_count Tm.mem[j].length (fun m st hh => st = ((m : Int), ()) ∧ h15 = hh) ⟨rfl, rfl⟩ ?_
  rintro m _ _ K2 hm ⟨rfl, rfl⟩ hK2
  refine cond_dec (fun hlt2 => ?_) (fun hge2 => Wk_self (hK _ _ hj' ⟨by rw [wnat hj' x6.bd], rfl⟩))
  have hm' : m < Tm.mem[j].length := by have := hsi3.len; simp only at hlt2; omega
  have hmo : m < O'.mem[j].length := by rw [← hme]; exact hm'
  refine ⟨x.ms, b715.cell rfl, x6.ixn hj' fun a4 ⟨s4, hs4, hsi4⟩ => ⟨s4, hs4, hsi4.ixn hm' fun a5 hs5 => ⟨_, hs5, ms, k15.at rfl, cr.ixn hjr fun a6 hs6 => ⟨rows[j], hs6, hoi.ixn hmo fun a7 hs7 => ⟨_, hs7, cond_nei (fun n => absurd ?_ n) (fun _ => Wk_self (hK2 _ _ hm' ⟨by rw [wnat hm' hsi4.bd], rfl⟩))⟩⟩⟩⟩⟩
  show Tm.mem[j][m] = O'.mem[j][m]
  simp only [c5]
end Go.Proofs.Ytapdnglpchejlaa

/- SimRuns: the row: whatever the input, the law returns true, and the input reads as it did. -/
namespace Go.Proofs.Ytapdnglpchejlaa
open Go Go.VL Go.ChangeShapes Go.WideShapes Go.ChangeAt Go.RowKit

theorem u4b : Try.prog.underlying 4 = some .bool := by kernel_rfl
theorem own : ownKnob Try.prog.godebug = none := by kernel_rfl
theorem laidOut : laidOutB Try.prog = true := by kernel_rfl
set_option maxRecDepth 100000 in
theorem lifted3 (os : Os) (started : os.Started) (H : Type) (enc : TypeId × Value → H) :
    ReturnsInHanded {} Try.checked os 3 .any (Rows.simRunsSpec.pre6 enc Try.prog Try.f3 Rows.simRunsRow.domain false) (Rows.simRunsSpec.post enc Try.prog Try.f3 false true false false) := by
  refine returnsInHanded_of_change (C := Try.checked) own started (by kernel_rfl) Try.func3
    (ChangeSpec.witness6 (enc := enc) (C := Try.checked) false ⟨#[], #[.agg #[.slice none 0 0, .slice none 0 0, .int .i64 0], .slice none 0 0, .int .i64 0], []⟩ 8 (by kernel_rfl) (by kernel_rfl) (by kernel_rfl) (by kernel_rfl)) ?_
  intro W base args ds gs before hval0 hW hcnd _
  have hW' := hW
  obtain ⟨p, q, hA0, hV, rfl, hfz, hnd⟩ := hW
  have hA : DataW.TrodAll enc Try.prog W 0 (fun _ => true) true Try.f3.params.toList args.toList ds p := hA0
  have hval : ∀ (j : Nat) t v, Try.f3.params[j]? = some t → args[j]? = some v → Value.okWide Try.prog W .any base t v := hval0
  rw [show Try.f3.params = #[25, 26, 3] from by kernel_rfl] at hA hval
  obtain ⟨v0, vs0, d0, ds0, p0, q0, hargs, rfl, rfl, h0, r0⟩ := trodAll_cons hA
  obtain ⟨v1, vs1, d1, ds1, p1, q1, rfl, rfl, rfl, h1, r1⟩ := trodAll_cons r0
  obtain ⟨v2, vs2, d2, ds2, p2, q2, rfl, rfl, rfl, h2, r2⟩ := trodAll_cons r1
  obtain ⟨rfl, rfl, rfl⟩ := trodAll_nil r2
  obtain rfl : args = #[v0, v1, v2] := by cases args; simp_all
  obtain ⟨rfl, rfl⟩ := trodVars_none hV
  have k0 := h0
  have k1 := h1
  have k2 := h2
  have lt0 : ∀ x ∈ p0, x.block < W.heap.size := by obtain ⟨m, hm⟩ := k0; exact DataW.trod_lt m _ _ _ hm
  have lt1 : ∀ x ∈ p1, x.block < W.heap.size := by obtain ⟨m, hm⟩ := k1; exact DataW.trod_lt m _ _ _ hm
  have lt2 : ∀ x ∈ p2, x.block < W.heap.size := by obtain ⟨m, hm⟩ := k2; exact DataW.trod_lt m _ _ _ hm
  obtain ⟨m0, hm0⟩ := h0
  obtain ⟨m1, hm1⟩ := h1
  obtain ⟨m2, hm2⟩ := h2
  obtain ⟨sa0, sf0, pr0, e0, ha0, hf0, nums0⟩ := rd_progN ⟨m0, _, hm0⟩
  obtain ⟨si1, ins1, e1, hi1, hI1⟩ := rd_rows ⟨m1, _, hm1⟩
  obtain ⟨n2, e2, w2⟩ := rd_int u3 ⟨m2, _, hm2⟩
  have ev0 : v0 = .agg ⟨[sV sa0, sV sf0, iV pr0.main]⟩ := by
    cases v0 <;> simp [Value.cells] at e0
    rename_i cs
    exact congrArg Value.agg (Array.ext' e0)
  have ev1 : v1 = sV si1 := by
    obtain ⟨a, l, c, rfl⟩ := okWide_slice u26r (hval 1 26 v1 rfl rfl)
    simpa [Value.cells] using e1
  have ev2 : v2 = iV n2 := by
    obtain ⟨m, rfl⟩ := okWide_int u3 (hval 2 3 v2 rfl rfl)
    simpa [Value.cells] using e2
  subst ev0 ev1 ev2
  refine ((walkRuns ha0 hf0 nums0 hi1 hI1 (wf_I64 w2)).2 W (sees_of W)).mono fun e W' ⟨kept, v, h', he, hs, hv, hle⟩ => ?_
  subst he hv
  have bel := below_of kept hs hle
  exact ⟨_, rfl, _, _, _, [], _, [], hW', trodAll_mk1 (shut_bool u4b _), (trodAll_cons_mk (Below.trod laidOut (by kernel_rfl) (of_decide_eq_true (by kernel_rfl)) k0 bel lt0) (trodAll_cons_mk (Below.trod laidOut (by kernel_rfl) (of_decide_eq_true (by kernel_rfl)) k1 bel lt1) (trodAll_cons_mk (Below.trod laidOut (by kernel_rfl) (of_decide_eq_true (by kernel_rfl)) k2 bel lt2) trodAll_mk0))), rfl, bel.frame _, fun h => by cases h⟩
theorem over3 : Rows.simRunsRow.holds Try.pinned (OpenSpec.ofChange Rows.simRunsSpec) :=
  OpenClaim.holds_of_wide 3 Try.f3 rfl rfl rfl rfl rfl rfl rfl ⟨rfl, rfl, rfl, rfl, rfl⟩ rfl rfl rfl rfl rfl (by kernel_rfl) Try.func3 (by kernel_rfl)
    (of_decide_eq_true (by kernel_rfl)) (by unfold Func.isWrapper; first | (rw [if_pos (by decide +kernel)]; kernel_rfl) | (rw [if_neg (by decide +kernel)]; exact ⟨rfl, rfl⟩))
    (fun os started H enc _ => lifted3 os started H enc)
theorem proved3 : Rows.SimRunsSaid := over3
#print axioms proved3
end Go.Proofs.Ytapdnglpchejlaa
