/- SimDeep: the row: whatever the input, the law returns true, and the input reads as it did. -/
import Derived.Test.YtapdnglpchejlaaZSimDeep4
import Derived.KernelRfl
import Derived.Test.YtapdnglpchejlaaRows
import Derived.WalkKit
import Derived.ProofKit
import Derived.OpenShut
import Derived.ChangeOld
import Derived.Below
namespace Go.Proofs.Ytapdnglpchejlaa
open Go Go.VL

theorem box_own {h : V} {r n sz : Nat} {cs : List Value} {T : TypeId} (b : Box h r cs T) (hl : cs.length = n * sz) (hn : n ≤ 140737488355328) : OwnS (fun _ => none) h ⟨some ⟨r, 0, none⟩, n, n⟩ T sz cs :=
  ⟨hl, Nat.le_refl _, hn, .inr ⟨r, 0, _, rfl, rfl, b, by simp [hl], by simp [← hl]⟩⟩
theorem box_ints {h : V} {r : Nat} {l : List Int} {T : TypeId} (b : Box h r (l.map (Value.int .i64)) T) (hn : l.length ≤ 140737488355328) : isInts h ⟨some ⟨r, 0, none⟩, l.length, l.length⟩ l := (box_own (sz := 1) b (by simp) hn).sl fun _ _ _ h => h
theorem box_inss {h : V} {r : Nat} {ys : List InsH} {xs : List InsD} {T : TypeId} (b : Box h r (ys.flatMap encI) T) (hl : ys.length = xs.length) (hn : ys.length ≤ 1000) (hq : ∀ (k : Nat) x y, xs[k]? = some x → ys[k]? = some y → QI h x y) : isInss h ⟨some ⟨r, 0, none⟩, ys.length, ys.length⟩ xs :=
  own_sl (Q := QI) (enc := encI) (fun _ => rfl) (by omega) QI.rep QI.le (box_own (sz := 7) b (flat_len (enc := encI) (sz := 7) (fun _ => rfl) _) (by omega)) hl (Le.refl _) hq
theorem box_edges {h : V} {r : Nat} {ys : List EdgeH} {xs : List EdgeD} {T : TypeId} (b : Box h r (ys.flatMap encE) T) (hl : ys.length = xs.length) (hn : ys.length ≤ 1000) (hq : ∀ (k : Nat) x y, xs[k]? = some x → ys[k]? = some y → QE h x y) : isEdges h ⟨some ⟨r, 0, none⟩, ys.length, ys.length⟩ xs :=
  own_sl (Q := QE) (enc := encE) (fun _ => rfl) (by omega) QE.rep QE.le (box_own (sz := 2) b (flat_len (enc := encE) (sz := 2) (fun _ => rfl) _) (by omega)) hl (Le.refl _) hq
theorem box_blocks {h : V} {r : Nat} {ys : List BlkH} {xs : List BlockD} {T : TypeId} (b : Box h r (ys.flatMap encB) T) (hl : ys.length = xs.length) (hn : ys.length ≤ 1000) (hq : ∀ (k : Nat) x y, xs[k]? = some x → ys[k]? = some y → QB h x y) : isBlocks h ⟨some ⟨r, 0, none⟩, ys.length, ys.length⟩ xs :=
  own_sl (Q := QB) (enc := encB) (fun _ => rfl) (by omega) QB.rep QB.le (box_own (sz := 6) b (flat_len (enc := encB) (sz := 6) (fun _ => rfl) _) (by omega)) hl (Le.refl _) hq
theorem box_funcs {h : V} {r : Nat} {ys : List FunH} {xs : List FuncD} {T : TypeId} (b : Box h r (ys.flatMap encF) T) (hl : ys.length = xs.length) (hn : ys.length ≤ 1000) (hq : ∀ (k : Nat) x y, xs[k]? = some x → ys[k]? = some y → QF h x y) : isFuncs h ⟨some ⟨r, 0, none⟩, ys.length, ys.length⟩ xs :=
  own_sl (Q := QF) (enc := encF) (fun _ => rfl) (by omega) QF.rep QF.le (box_own (sz := 2) b (flat_len (enc := encF) (sz := 2) (fun _ => rfl) _) (by omega)) hl (Le.refl _) hq
theorem all1 {α β : Type} {Q : α → β → Prop} {x : α} {y : β} (h : Q x y) : ∀ (k : Nat) a b, [x][k]? = some a → [y][k]? = some b → Q a b
  | 0, _, _, h1, h2 => by cases h1; cases h2; exact h
  | k + 1, _, _, h1, _ => by simp at h1
theorem allC {α β : Type} {Q : α → β → Prop} {x : α} {y : β} {xs : List α} {ys : List β} (h : Q x y) (ht : ∀ (k : Nat) a b, xs[k]? = some a → ys[k]? = some b → Q a b) : ∀ (k : Nat) a b, (x :: xs)[k]? = some a → (y :: ys)[k]? = some b → Q a b
  | 0, _, _, h1, h2 => by cases h1; cases h2; exact h
  | k + 1, a, b, h1, h2 => ht k a b h1 h2
/- the document's example -/
def hdB : BlockD := ⟨[], [⟨1, 1, [], 5, 0, 0, 0⟩], ⟨3, 1, [], 0⟩⟩
def hdP : ProgD := ⟨[], [⟨⟨#[]⟩, [hdB]⟩], 0⟩
theorem hdOk : CheckOk hdP := chk_of (by decide)
theorem hdFew : FewOk hdP := by
  refine ⟨by decide, by decide, fun f hf => ?_⟩
  rw [List.mem_singleton.1 hf]
  refine ⟨by decide, by decide, fun b hb => ?_⟩
  rw [List.mem_singleton.1 hb]
  exact ⟨by decide, by decide, by decide, fun i hi => by rw [List.mem_singleton.1 hi]; decide, fun w hw => by simp [hdB] at hw⟩
theorem hdNums : NumsOk hdP := fun f hf b hb i hi => by
  rw [List.mem_singleton.1 hf] at hb
  rw [List.mem_singleton.1 hb] at hi
  rw [List.mem_singleton.1 hi]
  exact ⟨by decide, by decide⟩
def see (o : Option MS) : Option (Int × Int × Nat × Int × Int) := o.map fun S => (S.val, S.steps, S.leaks.length, S.deep, S.trap)
theorem hdRun : see (runP hdP [] 10) = some (5, 2, 0, 1, 0) := by rfl
theorem c_head {h : V} {R : Value → V → Prop} (hR : ∀ h', Le h h' → R (.bool true) h') : ACalls Try.prog 13 [] h R := by
  refine S13_ok _ _ (New_box fun r5 h1 hr5 l1 b5 => New_box fun r8 h2 hr8 l2 b8 => New_box fun r10 h3 hr10 l3 b10 => New_box fun r1 h4 hr1 l4 b1 => StL_box (h := h3) b1 rfl l4 hr1 fun h5 l5 b1' f5 => ?_)
  have l25 := l3.trans l5
  have l15 := l2.trans l25
  have hi : isInss h5 ⟨some ⟨r5, 0, none⟩, 1, 1⟩ hdB.ins := box_inss (ys := [⟨1, 1, ⟨none, 0, 0⟩, 5, 0, 0, 0⟩]) (b5.le l15) rfl (by simp) (all1 ⟨rfl, rfl, rfl, rfl, rfl, rfl, isSl_nil _ _ _⟩)
  have hb : isBlocks h5 ⟨some ⟨r8, 0, none⟩, 1, 1⟩ [hdB] := box_blocks (ys := [⟨⟨none, 0, 0⟩, ⟨some ⟨r5, 0, none⟩, 1, 1⟩, 3, 1, ⟨none, 0, 0⟩, 0⟩]) (b8.le l25) rfl (by simp) (all1 ⟨rfl, rfl, rfl, isSl_nil _ _ _, hi, isSl_nil _ _ _⟩)
  have hf : isFuncs h5 ⟨some ⟨r10, 0, none⟩, 1, 1⟩ hdP.funcs := box_funcs (ys := [⟨⟨#[]⟩, ⟨some ⟨r8, 0, none⟩, 1, 1⟩⟩]) (b10.le l5) rfl (by simp) (all1 ⟨rfl, hb⟩)
  refine ⟨(⟨none, 0, 0⟩, ⟨some ⟨r10, 0, none⟩, 1, 1⟩, 0, ()), b1'.cells, ?_⟩
  have l05 := l1.trans l15
  refine c_Run (p := hdP) (sa := ⟨none, 0, 0⟩) (si := ⟨none, 0, 0⟩) (ins := []) (isSl_nil _ _ _) hf (isSl_nil _ _ _) hdFew hdNums (by simp) (by decide) (by decide) (fun hn => absurd hdOk hn) (fun _ e => ?_) (fun _ S h6 lk ms e l6 hlk hms => ?_)
  · have := hdRun
    rw [e] at this; cases this
  · have hs := hdRun
    rw [e] at hs
    have hs := Option.some.inj hs
    simp only [Prod.mk.injEq] at hs
    obtain ⟨e1, e2, e3, e4, _⟩ := hs
    refine ⟨((S.val, S.trap, lk, S.steps, S.deep, ms, ()), 0, ()), rfl, New_box fun r2 h7 hr2 l7 b2 => StL_box (h := h6) b2 rfl l7 hr2 fun h8 l8 b2' f8 => ?_⟩
    refine cond_eqi (fun _ => ⟨S.val, b2'.cell rfl, cond_eqi (fun _ => ⟨S.steps, b2'.cell rfl, cond_eqi (fun _ => ⟨lk, b2'.cell rfl, cond_eqi (fun _ => ⟨S.deep, b2'.cell rfl, Wk_self ?_⟩) (fun n => absurd (by rw [hlk.len, e3]; rfl) n)⟩) (fun n => absurd e2 n)⟩) (fun n => absurd e1 n)⟩) (fun n => absurd rfl n)
    have : (S.deep == 1) = true := by rw [e4]; rfl
    rw [this]
    exact hR h8 ((l05.trans l6).trans l8)
theorem c_few {h : V} {si : Sl} {ins : List (List Int)} {R : Value → V → Prop} (hi : isRows h si ins) (hR : ∀ b : Bool, (b = true → ins.length ≤ 20 ∧ ∀ w ∈ ins, w.length ≤ 100) → R (.bool b) h) : ACalls Try.prog 15 [sV si] h R := by
  refine S15_ok _ _ _ (cond_dec (fun _ => Wk_self (hR false fun e => by cases e)) (fun g => ?_))
  have g : ¬ ((si.n : Nat) : Int) > 20 := g
  refine Lp_count ins.length (fun k st hh => st = ((k : Int), ()) ∧ h = hh ∧ ∀ w ∈ ins.take k, w.length ≤ 100) ⟨rfl, rfl, by simp⟩ ?_
  rintro k _ _ K hk ⟨rfl, rfl, hw⟩ hK
  refine cond_dec (fun hlt => ?_) (fun hge => ?_)
  · have hk' : k < ins.length := by have := hi.len; simp only at hlt; omega
    refine hi.ixn hk' fun a ⟨s, hs, hsi⟩ => ⟨s, hs, cond_dec (fun _ => Wk_self (hR false fun e => by cases e)) (fun g2 => Wk_self (hK _ _ hk' ⟨by rw [wnat hk' hi.bd], rfl, ?_⟩))⟩
    refine mem_take_succ hk' hw ?_
    have g2 : ¬ ((s.n : Nat) : Int) > 100 := g2
    rw [hsi.len] at g2
    omega
  · have : k = ins.length := by have := hi.len; simp only at hge; omega
    subst this
    rw [List.take_of_length_le (Nat.le_refl _)] at hw
    exact Wk_self (hR true fun _ => ⟨by rw [hi.len] at g; omega, hw⟩)
theorem c_okP {h : V} {p : ProgD} {sa sf : Sl} {R : Value → V → Prop} (ha : isArrs h sa p.arrays) (hf : isFuncs h sf p.funcs) (hR : ∀ b h', Le h h' → (b = true → FewOk p ∧ CheckOk p) → R (.bool b) h') : ACalls Try.prog 18 [.agg ⟨[sV sa, sV sf, iV p.main]⟩] h R := by
  refine S18_ok _ _ _ _ _ (New_box fun r1 h1 hr1 l1 b1 => ?_)
  have no : ∀ {hh}, Le h hh → Wk hh fun h' => R (.bool false) h' := fun l => Wk_self (hR false _ l fun e => by cases e)
  refine Cut_i (fun _ hh => h1 = hh ∧ FewOk p ∧ CheckOk p) (fun J hJ => ?_) ?_
  · refine ⟨(sa, sf, p.main, ()), b1.cells, c_Few (ha.le mono_arr l1) (hf.le mono_func l1) fun b hb => ⟨b, rfl, cond_not (fun _ => no l1) (fun hy => ?_)⟩⟩
    have few := hb hy
    exact ⟨(sa, sf, p.main, ()), b1.cells, c_Check (ha.le mono_arr l1) (hf.le mono_func l1) (few_B few) fun n _ hn => ⟨n, rfl, cond_nei (fun _ => no l1) (fun e => Wk_self (hJ _ _ ⟨rfl, few, hn.1 e⟩))⟩⟩
  · rintro _ _ ⟨rfl, few, ok⟩
    refine ⟨sa, b1.cell rfl, ?_⟩
    have ha1 := ha.le mono_arr l1
    refine Lp_count p.arrays.length (fun k st hh => st = ((k : Int), ()) ∧ Le h1 hh) ⟨rfl, Le.refl _⟩ ?_
    rintro k _ h3 K hk ⟨rfl, l3⟩ hK
    refine cond_dec (fun hlt => ?_) (fun hge => Wk_self (hR true _ (l1.trans l3) fun _ => ⟨few, ok⟩))
    have hk' : k < p.arrays.length := by have := ha.len; simp only at hlt; omega
    refine elem_arr ha1 l3 hk' rfl rfl fun r4 h5 l5 l5' hr4 b4 => ⟨_, b4.cell rfl, cond_dec (fun _ => no (l1.trans l5)) (fun _ => Wk_self (hK _ _ hk' ⟨by rw [wnat hk' ha.bd], l5⟩))⟩
theorem c_leaks {h : V} {s t : Sl} {l m : List LeakD} {R : Value → V → Prop} (hs : isLeaks h s l) (ht : isLeaks h t m) (hR : R (.bool (decide (l = m))) h) : ACalls Try.prog 21 [sV s, sV t] h R := by
  refine S21_ok _ _ _ _ (cond_nei (fun hne => Wk_self ?_) (fun he => ?_))
  · have hne : ((s.n : Nat) : Int) ≠ ((t.n : Nat) : Int) := hne
    rw [hs.len, ht.len] at hne
    have : l ≠ m := fun e => hne (by rw [e])
    rw [decide_eq_false this] at hR
    exact hR
  · have he : ((s.n : Nat) : Int) = ((t.n : Nat) : Int) := he
    rw [hs.len, ht.len] at he
    refine Lp_count l.length (fun k st hh => st = ((k : Int), ()) ∧ h = hh ∧ l.take k = m.take k) ⟨rfl, rfl, rfl⟩ ?_
    rintro k _ _ K hk ⟨rfl, rfl, hkm⟩ hK
    refine cond_dec (fun hlt => ?_) (fun hge => ?_)
    · have hk' : k < l.length := by have := hs.len; simp only at hlt; omega
      have hkm' : k < m.length := by omega
      refine hs.ixn hk' fun a ha => ⟨(l[k].kind, l[k].a, l[k].b, ()), ha, ht.ixn hkm' fun a' ha' => ⟨(m[k].kind, m[k].a, m[k].b, ()), ha', cond_not (fun e => Wk_self ?_) (fun e => ?_)⟩⟩
      · have : l ≠ m := fun e' => by
          subst e'
          simp at e
        rw [decide_eq_false this] at hR
        exact hR
      · refine Wk_self (hK _ _ hk' ⟨by rw [wnat hk' hs.bd], rfl, ?_⟩)
        have e1 : l[k] = m[k] := by
          simp only [Bool.and_eq_true, beq_iff_eq, and_true] at e
          cases h1 : l[k] with
          | mk a b c =>
            cases h2 : m[k] with
            | mk a' b' c' =>
              rw [h1, h2] at e
              obtain ⟨e1, e2, e3⟩ := e
              simp only at e1 e2 e3
              rw [e1, e2, e3]
        rw [List.take_succ_eq_append_getElem hk', List.take_succ_eq_append_getElem hkm', hkm, e1]
    · have : k = l.length := by have := hs.len; simp only at hge; omega
      subst this
      rw [List.take_of_length_le (Nat.le_refl _), List.take_of_length_le (by omega)] at hkm
      rw [decide_eq_true hkm] at hR
      exact Wk_self hR
end Go.Proofs.Ytapdnglpchejlaa

/- Plain: fuel. And runs with their result's variable. -/
namespace Go.Proofs.Ytapdnglpchejlaa
open Go Go.VL

section
variable {p : ProgD} {S S' : MS} {rest : List FrD} {f : FrD}
theorem enter_steps {fn dst : Int} {args : List Int} (h : enterS p S fn args dst = some S') : S'.steps = S.steps ∧ S'.fin = S.fin := by
  unfold enterS at h
  split at h
  · cases h
  · cases h; exact ⟨rfl, rfl⟩
theorem ite_st {c : Prop} [Decidable c] {A B : MS} {x : Int} (ha : A.steps = x) (hb : B.steps = x) : (if c then A else B).steps = x := by by_cases h : c <;> simp only [h, if_true, if_false] <;> assumption
theorem do_steps {i : InsD} (h : doS p S rest f i = some S') : S'.steps = S.steps := by
  unfold doS at h
  by_cases e : i.op = 1
  · rw [if_pos e] at h; cases h; rfl
  rw [if_neg e] at h
  by_cases e2 : i.op = 2
  · rw [if_pos e2] at h; cases h
    refine ite_st ?_ ?_
    · show (if _ then _ else _ : MS).steps = _
      exact ite_st rfl rfl
    · show (if _ then _ else _ : MS).steps = _
      exact ite_st rfl rfl
  rw [if_neg e2] at h
  by_cases e3 : i.op = 3
  · rw [if_pos e3] at h; cases h; rfl
  rw [if_neg e3] at h
  by_cases e4 : i.op = 4
  · rw [if_pos e4] at h; cases h; rfl
  rw [if_neg e4] at h
  by_cases e5 : i.op = 5
  · rw [if_pos e5] at h; cases h; exact ite_st rfl rfl
  rw [if_neg e5] at h
  by_cases e6 : i.op = 6
  · rw [if_pos e6] at h; cases h; exact ite_st rfl rfl
  rw [if_neg e6] at h
  by_cases e7 : i.op = 7
  · rw [if_pos e7] at h; exact (enter_steps h).1
  rw [if_neg e7] at h; cases h; rfl
theorem finish_steps {e : EndD} : (finishS p S rest f e).steps = S.steps := by
  unfold finishS
  refine ite_st (ite_st rfl rfl) (ite_st rfl (ite_st rfl rfl))
theorem step_steps (h : stepS p S rest f = some S') : S'.steps = S.steps := by
  unfold stepS at h
  simp only at h
  split at h
  · cases h; exact finish_steps
  · have := do_steps (S := { S with fs := rest ++ [{ f with pos := f.pos + 1 }] }) h
    exact this
theorem runS_split : ∀ (n : Nat) (S S' : MS), runS p n S = some S' → S.steps ≤ S'.steps ∧ S'.steps - S.steps ≤ n ∧ S'.fin = true ∧ (∀ m : Nat, S'.steps - S.steps ≤ (m : Int) → runS p m S = some S') ∧ (∀ m : Nat, (m : Int) < S'.steps - S.steps → runS p m S = none)
  | 0, S, S', h => by
    unfold runS at h
    split at h
    · rename_i hf
      cases h
      exact ⟨Int.le_refl _, by omega, hf, fun m _ => runS_fin hf m, fun m hm => by omega⟩
    · cases h
  | n + 1, S, S', h => by
    by_cases hf : S.fin = true
    · rw [runS_fin hf] at h
      cases h
      exact ⟨Int.le_refl _, by omega, hf, fun m _ => runS_fin hf m, fun m hm => by omega⟩
    · have hf' : S.fin = false := by simpa using hf
      cases ht : topOf S.fs with
      | none =>
        unfold runS at h
        rw [if_neg hf, ht] at h
        cases h
      | some rf =>
        obtain ⟨rest, f⟩ := rf
        have hS := topOf_some.1 ht
        rw [runS_succ hf' hS] at h
        cases hs : stepS p { S with steps := S.steps + 1 } rest f with
        | none => rw [hs] at h; cases h
        | some S1 =>
          rw [hs] at h
          have h : runS p n S1 = some S' := h
          have e : S1.steps = S.steps + 1 := step_steps hs
          obtain ⟨a1, a2, a3, a4, a5⟩ := runS_split n S1 S' h
          refine ⟨by omega, by omega, a3, fun m hm => ?_, fun m hm => ?_⟩
          · obtain ⟨k, rfl⟩ : ∃ k, m = k + 1 := ⟨m - 1, by omega⟩
            rw [runS_succ hf' hS, hs]
            exact a4 k (by omega)
          · cases m with
            | zero => exact runS_zero hf'
            | succ k =>
              rw [runS_succ hf' hS, hs]
              exact a5 k (by omega)
theorem runP_split {ins : List (List Int)} {fuel : Int} (h : runP p ins fuel = some S') (h0 : 0 ≤ fuel) : 1 ≤ S'.steps ∧ S'.steps ≤ fuel ∧ (∀ g : Int, S'.steps ≤ g → runP p ins g = some S') ∧ (∀ g : Int, g < S'.steps → runP p ins g = none) := by
  unfold runP at *
  cases he : enterS p (startS p (startM p.arrays ins)) p.main [] 0 with
  | none => rw [he] at h; cases h
  | some S1 =>
    rw [he] at h
    have h : runS p fuel.toNat S1 = some S' := h
    obtain ⟨e1, e2⟩ := enter_steps he
    have e1 : S1.steps = 0 := e1
    have e2 : S1.fin = false := e2
    obtain ⟨a1, a2, a3, a4, a5⟩ := runS_split _ _ _ h
    have hpos : 1 ≤ S'.steps := by
      apply Classical.byContradiction
      intro hn
      have := a4 0 (by omega)
      rw [runS_zero e2] at this; cases this
    refine ⟨hpos, by omega, fun g hg => ?_, fun g hg => ?_⟩
    · exact a4 g.toNat (by omega)
    · by_cases g0 : 0 ≤ g
      · exact a5 g.toNat (by omega)
      · have : g.toNat = 0 := by omega
        show runS p g.toNat S1 = none
        rw [this]; exact runS_zero e2
end
theorem and_bd (x : Int) (m : Nat) (hm : m < 4611686018427387904) : 0 ≤ bits .and .i64 x m ∧ bits .and .i64 x m ≤ m := by
  unfold bits
  simp only
  have h1 : ((BitVec.ofInt 64 x &&& BitVec.ofInt 64 (m : Int)).toNat : Int) ≤ m := by
    rw [BitVec.toNat_and]
    have h2 : (BitVec.ofInt 64 (m : Int)).toNat = m := by
      rw [BitVec.toNat_ofInt]
      omega
    rw [h2]
    exact Int.ofNat_le.2 Nat.and_le_right
  show 0 ≤ IntKind.wrap .i64 (((BitVec.ofInt 64 x &&& BitVec.ofInt 64 (m : Int)).toNat : Nat) : Int) ∧ IntKind.wrap .i64 (((BitVec.ofInt 64 x &&& BitVec.ofInt 64 (m : Int)).toNat : Nat) : Int) ≤ _
  rw [w64 (by have : (0 : Int) ≤ ((BitVec.ofInt 64 x &&& BitVec.ofInt 64 (m : Int)).toNat : Int) := Int.natCast_nonneg _; exact Int.le_trans (by decide) this) (Int.le_trans h1 (by omega))]
  exact ⟨Int.natCast_nonneg _, h1⟩
/- a run, and the variable that has its result -/
structure ResD where
  val : Int
  trap : Int
  lk : Sl
  steps : Int
  deep : Int
  ms : Sl
def ResD.cells (x : ResD) : List Value := [iV x.val, iV x.trap, sV x.lk, iV x.steps, iV x.deep, sV x.ms]
def RunRes (p : ProgD) (ins : List (List Int)) (fuel : Int) (h : V) (x : ResD) (e : Int) : Prop :=
  (¬ CheckOk p ∧ e = 40 ∧ x = ⟨0, 0, ⟨none, 0, 0⟩, 0, 0, ⟨none, 0, 0⟩⟩) ∨ (CheckOk p ∧ runP p ins fuel = none ∧ e = 41 ∧ x = ⟨0, 0, ⟨none, 0, 0⟩, 0, 0, ⟨none, 0, 0⟩⟩) ∨
    (CheckOk p ∧ ∃ S, runP p ins fuel = some S ∧ e = 0 ∧ x.val = S.val ∧ x.trap = S.trap ∧ x.steps = S.steps ∧ x.deep = S.deep ∧ isLeaks h x.lk S.leaks ∧ isRows h x.ms S.mem)
theorem RunRes.le {p : ProgD} {ins : List (List Int)} {fuel : Int} {h h' : V} {x : ResD} {e : Int} (r : RunRes p ins fuel h x e) (l : Le h h') : RunRes p ins fuel h' x e :=
  r.imp id fun r => r.imp id fun ⟨ok, S, a, b, c, d, e, f, g, i⟩ => ⟨ok, S, a, b, c, d, e, f, g.le mono_enc l, i.le mono_row l⟩
theorem c_RunB {h : V} {p : ProgD} {sa sf si : Sl} {ins : List (List Int)} {fuel : Int} {K : ((Int × Int × Sl × Int × Int × Sl × Unit) × Int × Unit) → Nat → V → Prop} (ha : isArrs h sa p.arrays) (hf : isFuncs h sf p.funcs) (hi : isRows h si ins) (few : FewOk p) (nums : NumsOk p) (hI : ∀ w ∈ ins, ∀ x ∈ w, I64 x) (hni : ins.length ≤ 1048576) (hfuel : fuel ≤ 2097152)
    (hK : ∀ x e r h', Le h h' → Box h' r (ResD.cells x) 33 → RunRes p ins fuel h' x e → K ((x.val, x.trap, x.lk, x.steps, x.deep, x.ms, ()), e, ()) r h') :
    CallK Try.prog 16 [.agg ⟨[sV sa, sV sf, iV p.main]⟩, sV si, iV fuel] h (.tup [.agg [.int .i64, .int .i64, .sl, .int .i64, .int .i64, .sl], .one (.int .i64)]) fun x h5 =>
      New h5 (.cells ⟨zeroRes⟩ 33) fun r9 h6 => StL h6 ⟨r9, 0, none⟩ 0 [iV x.1.1, iV x.1.2.1, sV x.1.2.2.1, iV x.1.2.2.2.1, iV x.1.2.2.2.2.1, sV x.1.2.2.2.2.2.1] fun h7 => K x r9 h7 := by
  have fin : ∀ (x : ResD) e h5, Le h h5 → RunRes p ins fuel h5 x e → ∃ y, (Value.tuple ⟨[.agg ⟨ResD.cells x⟩, iV e]⟩) = Rs.mk (.tup [.agg [.int .i64, .int .i64, .sl, .int .i64, .int .i64, .sl], .one (.int .i64)]) y ∧
      New h5 (.cells ⟨zeroRes⟩ 33) fun r9 h6 => StL h6 ⟨r9, 0, none⟩ 0 [iV y.1.1, iV y.1.2.1, sV y.1.2.2.1, iV y.1.2.2.2.1, iV y.1.2.2.2.2.1, sV y.1.2.2.2.2.2.1] fun h7 => K y r9 h7 := fun x e h5 l5 r5 =>
    ⟨((x.val, x.trap, x.lk, x.steps, x.deep, x.ms, ()), e, ()), rfl, New_box fun r h6 hr l6 b6 => StL_box (h := h5) b6 rfl l6 hr fun h7 l7 b7 _ => hK x e r h7 (l5.trans l7) b7 (r5.le l7)⟩
  refine c_Run ha hf hi few nums hI hni hfuel (fun hn h' l' => ?_) (fun ok e h' l' => ?_) (fun ok S h' lk ms e l' hlk hms => ?_)
  · exact fin ⟨0, 0, ⟨none, 0, 0⟩, 0, 0, ⟨none, 0, 0⟩⟩ 40 h' l' (.inl ⟨hn, rfl, rfl⟩)
  · exact fin ⟨0, 0, ⟨none, 0, 0⟩, 0, 0, ⟨none, 0, 0⟩⟩ 41 h' l' (.inr (.inl ⟨ok, e, rfl, rfl⟩))
  · exact fin ⟨S.val, S.trap, lk, S.steps, S.deep, ms⟩ 0 h' l' (.inr (.inr ⟨ok, S, e, rfl, rfl, rfl, rfl, rfl, hlk, hms⟩))
end Go.Proofs.Ytapdnglpchejlaa

/- What a row reads of a program whose numbers are in range, and of inputs. -/
namespace Go.Proofs.Ytapdnglpchejlaa
open Go Go.VL

theorem isSl_split {α : Type} {rep : V → Addr → α → Prop} {Q : α → Prop} {sz : Nat} {h : V} {s : Sl} {xs : List α} (hs : isSl (fun h a x => rep h a x ∧ Q x) sz h s xs) : isSl rep sz h s xs ∧ ∀ x ∈ xs, Q x := by
  obtain ⟨h1, h2, h3, h4⟩ := hs
  refine ⟨⟨h1, h2, h3, fun k hk => let ⟨a, ha, hr⟩ := h4 k hk; ⟨a, ha, hr.1⟩⟩, fun x hx => ?_⟩
  obtain ⟨k, hk, rfl⟩ := List.getElem_of_mem hx
  obtain ⟨a, ha, hr⟩ := h4 k hk
  exact hr.2
section
variable {H : Type} {enc : TypeId × Value → H} {w : World} {base : Nat} {spare : Nat → Bool} {held : Bool}
theorem wf_I64 {n : Int} (h : (Lit.int .i64 n).wf = true) : I64 n := by
  unfold Lit.wf at h
  rw [Bool.and_eq_true, decide_eq_true_eq, decide_eq_true_eq] at h
  have e1 : IntKind.min .i64 = -9223372036854775808 := by decide
  have e2 : IntKind.max .i64 = 9223372036854775807 := by decide
  rw [e1, e2] at h
  exact h
theorem rd_num {t : TypeId} {v : Value} (ht : Try.prog.underlying t = some (.int .i64)) (h : RdT enc w base spare held t [v]) : ∃ n, v = .int .i64 n ∧ I64 n := by
  obtain ⟨n, e, hw⟩ := rd_int ht h
  exact ⟨n, by cases e; rfl, wf_I64 hw⟩
theorem u45 : Try.prog.underlying 45 = some (.slice 2) := by kernel_rfl
theorem u26r : Try.prog.underlying 26 = some (.slice 45) := by kernel_rfl
theorem rd_words {cs : List Value} (h : RdT enc w base spare held 45 cs) : ∃ (s : Sl) (xs : List Int), cs = [sV s] ∧ isInts (V.of w) s xs ∧ ∀ x ∈ xs, I64 x := by
  obtain ⟨s, xs, e, hs⟩ := rd_slice (rep := fun h a x => repInt h a x ∧ I64 x) u45 (by kernel_rfl) (fun a cs' hat hl hr => by
    obtain ⟨n, rfl, hw⟩ := rd_int u2 hr
    exact ⟨n, by have := (rd_at hat hl).1; rwa [Addr.add_z] at this, wf_I64 hw⟩) h
  obtain ⟨h1, h2⟩ := isSl_split hs
  exact ⟨s, xs, e, h1, h2⟩
theorem rd_rows {cs : List Value} (h : RdT enc w base spare held 26 cs) : ∃ (s : Sl) (xs : List (List Int)), cs = [sV s] ∧ isRows (V.of w) s xs ∧ ∀ x ∈ xs, ∀ y ∈ x, I64 y := by
  obtain ⟨s, xs, e, hs⟩ := rd_slice (sz := 1) (rep := fun h a x => repRow h a x ∧ ∀ y ∈ x, I64 y) u26r (by kernel_rfl) (fun a cs' hat hl hr => by
    have hc := rd_at hat hl
    match cs', hl with
    | [x], _ =>
      obtain ⟨s, xs, e, hs, hx⟩ := rd_words hr
      cases e
      exact ⟨xs, ⟨s, by have := hc.1; rwa [Addr.add_z] at this, hs⟩, hx⟩) h
  obtain ⟨h1, h2⟩ := isSl_split hs
  exact ⟨s, xs, e, h1, h2⟩
theorem rd_inssN {cs : List Value} (h : RdT enc w base spare held 52 cs) : ∃ (s : Sl) (xs : List InsD), cs = [sV s] ∧ isSl (fun h a x => repIns h a x ∧ I64 x.num) 7 (V.of w) s xs :=
  rd_slice u48 (by kernel_rfl) (fun a cs' hat hl hr => by
    have f0 := rd_fieldT (j := 0) (o := 0) u60 (by kernel_rfl) (by kernel_rfl : Try.prog.cellsOf 47 = 1) hr
    have f1 := rd_fieldT (j := 1) (o := 1) u60 (by kernel_rfl) (by kernel_rfl : Try.prog.cellsOf 3 = 1) hr
    have f2 := rd_fieldT (j := 2) (o := 2) u60 (by kernel_rfl) (by kernel_rfl : Try.prog.cellsOf 48 = 1) hr
    have f3 := rd_fieldT (j := 3) (o := 3) u60 (by kernel_rfl) (by kernel_rfl : Try.prog.cellsOf 2 = 1) hr
    have f4 := rd_fieldT (j := 4) (o := 4) u60 (by kernel_rfl) (by kernel_rfl : Try.prog.cellsOf 49 = 1) hr
    have f5 := rd_fieldT (j := 5) (o := 5) u60 (by kernel_rfl) (by kernel_rfl : Try.prog.cellsOf 3 = 1) hr
    have f6 := rd_fieldT (j := 6) (o := 6) u60 (by kernel_rfl) (by kernel_rfl : Try.prog.cellsOf 3 = 1) hr
    have hc := rd_at hat hl
    match cs', hl with
    | [x0, x1, x2, x3, x4, x5, x6], _ =>
      obtain ⟨n0, rfl⟩ := rd_one u57 f0
      obtain ⟨n1, rfl⟩ := rd_one u3 f1
      obtain ⟨s, xs, e, hs⟩ := rd_ints f2
      obtain ⟨n3, rfl, w3⟩ := rd_num u2 f3
      obtain ⟨n4, rfl⟩ := rd_one u58 f4
      obtain ⟨n5, rfl⟩ := rd_one u3 f5
      obtain ⟨n6, rfl⟩ := rd_one u3 f6
      cases e
      exact ⟨⟨n0, n1, xs, n3, n4, n5, n6⟩, ⟨s, hs, hc⟩, w3⟩) h
theorem rd_blocksN {cs : List Value} (h : RdT enc w base spare held 61 cs) : ∃ (s : Sl) (xs : List BlockD), cs = [sV s] ∧ isSl (fun h a (x : BlockD) => repBlock h a x ∧ ∀ i ∈ x.ins, I64 i.num) 6 (V.of w) s xs :=
  rd_slice u44 (by kernel_rfl) (fun a cs' hat hl hr => by
    have f0 := rd_fieldT (j := 0) (o := 0) u55 (by kernel_rfl) (by kernel_rfl : Try.prog.cellsOf 48 = 1) hr
    have f1 := rd_fieldT (j := 1) (o := 1) u55 (by kernel_rfl) (by kernel_rfl : Try.prog.cellsOf 52 = 1) hr
    have f2 := rd_fieldT (j := 2) (o := 2) u55 (by kernel_rfl) (by kernel_rfl : Try.prog.cellsOf 58 = 4) hr
    have hc := rd_at hat hl
    match cs', hl with
    | [x0, x1, x2, x3, x4, x5], _ =>
      obtain ⟨s0, ps, e0, hs0⟩ := rd_ints f0
      obtain ⟨s1, is, e1, hs1⟩ := rd_inssN f1
      have g0 := rd_fieldT (j := 0) (o := 0) u53 (by kernel_rfl) (by kernel_rfl : Try.prog.cellsOf 53 = 1) f2
      have g1 := rd_fieldT (j := 1) (o := 1) u53 (by kernel_rfl) (by kernel_rfl : Try.prog.cellsOf 3 = 1) f2
      have g2 := rd_fieldT (j := 2) (o := 2) u53 (by kernel_rfl) (by kernel_rfl : Try.prog.cellsOf 56 = 1) f2
      have g3 := rd_fieldT (j := 3) (o := 3) u53 (by kernel_rfl) (by kernel_rfl : Try.prog.cellsOf 30 = 1) f2
      obtain ⟨n0, rfl⟩ := rd_one u49 g0
      obtain ⟨n1, rfl⟩ := rd_one u3 g1
      obtain ⟨s2, ws, e2, hs2⟩ := rd_edges g2
      obtain ⟨n3, rfl⟩ := rd_one u51 g3
      cases e0
      cases e1
      cases e2
      obtain ⟨hs1, hp1⟩ := isSl_split hs1
      exact ⟨⟨ps, is, ⟨n0, n1, ws, n3⟩⟩, ⟨s0, s1, s2, hs0, hs1, hs2, hc⟩, hp1⟩) h
theorem rd_funcsN {cs : List Value} (h : RdT enc w base spare held 23 cs) : ∃ (s : Sl) (xs : List FuncD), cs = [sV s] ∧ isSl (fun h a (x : FuncD) => repFunc h a x ∧ ∀ b ∈ x.blocks, ∀ i ∈ b.ins, I64 i.num) 2 (V.of w) s xs :=
  rd_slice u23 (by kernel_rfl) (fun a cs' hat hl hr => by
    have f0 := rd_fieldT (j := 0) (o := 0) u46 (by kernel_rfl) (by kernel_rfl : Try.prog.cellsOf 9 = 1) hr
    have f1 := rd_fieldT (j := 1) (o := 1) u46 (by kernel_rfl) (by kernel_rfl : Try.prog.cellsOf 61 = 1) hr
    have hc := rd_at hat hl
    match cs', hl with
    | [x, y], _ =>
      obtain ⟨n, e0⟩ := rd_string u9 f0
      obtain ⟨s, xs, e, hs⟩ := rd_blocksN f1
      cases e0
      cases e
      obtain ⟨hs, hp⟩ := isSl_split hs
      exact ⟨⟨n, xs⟩, ⟨s, hs, hc⟩, hp⟩) h
theorem rd_progN {cs : List Value} (h : RdT enc w base spare held 25 cs) : ∃ (sa sf : Sl) (p : ProgD), cs = [sV sa, sV sf, iV p.main] ∧ isArrs (V.of w) sa p.arrays ∧ isFuncs (V.of w) sf p.funcs ∧ NumsOk p := by
  have f0 := rd_fieldT (j := 0) (o := 0) u25 (by kernel_rfl) (by kernel_rfl : Try.prog.cellsOf 22 = 1) h
  have f1 := rd_fieldT (j := 1) (o := 1) u25 (by kernel_rfl) (by kernel_rfl : Try.prog.cellsOf 23 = 1) h
  have f2 := rd_fieldT (j := 2) (o := 2) u25 (by kernel_rfl) (by kernel_rfl : Try.prog.cellsOf 3 = 1) h
  have hl := len_T u25 (by kernel_rfl : Try.prog.cellsOf 25 = 3) h
  match cs, hl with
  | [x, y, z], _ =>
    obtain ⟨sa, as_, e0, ha⟩ := rd_arrs f0
    obtain ⟨sf, fs, e1, hf⟩ := rd_funcsN f1
    obtain ⟨n, rfl⟩ := rd_one u3 f2
    cases e0
    cases e1
    obtain ⟨hf, hp⟩ := isSl_split hf
    exact ⟨sa, sf, ⟨as_, fs, n⟩, rfl, ha, hf, hp⟩
end
end Go.Proofs.Ytapdnglpchejlaa

/- Plain: the loop that swaps. -/
namespace Go.Proofs.Ytapdnglpchejlaa
open Go Go.VL

def swB0 (a b n : Int) : BlockD := ⟨[], [⟨1, 1, [], a, 0, 0, 0⟩, ⟨1, 2, [], b, 0, 0, 0⟩, ⟨1, 3, [], n, 0, 0, 0⟩, ⟨1, 4, [], 1, 0, 0, 0⟩], ⟨1, 0, [⟨1, [1, 2, 3]⟩], 0⟩⟩
def swB1 : BlockD := ⟨[5, 6, 7], [], ⟨2, 7, [⟨2, []⟩, ⟨3, []⟩], 0⟩⟩
def swB2 : BlockD := ⟨[], [⟨2, 8, [7, 4], 0, 2, 0, 0⟩], ⟨1, 0, [⟨1, [6, 5, 8]⟩], 0⟩⟩
def swB3 : BlockD := ⟨[], [], ⟨3, 5, [], 0⟩⟩
def swP (a b n : Int) : ProgD := ⟨[], [⟨⟨#[]⟩, [swB0 a b n, swB1, swB2, swB3]⟩], 0⟩
theorem swOk (a b n : Int) : CheckOk (swP a b n) := chk_of (by kernel_rfl)
theorem swFew (a b n : Int) : FewOk (swP a b n) := few_of (by kernel_rfl)
theorem swNums {a b n : Int} (ha : I64 a) (hb : I64 b) (hn : I64 n) : NumsOk (swP a b n) := fun f hf b' hb' i hi => by
  rw [List.mem_singleton.1 hf] at hb'
  have hb' : b' ∈ [swB0 a b n, swB1, swB2, swB3] := hb'
  simp only [List.mem_cons, List.not_mem_nil, or_false] at hb'
  rcases hb' with e | e | e | e
  · subst e
    simp [swB0] at hi
    rcases hi with e | e | e | e <;> subst e
    · exact ha
    · exact hb
    · exact hn
    · exact ⟨by decide, by decide⟩
  · subst e; simp [swB1] at hi
  · subst e
    simp [swB2] at hi
    subst hi
    exact I64_zero
  · subst e; simp [swB3] at hi
section
variable {a b n : Int}
theorem sw_branch (S : MS) (v : Int → Int) : stepS (swP a b n) S [] ⟨0, 1, 0, v, 0⟩ = some (wayS (swP a b n) (leakS S 1 (b2i (v 7 != 0)) 0) [] ⟨0, 1, 0, v, 0⟩ ([⟨2, []⟩, ⟨3, []⟩].getD (1 - b2i (v 7 != 0)).toNat noE)) := rfl
theorem sw_sub (S : MS) (v : Int → Int) : stepS (swP a b n) S [] ⟨0, 2, 0, v, 0⟩ = some { S with fs := [⟨0, 2, 1, setV v 8 (IntKind.wrap .i64 (v 7 - v 4)), 0⟩] } := rfl
theorem sw_back (S : MS) (v : Int → Int) : stepS (swP a b n) S [] ⟨0, 2, 1, v, 0⟩ = some { S with fs := [⟨0, 1, 0, setV (setV (setV v 5 (v 6)) 6 (v 5)) 7 (v 8), 0⟩] } := rfl
theorem sw_ret (S : MS) (v : Int → Int) : stepS (swP a b n) S [] ⟨0, 3, 0, v, 0⟩ = some { S with fs := [], val := v 5, fin := true } := rfl
theorem run1 {p : ProgD} {S : MS} {f : FrD} {S' : MS} (k : Nat) (hf : S.fin = false) (hS : S.fs = [f]) (h : stepS p { S with steps := S.steps + 1 } [] f = some S') : runS p (k + 1) S = runS p k S' := by
  rw [runS_succ (rest := []) hf hS, h]; rfl
theorem sw_loop : ∀ (m : Nat) (x y : Int) (v : Int → Int) (S : MS), m ≤ 63 → S.fin = false → S.fs = [⟨0, 1, 0, v, 0⟩] → v 4 = 1 → v 5 = x → v 6 = y → v 7 = (m : Int) →
    ∃ S', runS (swP a b n) (3 * m + 2) S = some S' ∧ S'.val = (if m % 2 = 1 then y else x) ∧ S'.steps = S.steps + 3 * m + 2 ∧ S'.leaks.length = S.leaks.length + m + 1
  | 0, x, y, v, S, _, hf, hS, h4, h5, h6, h7 => by
    have h7 : v 7 = 0 := h7
    have e1 := run1 (p := swP a b n) 1 hf hS (sw_branch { S with steps := S.steps + 1 } v)
    rw [h7] at e1
    have e2 := run1 (p := swP a b n) (S := wayS (swP a b n) (leakS { S with steps := S.steps + 1 } 1 (b2i ((0 : Int) != 0)) 0) [] ⟨0, 1, 0, v, 0⟩ ([⟨2, []⟩, ⟨3, []⟩].getD (1 - b2i ((0 : Int) != 0)).toNat noE)) (f := ⟨0, 3, 0, v, 0⟩) 0 hf rfl (sw_ret _ v)
    rw [e2] at e1
    refine ⟨_, e1.trans (runS_fin rfl 0), ?_, ?_, ?_⟩
    · show v 5 = _
      rw [h5]; rfl
    · show S.steps + 1 + 1 = _
      omega
    · show (S.leaks ++ [_]).length = _
      simp
  | m + 1, x, y, v, S, hm, hf, hS, h4, h5, h6, h7 => by
    have hne : (v 7 != 0) = true := by rw [h7]; simp; omega
    have e1 := run1 (p := swP a b n) (3 * m + 4) hf hS (sw_branch { S with steps := S.steps + 1 } v)
    rw [hne] at e1
    have e2 := run1 (p := swP a b n) (S := wayS (swP a b n) (leakS { S with steps := S.steps + 1 } 1 (b2i true) 0) [] ⟨0, 1, 0, v, 0⟩ ([⟨2, []⟩, ⟨3, []⟩].getD (1 - b2i true).toNat noE)) (f := ⟨0, 2, 0, v, 0⟩) (3 * m + 3) hf rfl (sw_sub _ v)
    have hw : IntKind.wrap .i64 (v 7 - v 4) = (m : Int) := by rw [h7, h4, w64 (by omega) (by omega)]; omega
    rw [hw] at e2
    rw [e2] at e1
    have e3 := run1 (p := swP a b n) (S := { (wayS (swP a b n) (leakS { S with steps := S.steps + 1 } 1 (b2i true) 0) [] ⟨0, 1, 0, v, 0⟩ ([⟨2, []⟩, ⟨3, []⟩].getD (1 - b2i true).toNat noE)) with steps := S.steps + 1 + 1, fs := [⟨0, 2, 1, setV v 8 (m : Int), 0⟩] }) (f := ⟨0, 2, 1, setV v 8 (m : Int), 0⟩) (3 * m + 2) hf rfl (sw_back _ (setV v 8 (m : Int)))
    obtain ⟨S', r1, r2, r3, r4⟩ := sw_loop m y x _ { (wayS (swP a b n) (leakS { S with steps := S.steps + 1 } 1 (b2i true) 0) [] ⟨0, 1, 0, v, 0⟩ ([⟨2, []⟩, ⟨3, []⟩].getD (1 - b2i true).toNat noE)) with steps := S.steps + 1 + 1 + 1, fs := [⟨0, 1, 0, setV (setV (setV (setV v 8 (m : Int)) 5 (setV v 8 (m : Int) 6)) 6 (setV v 8 (m : Int) 5)) 7 (setV v 8 (m : Int) 8), 0⟩] } (by omega) hf rfl h4 h6 h5 rfl
    refine ⟨S', ?_, ?_, ?_, ?_⟩
    · rw [show 3 * (m + 1) + 2 = 3 * m + 4 + 1 by omega]
      exact e1.trans (e3.trans r1)
    · rw [r2]
      by_cases hp : m % 2 = 1
      · rw [if_pos hp, if_neg (by omega)]
      · rw [if_neg hp, if_pos (by omega)]
    · rw [r3]
      show S.steps + 1 + 1 + 1 + 3 * (m : Int) + 2 = _
      omega
    · rw [r4]
      show (S.leaks ++ [_]).length + m + 1 = _
      simp; omega
def swV (a b m : Int) : Int → Int := setV (setV (setV (setV (setV (setV (setV (fun _ => 0) 1 a) 2 b) 3 m) 4 1) 5 a) 6 b) 7 m
theorem swV4 (a b m : Int) : swV a b m 4 = 1 := by simp [swV, setV]
theorem swV5 (a b m : Int) : swV a b m 5 = a := by simp [swV, setV]
theorem swV6 (a b m : Int) : swV a b m 6 = b := by simp [swV, setV]
theorem swV7 (a b m : Int) : swV a b m 7 = m := by simp [swV, setV]
def swS (a b m : Int) : MS := ⟨[⟨0, 1, 0, swV a b m, 0⟩], 0, 0, [], 5, 1, [], false⟩
theorem sw_begin (a b m : Int) : runP (swP a b m) [] 1000 = runS (swP a b m) 995 (swS a b m) := by kernel_rfl
theorem sw_run {m : Nat} (hm : m ≤ 63) : ∃ S', runP (swP a b m) [] 1000 = some S' ∧ S'.val = (if m % 2 = 1 then b else a) ∧ S'.steps = 5 + 3 * m + 2 ∧ S'.leaks.length = m + 1 := by
  obtain ⟨S', r1, r2, r3, r4⟩ := sw_loop (a := a) (b := b) (n := m) m a b (swV a b m) (swS a b m) hm rfl rfl (swV4 _ _ _) (swV5 _ _ _) (swV6 _ _ _) (swV7 _ _ _)
  obtain ⟨_, _, _, s4, _⟩ := runS_split _ _ _ r1
  have e5 : (swS a b m).steps = 5 := rfl
  have e0 : (swS a b m).leaks = [] := rfl
  refine ⟨S', ?_, r2, by rw [r3, e5], ?_⟩
  · rw [sw_begin]
    refine s4 995 ?_
    rw [r3, e5]
    omega
  · rw [r4, e0]
    simp
end
end Go.Proofs.Ytapdnglpchejlaa

/- Plain: the function that calls itself. -/
namespace Go.Proofs.Ytapdnglpchejlaa
open Go Go.VL

def dpB0 : BlockD := ⟨[1], [], ⟨2, 1, [⟨1, []⟩, ⟨2, []⟩], 0⟩⟩
def dpB1 : BlockD := ⟨[], [⟨1, 2, [], 1, 0, 0, 0⟩, ⟨2, 3, [1, 2], 0, 2, 0, 0⟩, ⟨7, 4, [3], 0, 0, 0, 0⟩, ⟨2, 5, [4, 2], 0, 1, 0, 0⟩], ⟨3, 5, [], 0⟩⟩
def dpB2 : BlockD := ⟨[], [], ⟨3, 1, [], 0⟩⟩
def dpM (n : Int) : BlockD := ⟨[], [⟨1, 1, [], n, 0, 0, 0⟩, ⟨7, 2, [1], 0, 0, 0, 0⟩], ⟨3, 2, [], 0⟩⟩
def dpP (n : Int) : ProgD := ⟨[], [⟨⟨#[]⟩, [dpB0, dpB1, dpB2]⟩, ⟨⟨#[]⟩, [dpM n]⟩], 1⟩
theorem dpOk (n : Int) : CheckOk (dpP n) := chk_of (by kernel_rfl)
theorem dpFew (n : Int) : FewOk (dpP n) := few_of (by kernel_rfl)
theorem dpNums {n : Int} (hn : I64 n) : NumsOk (dpP n) := fun f hf b' hb' i hi => by
  have hf : f ∈ [(⟨⟨#[]⟩, [dpB0, dpB1, dpB2]⟩ : FuncD), ⟨⟨#[]⟩, [dpM n]⟩] := hf
  simp only [List.mem_cons, List.not_mem_nil, or_false] at hf
  rcases hf with e | e
  · subst e
    have hb' : b' ∈ [dpB0, dpB1, dpB2] := hb'
    simp only [List.mem_cons, List.not_mem_nil, or_false] at hb'
    rcases hb' with e | e | e
    · subst e; simp [dpB0] at hi
    · subst e
      simp [dpB1] at hi
      rcases hi with e | e | e | e <;> subst e <;> exact ⟨by decide, by decide⟩
    · subst e; simp [dpB2] at hi
  · subst e
    rw [List.mem_singleton.1 hb'] at hi
    simp [dpM] at hi
    rcases hi with e | e <;> subst e
    · exact hn
    · exact ⟨by decide, by decide⟩
section
variable {n : Int}
theorem dp_branch (S : MS) (rest : List FrD) (v : Int → Int) (d : Int) : stepS (dpP n) S rest ⟨0, 0, 0, v, d⟩ = some (wayS (dpP n) (leakS S 1 (b2i (v 1 != 0)) 0) rest ⟨0, 0, 0, v, d⟩ ([⟨1, []⟩, ⟨2, []⟩].getD (1 - b2i (v 1 != 0)).toNat noE)) := rfl
theorem dp_const (S : MS) (rest : List FrD) (v : Int → Int) (d : Int) : stepS (dpP n) S rest ⟨0, 1, 0, v, d⟩ = some { S with fs := rest ++ [⟨0, 1, 1, setV v 2 1, d⟩] } := rfl
theorem dp_sub (S : MS) (rest : List FrD) (v : Int → Int) (d : Int) : stepS (dpP n) S rest ⟨0, 1, 1, v, d⟩ = some { S with fs := rest ++ [⟨0, 1, 2, setV v 3 (IntKind.wrap .i64 (v 1 - v 2)), d⟩] } := rfl
theorem dp_call (S : MS) (rest : List FrD) (v : Int → Int) (d : Int) : stepS (dpP n) S rest ⟨0, 1, 2, v, d⟩ = enterS (dpP n) { S with fs := rest ++ [⟨0, 1, 3, v, d⟩] } 0 [v 3] 4 := rfl
theorem dp_add (S : MS) (rest : List FrD) (v : Int → Int) (d : Int) : stepS (dpP n) S rest ⟨0, 1, 3, v, d⟩ = some { S with fs := rest ++ [⟨0, 1, 4, setV v 5 (IntKind.wrap .i64 (v 4 + v 2)), d⟩] } := rfl
theorem dp_ret (S : MS) (rest : List FrD) (v : Int → Int) (d : Int) : stepS (dpP n) S rest ⟨0, 1, 4, v, d⟩ = some (leaveS S rest ⟨0, 1, 4, v, d⟩ (v 5)) := rfl
theorem dp_ret0 (S : MS) (rest : List FrD) (v : Int → Int) (d : Int) : stepS (dpP n) S rest ⟨0, 2, 0, v, d⟩ = some (leaveS S rest ⟨0, 2, 0, v, d⟩ (v 1)) := rfl
theorem enter_none {p : ProgD} {S : MS} {fn d : Int} {args : List Int} (h : 2000 ≤ S.fs.length) : enterS p S fn args d = none := by
  unfold enterS; rw [if_pos h]
theorem enter_some {p : ProgD} {S : MS} {fn d : Int} {args : List Int} (h : ¬ 2000 ≤ S.fs.length) (hd : S.deep ≤ (S.fs.length : Nat)) : enterS p S fn args d = some { S with fs := S.fs ++ [⟨fn, 0, 0, setVs (fun _ => 0) (fnAt p fn).params args, d⟩], deep := ((S.fs.length + 1 : Nat) : Int) } := by
  unfold enterS
  rw [if_neg h, if_pos (by omega)]
theorem leave_some {S : MS} {rest : List FrD} {f : FrD} {x : Int} (h : rest ≠ []) : leaveS S rest f x = { S with fs := backS rest f.dst x } := by
  unfold leaveS; rw [if_neg h]
theorem runN {p : ProgD} {S : MS} {rest : List FrD} {f : FrD} {S' : MS} (k : Nat) (hf : S.fin = false) (hS : S.fs = rest ++ [f]) (h : stepS p { S with steps := S.steps + 1 } rest f = some S') : runS p (k + 1) S = runS p k S' := by
  rw [runS_succ hf hS, h]; rfl
theorem run_dead {p : ProgD} {S : MS} {rest : List FrD} {f : FrD} (hf : S.fin = false) (hS : S.fs = rest ++ [f]) (h : stepS p { S with steps := S.steps + 1 } rest f = none) : ∀ N, runS p N S = none
  | 0 => runS_zero hf
  | k + 1 => by rw [runS_succ hf hS, h]; rfl
theorem run_thru {p : ProgD} {S : MS} {rest : List FrD} {f : FrD} {S' : MS} (hf : S.fin = false) (hS : S.fs = rest ++ [f]) (h : stepS p { S with steps := S.steps + 1 } rest f = some S') (h' : ∀ N, runS p N S' = none) : ∀ N, runS p N S = none
  | 0 => runS_zero hf
  | k + 1 => by rw [runN k hf hS h]; exact h' k
theorem dp_loop : ∀ (m : Nat) (v : Int → Int) (d : Int) (rest : List FrD) (S : MS), rest ≠ [] → S.fin = false → S.fs = rest ++ [⟨0, 0, 0, v, d⟩] → v 1 = (m : Int) → m ≤ 4095 → S.deep = rest.length + 1 → rest.length + 1 ≤ 2000 →
    (rest.length + 1 + m ≤ 2000 → ∃ S', (∀ N, runS (dpP n) (N + (6 * m + 2)) S = runS (dpP n) N S') ∧ S'.fs = backS rest d m ∧ S'.fin = false ∧ S'.deep = rest.length + 1 + m) ∧
    (2000 < rest.length + 1 + m → ∀ N, runS (dpP n) N S = none)
  | 0, v, d, rest, S, hne, hf, hS, h1, _, hd, hr => by
    refine ⟨fun _ => ?_, fun h => by omega⟩
    have h1 : v 1 = 0 := h1
    have e1 := fun k => runN (p := dpP n) k hf hS (dp_branch { S with steps := S.steps + 1 } rest v d)
    rw [h1] at e1
    have e2 := fun k => runN (p := dpP n) (S := wayS (dpP n) (leakS { S with steps := S.steps + 1 } 1 (b2i ((0 : Int) != 0)) 0) rest ⟨0, 0, 0, v, d⟩ ([⟨1, []⟩, ⟨2, []⟩].getD (1 - b2i ((0 : Int) != 0)).toNat noE)) (rest := rest) (f := ⟨0, 2, 0, v, d⟩) k hf rfl (dp_ret0 _ rest v d)
    rw [leave_some hne] at e2
    refine ⟨_, fun N => (e1 (N + 1)).trans (e2 N), ?_, hf, ?_⟩
    · show backS rest d (v 1) = _
      rw [h1]; rfl
    · show S.deep = _
      rw [hd]; simp
  | m + 1, v, d, rest, S, hne, hf, hS, h1, hm, hd, hr => by
    have hne' : (v 1 != 0) = true := by rw [h1]; simp; omega
    have e1 := dp_branch (n := n) { S with steps := S.steps + 1 } rest v d
    rw [hne'] at e1
    have e1 : stepS (dpP n) { S with steps := S.steps + 1 } rest ⟨0, 0, 0, v, d⟩ = some { S with steps := S.steps + 1, leaks := S.leaks ++ [⟨1, 1, 0⟩], fs := rest ++ [⟨0, 1, 0, v, d⟩] } := e1
    generalize hS1 : ({ S with steps := S.steps + 1, leaks := S.leaks ++ [⟨1, 1, 0⟩], fs := rest ++ [⟨0, 1, 0, v, d⟩] } : MS) = S1 at e1
    have f1 : S1.fin = false := by rw [← hS1]; exact hf
    have s1 : S1.fs = rest ++ [⟨0, 1, 0, v, d⟩] := by rw [← hS1]
    have d1 : S1.deep = rest.length + 1 := by rw [← hS1]; exact hd
    have e2 := dp_const (n := n) { S1 with steps := S1.steps + 1 } rest v d
    generalize hS2 : ({ S1 with steps := S1.steps + 1, fs := rest ++ [⟨0, 1, 1, setV v 2 1, d⟩] } : MS) = S2 at e2
    have f2 : S2.fin = false := by rw [← hS2]; exact f1
    have s2 : S2.fs = rest ++ [⟨0, 1, 1, setV v 2 1, d⟩] := by rw [← hS2]
    have d2 : S2.deep = rest.length + 1 := by rw [← hS2]; exact d1
    have e3 := dp_sub (n := n) { S2 with steps := S2.steps + 1 } rest (setV v 2 1) d
    have hw : IntKind.wrap .i64 (setV v 2 1 1 - setV v 2 1 2) = (m : Int) := by
      show IntKind.wrap .i64 (v 1 - 1) = _
      rw [h1, w64 (by omega) (by omega)]; omega
    rw [hw] at e3
    generalize hv3 : setV (setV v 2 1) 3 (m : Int) = v3 at e3
    have v32 : v3 2 = 1 := by rw [← hv3]; rfl
    have v33 : v3 3 = m := by rw [← hv3]; rfl
    generalize hS3 : ({ S2 with steps := S2.steps + 1, fs := rest ++ [⟨0, 1, 2, v3, d⟩] } : MS) = S3 at e3
    have f3 : S3.fin = false := by rw [← hS3]; exact f2
    have s3 : S3.fs = rest ++ [⟨0, 1, 2, v3, d⟩] := by rw [← hS3]
    have d3 : S3.deep = rest.length + 1 := by rw [← hS3]; exact d2
    have e4 := dp_call (n := n) { S3 with steps := S3.steps + 1 } rest v3 d
    by_cases hlen : 2000 ≤ rest.length + 1
    · refine ⟨fun h => by omega, fun _ => ?_⟩
      rw [enter_none (by simpa using hlen)] at e4
      exact run_thru hf hS e1 (run_thru f1 s1 e2 (run_thru f2 s2 e3 (run_dead f3 s3 e4)))
    · rw [enter_some (by simpa using hlen) (by simp [d3])] at e4
      have e4 : stepS (dpP n) { S3 with steps := S3.steps + 1 } rest ⟨0, 1, 2, v3, d⟩ = some { S3 with steps := S3.steps + 1, fs := rest ++ [⟨0, 1, 3, v3, d⟩] ++ [⟨0, 0, 0, setV (fun _ => 0) 1 (v3 3), 4⟩], deep := ((rest ++ [(⟨0, 1, 3, v3, d⟩ : FrD)]).length + 1 : Nat) } := e4
      rw [v33] at e4
      generalize hS4 : ({ S3 with steps := S3.steps + 1, fs := rest ++ [⟨0, 1, 3, v3, d⟩] ++ [⟨0, 0, 0, setV (fun _ => 0) 1 (m : Int), 4⟩], deep := ((rest ++ [(⟨0, 1, 3, v3, d⟩ : FrD)]).length + 1 : Nat) } : MS) = S4 at e4
      have f4 : S4.fin = false := by rw [← hS4]; exact f3
      have s4 : S4.fs = rest ++ [⟨0, 1, 3, v3, d⟩] ++ [⟨0, 0, 0, setV (fun _ => 0) 1 (m : Int), 4⟩] := by rw [← hS4]
      have d4 : S4.deep = ((rest ++ [(⟨0, 1, 3, v3, d⟩ : FrD)]).length : Nat) + 1 := by rw [← hS4]; simp
      have hL : (rest ++ [(⟨0, 1, 3, v3, d⟩ : FrD)]).length = rest.length + 1 := by simp
      have ih := dp_loop m (setV (fun _ => 0) 1 (m : Int)) 4 (rest ++ [⟨0, 1, 3, v3, d⟩]) S4 (by simp) f4 s4 rfl (by omega) d4 (by rw [hL]; omega)
      rw [hL] at ih
      refine ⟨fun hle => ?_, fun hgt => run_thru hf hS e1 (run_thru f1 s1 e2 (run_thru f2 s2 e3 (run_thru f3 s3 e4 (ih.2 (by omega)))))⟩
      obtain ⟨S5, r5, s5, f5, d5⟩ := ih.1 (by omega)
      rw [backS_snoc] at s5
      have s5 : S5.fs = rest ++ [⟨0, 1, 3, setV v3 4 (m : Int), d⟩] := s5
      have e6 := dp_add (n := n) { S5 with steps := S5.steps + 1 } rest (setV v3 4 (m : Int)) d
      have hw6 : IntKind.wrap .i64 (setV v3 4 (m : Int) 4 + setV v3 4 (m : Int) 2) = ((m + 1 : Nat) : Int) := by
        show IntKind.wrap .i64 ((m : Int) + v3 2) = _
        rw [v32, w64 (by omega) (by omega)]; omega
      rw [hw6] at e6
      generalize hS6 : ({ S5 with steps := S5.steps + 1, fs := rest ++ [⟨0, 1, 4, setV (setV v3 4 (m : Int)) 5 ((m + 1 : Nat) : Int), d⟩] } : MS) = S6 at e6
      have f6 : S6.fin = false := by rw [← hS6]; exact f5
      have s6 : S6.fs = rest ++ [⟨0, 1, 4, setV (setV v3 4 (m : Int)) 5 ((m + 1 : Nat) : Int), d⟩] := by rw [← hS6]
      have d6 : S6.deep = S5.deep := by rw [← hS6]
      have e7 := dp_ret (n := n) { S6 with steps := S6.steps + 1 } rest (setV (setV v3 4 (m : Int)) 5 ((m + 1 : Nat) : Int)) d
      rw [leave_some hne] at e7
      refine ⟨{ S6 with steps := S6.steps + 1, fs := backS rest d ((m + 1 : Nat) : Int) }, fun N => ?_, rfl, f6, ?_⟩
      · rw [show N + (6 * (m + 1) + 2) = (N + 1 + 1) + (6 * m + 2) + 1 + 1 + 1 + 1 by omega]
        exact (runN _ hf hS e1).trans ((runN _ f1 s1 e2).trans ((runN _ f2 s2 e3).trans ((runN _ f3 s3 e4).trans (by
          rw [r5]
          exact (runN _ f5 s5 e6).trans (runN _ f6 s6 e7)))))
      · show S6.deep = _
        rw [d6, d5]; omega
theorem dp_mret (S : MS) (v : Int → Int) : stepS (dpP n) S [] ⟨1, 0, 2, v, 0⟩ = some { S with fs := [], val := v 2, fin := true } := rfl
def dpS (n : Int) : MS := ⟨[⟨1, 0, 2, setV (fun _ => 0) 1 n, 0⟩, ⟨0, 0, 0, setV (fun _ => 0) 1 n, 2⟩], 0, 0, [], 2, 2, [], false⟩
theorem dp_begin (n : Int) : runP (dpP n) [] 1048576 = runS (dpP n) 1048574 (dpS n) := by kernel_rfl
theorem dp_run {m : Nat} (hm : m ≤ 4095) : (m + 2 ≤ 2000 → ∃ S', runP (dpP m) [] 1048576 = some S' ∧ S'.val = m ∧ S'.deep = m + 2) ∧ (2000 < m + 2 → runP (dpP m) [] 1048576 = none) := by
  have L := dp_loop (n := m) m (setV (fun _ => 0) 1 (m : Int)) 2 [⟨1, 0, 2, setV (fun _ => 0) 1 (m : Int), 0⟩] (dpS m) (by simp) rfl rfl rfl hm rfl (by simp)
  rw [dp_begin]
  refine ⟨fun h => ?_, fun h => L.2 (by simp; omega) _⟩
  obtain ⟨S, r, s, f, d⟩ := L.1 (by simp; omega)
  rw [show 1048574 = (1048574 - (6 * m + 2) - 1 + 1) + (6 * m + 2) by omega, r]
  refine ⟨_, (runN _ f s (dp_mret _ _)).trans (runS_fin rfl _), rfl, ?_⟩
  show S.deep = _
  rw [d]
  simp; omega
end
end Go.Proofs.Ytapdnglpchejlaa

/- SimDeep: its walk. -/
namespace Go.Proofs.Ytapdnglpchejlaa
open Go Go.VL

set_option maxRecDepth 100000 in
theorem walkDeep {h : V} {n : Int} (_ : I64 n) :
    ACalls Try.prog 5 [iV n] h (fun v h' => v = .bool true ∧ Le h h') := by
  have f1 := and_bd n 4095 (by decide)
  have e63 : ((4095 : Nat) : Int) = 4095 := rfl
  rw [e63] at f1
  refine S5_ok _ _ _ (c_head fun h1 l1 => ⟨true, rfl, cond_not (fun e => by cases e) (fun _ => ?_)⟩)
  generalize bits .and .i64 n 4095 = mm at *
  obtain ⟨m, rfl⟩ : ∃ m : Nat, mm = (m : Int) := ⟨mm.toNat, by omega⟩
  have hm : m ≤ 4095 := by omega
  refine New_box fun r10 g1 _ k1 b10 => New_box fun r13 g2 _ k2 b13 => New_box fun r17 g3 _ k3 b17 => New_box fun r19 g4 _ k4 b19 => New_box fun r21 g5 _ k5 b21 => New_box fun r23 g6 _ k6 b23 => New_box fun r28 g7 _ k7 b28 => New_box fun r32 g8 _ k8 b32 => New_box fun r34 g9 _ k9 b34 => New_box fun r37 g10 _ k10 b37 => New_box fun r39 g11 _ k11 b39 => New_box fun r3 g12 hr3 k12 b3 => StL_box (h := g11) b3 rfl k12 hr3 fun g l13 b3' f3 => ?_
  have m11 := l13
  have m10 := k11.trans m11
  have m9 := k10.trans m10
  have m8 := k9.trans m9
  have m7 := k8.trans m8
  have m6 := k7.trans m7
  have m5 := k6.trans m6
  have m4 := k5.trans m5
  have m3 := k4.trans m4
  have m2 := k3.trans m3
  have m1 := k2.trans m2
  have m0 := k1.trans m1
  have v10 : isInts g ⟨some ⟨r10, 0, none⟩, 1, 1⟩ [1] := box_ints (l := [1]) (b10.le m1) (by simp)
  have e13 : isEdges g ⟨some ⟨r13, 0, none⟩, 2, 2⟩ [⟨1, []⟩, ⟨2, []⟩] := box_edges (ys := [⟨1, ⟨none, 0, 0⟩⟩, ⟨2, ⟨none, 0, 0⟩⟩]) (b13.le m2) rfl (by simp) (allC ⟨rfl, isSl_nil _ _ _⟩ (all1 ⟨rfl, isSl_nil _ _ _⟩))
  have v17 : isInts g ⟨some ⟨r17, 0, none⟩, 2, 2⟩ [1, 2] := box_ints (l := [1, 2]) (b17.le m3) (by simp)
  have v19 : isInts g ⟨some ⟨r19, 0, none⟩, 1, 1⟩ [3] := box_ints (l := [3]) (b19.le m4) (by simp)
  have v21 : isInts g ⟨some ⟨r21, 0, none⟩, 2, 2⟩ [4, 2] := box_ints (l := [4, 2]) (b21.le m5) (by simp)
  have i23 : isInss g ⟨some ⟨r23, 0, none⟩, 4, 4⟩ dpB1.ins := box_inss (ys := [⟨1, 2, ⟨none, 0, 0⟩, 1, 0, 0, 0⟩, ⟨2, 3, ⟨some ⟨r17, 0, none⟩, 2, 2⟩, 0, 2, 0, 0⟩, ⟨7, 4, ⟨some ⟨r19, 0, none⟩, 1, 1⟩, 0, 0, 0, 0⟩, ⟨2, 5, ⟨some ⟨r21, 0, none⟩, 2, 2⟩, 0, 1, 0, 0⟩]) (b23.le m6) rfl (by simp) (allC ⟨rfl, rfl, rfl, rfl, rfl, rfl, isSl_nil _ _ _⟩ (allC ⟨rfl, rfl, rfl, rfl, rfl, rfl, v17⟩ (allC ⟨rfl, rfl, rfl, rfl, rfl, rfl, v19⟩ (all1 ⟨rfl, rfl, rfl, rfl, rfl, rfl, v21⟩))))
  have hb : isBlocks g ⟨some ⟨r28, 0, none⟩, 3, 3⟩ [dpB0, dpB1, dpB2] := box_blocks (ys := [⟨⟨some ⟨r10, 0, none⟩, 1, 1⟩, ⟨none, 0, 0⟩, 2, 1, ⟨some ⟨r13, 0, none⟩, 2, 2⟩, 0⟩, ⟨⟨none, 0, 0⟩, ⟨some ⟨r23, 0, none⟩, 4, 4⟩, 3, 5, ⟨none, 0, 0⟩, 0⟩, ⟨⟨none, 0, 0⟩, ⟨none, 0, 0⟩, 3, 1, ⟨none, 0, 0⟩, 0⟩]) (b28.le m7) rfl (by simp)
    (allC ⟨rfl, rfl, rfl, v10, isSl_nil _ _ _, e13⟩ (allC ⟨rfl, rfl, rfl, isSl_nil _ _ _, i23, isSl_nil _ _ _⟩ (all1 ⟨rfl, rfl, rfl, isSl_nil _ _ _, isSl_nil _ _ _, isSl_nil _ _ _⟩)))
  have v32 : isInts g ⟨some ⟨r32, 0, none⟩, 1, 1⟩ [1] := box_ints (l := [1]) (b32.le m8) (by simp)
  have i34 : isInss g ⟨some ⟨r34, 0, none⟩, 2, 2⟩ (dpM m).ins := box_inss (ys := [⟨1, 1, ⟨none, 0, 0⟩, m, 0, 0, 0⟩, ⟨7, 2, ⟨some ⟨r32, 0, none⟩, 1, 1⟩, 0, 0, 0, 0⟩]) (b34.le m9) rfl (by simp) (allC ⟨rfl, rfl, rfl, rfl, rfl, rfl, isSl_nil _ _ _⟩ (all1 ⟨rfl, rfl, rfl, rfl, rfl, rfl, v32⟩))
  have hb2 : isBlocks g ⟨some ⟨r37, 0, none⟩, 1, 1⟩ [dpM m] := box_blocks (ys := [⟨⟨none, 0, 0⟩, ⟨some ⟨r34, 0, none⟩, 2, 2⟩, 3, 2, ⟨none, 0, 0⟩, 0⟩]) (b37.le m10) rfl (by simp) (all1 ⟨rfl, rfl, rfl, isSl_nil _ _ _, i34, isSl_nil _ _ _⟩)
  have hf : isFuncs g ⟨some ⟨r39, 0, none⟩, 2, 2⟩ (dpP m).funcs := box_funcs (ys := [⟨⟨#[]⟩, ⟨some ⟨r28, 0, none⟩, 3, 3⟩⟩, ⟨⟨#[]⟩, ⟨some ⟨r37, 0, none⟩, 1, 1⟩⟩]) (b39.le m11) rfl (by simp) (allC ⟨rfl, hb⟩ (all1 ⟨rfl, hb2⟩))
  refine ⟨(⟨none, 0, 0⟩, ⟨some ⟨r39, 0, none⟩, 2, 2⟩, 1, ()), b3'.cells, ?_⟩
  have l0 := l1.trans m0
  refine c_RunB (p := dpP m) (sa := ⟨none, 0, 0⟩) (si := ⟨none, 0, 0⟩) (ins := []) (isSl_nil _ _ _) hf (isSl_nil _ _ _) (dpFew m) (dpNums ⟨by omega, by omega⟩) (by simp) (by decide) (by decide) fun x e r8 h2 l2 b8 res => ?_
  have l02 := l0.trans l2
  have D := dp_run hm
  have w1 : IntKind.wrap .i64 ((m : Int) + 2) = m + 2 := w64 (by omega) (by omega)
  rw [w1]
  rcases res with ⟨hn, _⟩ | ⟨_, hn, rfl, _⟩ | ⟨_, S', hS', rfl, x1, x2, x3, x4, x5, x6⟩
  · exact absurd (dpOk m) hn
  · refine cond_dec (fun _ => Wk_self ⟨rfl, l02⟩) (fun hle => ?_)
    obtain ⟨S, hS, _⟩ := D.1 (by omega)
    rw [hS] at hn; cases hn
  · refine cond_dec (fun hgt => ?_) (fun hle => ?_)
    · rw [D.2 (by omega)] at hS'; cases hS'
    · obtain ⟨S, hS, s1, s2⟩ := D.1 (by omega)
      rw [hS] at hS'
      cases hS'
      have hd : (x.deep == (m : Int) + 2) = true := by rw [x4, s2]; simp
      refine cond_eqi (fun _ => ⟨_, b8.cell rfl, cond_eqi (fun _ => ⟨_, b8.cell rfl, ?_⟩) (fun n => absurd (x1.trans s1) n)⟩) (fun n => absurd rfl n)
      show Wk h2 fun h20 => (Value.bool (x.deep == (m : Int) + 2) = .bool true ∧ Le h h20)
      rw [hd]
      exact Wk_self ⟨rfl, l02⟩
end Go.Proofs.Ytapdnglpchejlaa

/- SimDeep: the row: whatever the input, the law returns true, and the input reads as it did. -/
namespace Go.Proofs.Ytapdnglpchejlaa
open Go Go.VL Go.ChangeShapes Go.WideShapes Go.ChangeAt Go.RowKit

theorem u4b : Try.prog.underlying 4 = some .bool := by kernel_rfl
theorem own : ownKnob Try.prog.godebug = none := by kernel_rfl
theorem laidOut : laidOutB Try.prog = true := by kernel_rfl
set_option maxRecDepth 100000 in
theorem lifted5 (os : Os) (started : os.Started) (H : Type) (enc : TypeId × Value → H) :
    ReturnsInHanded {} Try.checked os 5 .any (Rows.simDeepSpec.pre6 enc Try.prog Try.f5 Rows.simDeepRow.domain false) (Rows.simDeepSpec.post enc Try.prog Try.f5 false true false false) := by
  refine returnsInHanded_of_change (C := Try.checked) own started (by kernel_rfl) Try.func5
    (ChangeSpec.witness6 (enc := enc) (C := Try.checked) false ⟨#[], #[.int .i64 0], []⟩ 8 (by kernel_rfl) (by kernel_rfl) (by kernel_rfl) (by kernel_rfl)) ?_
  intro W base args ds gs before hval0 hW hcnd _
  have hW' := hW
  obtain ⟨p, q, hA0, hV, rfl, hfz, hnd⟩ := hW
  have hA : DataW.TrodAll enc Try.prog W 0 (fun _ => true) true Try.f5.params.toList args.toList ds p := hA0
  have hval : ∀ (j : Nat) t v, Try.f5.params[j]? = some t → args[j]? = some v → Value.okWide Try.prog W .any base t v := hval0
  rw [show Try.f5.params = #[3] from by kernel_rfl] at hA hval
  obtain ⟨v0, vs0, d0, ds0, p0, q0, hargs, rfl, rfl, h0, r0⟩ := trodAll_cons hA
  obtain ⟨rfl, rfl, rfl⟩ := trodAll_nil r0
  obtain rfl : args = #[v0] := by cases args; simp_all
  obtain ⟨rfl, rfl⟩ := trodVars_none hV
  have k0 := h0
  have lt0 : ∀ x ∈ p0, x.block < W.heap.size := by obtain ⟨m, hm⟩ := k0; exact DataW.trod_lt m _ _ _ hm
  obtain ⟨m0, hm0⟩ := h0
  obtain ⟨n0, e0, w0⟩ := rd_int u3 ⟨m0, _, hm0⟩
  have ev0 : v0 = iV n0 := by
    obtain ⟨m, rfl⟩ := okWide_int u3 (hval 0 3 v0 rfl rfl)
    simpa [Value.cells] using e0
  subst ev0
  refine ((walkDeep (wf_I64 w0)).2 W (sees_of W)).mono fun e W' ⟨kept, v, h', he, hs, hv, hle⟩ => ?_
  subst he hv
  have bel := below_of kept hs hle
  exact ⟨_, rfl, _, _, _, [], _, [], hW', trodAll_mk1 (shut_bool u4b _), (trodAll_cons_mk (Below.trod laidOut (by kernel_rfl) (of_decide_eq_true (by kernel_rfl)) k0 bel lt0) trodAll_mk0), rfl, bel.frame _, fun h => by cases h⟩
theorem over5 : Rows.simDeepRow.holds Try.pinned (OpenSpec.ofChange Rows.simDeepSpec) :=
  OpenClaim.holds_of_wide 5 Try.f5 rfl rfl rfl rfl rfl rfl rfl ⟨rfl, rfl, rfl, rfl, rfl⟩ rfl rfl rfl rfl rfl (by kernel_rfl) Try.func5 (by kernel_rfl)
    (of_decide_eq_true (by kernel_rfl)) (by unfold Func.isWrapper; first | (rw [if_pos (by decide +kernel)]; kernel_rfl) | (rw [if_neg (by decide +kernel)]; exact ⟨rfl, rfl⟩))
    (fun os started H enc _ => lifted5 os started H enc)
theorem proved5 : Rows.SimDeepSaid := over5
#print axioms proved5
end Go.Proofs.Ytapdnglpchejlaa
