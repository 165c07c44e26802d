/- Contracts: head, its walk. -/
import Derived.Test.YtaefmhephoilmaaCu
namespace Go.Proofs.Ytaefmhephoilmaa
open Go Go.VL

theorem isSl_one {α : Type} {rep : V → Addr → α → Prop} {sz : Nat} {h : V} {r : Nat} {x : α} (hx : rep h ⟨r, 0, none⟩ x) : isSl rep sz h ⟨some ⟨r, 0, none⟩, 1, 1⟩ [x] := by
  refine ⟨rfl, Nat.le_refl _, by show (1 : Nat) ≤ _; omega, fun k hk => ⟨_, rfl, ?_⟩⟩
  have e : k = 0 := by simp at hk; omega
  subst e
  rw [Nat.zero_mul, add_at]
  exact hx
theorem c_head {h : V} {R : Value → V → Prop} (hR : ∀ h', Le h h' → R (.bool true) h') : ACalls Try.prog 7 [] h R := by
  refine S7_ok _ _ (New_box fun r5 h1 hr5 l1 b5 => New_box fun r7 h2 hr7 l2 b7 => New_box fun r9 h3 hr9 l3 b9 => New_box fun r12 h4 hr12 l4 b12 => New_box fun r14 h5 hr14 l5 b14 => New_box fun r1 h6 hr1 l6 b1 => ?_)
  refine StL_box (h := h5) b1 rfl l6 hr1 fun h7 l7 b1' f7 => ⟨(⟨some ⟨r5, 0, none⟩, 1, 1⟩, ⟨some ⟨r14, 0, none⟩, 1, 1⟩, 0, ()), b1'.cells, ?_⟩
  have l47 := l5.trans l7
  have l37 := l4.trans l47
  have l27 := l3.trans l37
  have l17 := l2.trans l27
  have ha : isArrs h7 ⟨some ⟨r5, 0, none⟩, 1, 1⟩ hP.arrays := isSl_one (rep := repArr) (cellsAt_le l17 b5.cells)
  have h11 : isInts h7 ⟨some ⟨r7, 0, none⟩, 2, 2⟩ [1, 1] := by
    refine ⟨rfl, Nat.le_refl _, by show (2 : Nat) ≤ _; omega, fun k hk => ⟨_, rfl, ?_⟩⟩
    match k, hk with
    | 0, _ => exact (b7.le l27).cell rfl
    | 1, _ => exact (b7.le l27).cell rfl
  have hi : isInss h7 ⟨some ⟨r9, 0, none⟩, 2, 2⟩ [hI1, hI2] := by
    refine ⟨rfl, Nat.le_refl _, by show (2 : Nat) ≤ _; omega, fun k hk => ⟨_, rfl, ?_⟩⟩
    match k, hk with
    | 0, _ =>
      refine ⟨⟨none, 0, 0⟩, isSl_nil _ _ _, Box.from (b9.le l37) 0 fun j v hv => ?_⟩
      match j, hv with
      | 0, hv => exact hv
      | 1, hv => exact hv
      | 2, hv => exact hv
      | 3, hv => exact hv
      | 4, hv => exact hv
      | 5, hv => exact hv
      | 6, hv => exact hv
    | 1, _ =>
      refine ⟨⟨some ⟨r7, 0, none⟩, 2, 2⟩, h11, Box.from (b9.le l37) 7 fun j v hv => ?_⟩
      match j, hv with
      | 0, hv => exact hv
      | 1, hv => exact hv
      | 2, hv => exact hv
      | 3, hv => exact hv
      | 4, hv => exact hv
      | 5, hv => exact hv
      | 6, hv => exact hv
  have hb : isBlocks h7 ⟨some ⟨r12, 0, none⟩, 1, 1⟩ [hBl] := isSl_one (rep := repBlock) ⟨⟨none, 0, 0⟩, _, ⟨none, 0, 0⟩, isSl_nil _ _ _, hi, isSl_nil _ _ _, (b12.le l47).cells⟩
  have hf : isFuncs h7 ⟨some ⟨r14, 0, none⟩, 1, 1⟩ hP.funcs := isSl_one (rep := repFunc) ⟨_, hb, (b14.le l7).cells⟩
  have l07 := l1.trans l17
  refine c_Of (p := hP) (cutIn := []) (pc := ⟨none, 0, 0⟩) ha hf (isSl_nil _ _ _) hFew (fun hn => absurd hOk hn) fun _ h8 vs ar rs cs L l8 lab hL => ⟨((vs, ar, rs, cs, ()), 0, ()), rfl, ?_⟩
  refine New_box fun r2 h9 hr2 l9 b2 => StL_box (h := h8) b2 rfl l9 hr2 fun h10 l10 b2' f10 => ?_
  obtain ⟨e1, e2, e3⟩ := hLab hL
  have hv := lab.vals.le mono_vals l10
  have hrt := lab.rets.le mono_int l10
  have nv : vs.n = 1 := hv.len
  have nr : rs.n = 1 := hrt.len
  have na : ar.n = 1 := lab.arrs.len
  refine cond_eqi (fun _ => ⟨vs, b2'.cell rfl, cond_eqi (fun _ => ⟨vs, b2'.cell rfl, ?_⟩) (fun n => absurd (by show (vs.n : Int) = 1; omega) n)⟩) (fun n => absurd rfl n)
  refine hv.ix (i := 0) (by omega) (by rw [List.length_map, List.length_range]; exact Nat.zero_lt_one) fun a ⟨q, o, m, g1, g2, g3, g4⟩ => ⟨some q, g1, Look_map g2 g3 ?_⟩
  have k1 : (mget m 1).getD (0 : Int) = 2 := by rw [g4]; exact e1
  have k2 : (mget m 2).getD (0 : Int) = 2 := by rw [g4]; exact e2
  rw [k1]
  refine cond_eqi (fun _ => ⟨vs, b2'.cell rfl, ?_⟩) (fun n => absurd rfl n)
  refine hv.ix (i := 0) (by omega) (by rw [List.length_map, List.length_range]; exact Nat.zero_lt_one) fun a ⟨q, o, m, g1, g2, g3, g4⟩ => ⟨some q, g1, Look_map g2 g3 ?_⟩
  have k2 : (mget m 2).getD (0 : Int) = 2 := by rw [g4]; exact e2
  rw [k2]
  refine cond_eqi (fun _ => ⟨rs, b2'.cell rfl, cond_eqi (fun _ => ⟨rs, b2'.cell rfl, ?_⟩) (fun n => absurd (by show (rs.n : Int) = 1; omega) n)⟩) (fun n => absurd rfl n)
  refine hrt.ix (i := 0) (by omega) (by rw [List.length_map, List.length_range]; exact Nat.zero_lt_one) fun a ha' => ⟨_, ha', ?_⟩
  refine cond_eqi (fun _ => ⟨ar, b2'.cell rfl, Wk_self ?_⟩) (fun n => absurd e3 n)
  have : ((ar.n : Int) == 1) = true := by rw [na]; rfl
  rw [this]
  exact hR h10 ((l07.trans l8).trans l10)
end Go.Proofs.Ytaefmhephoilmaa
