/- Contracts of the functions of package ssa: small ones. -/
import Derived.Test.YtaefmhephoilmaaSa
import Derived.Test.YtaefmhephoilmaaVssa
namespace Go.Proofs.Ytaefmhephoilmaa
open Go Go.VL

theorem c_Params {h : V} {nm : ByteArray} {s : Sl} {bs : List BlockD} {R : Value → V → Prop} (hs : isBlocks h s bs) (hR : ∀ s', isInts h s' (FuncD.params ⟨nm, bs⟩) → R (sV s') h) : ACalls Try.prog 21 [.agg ⟨[.string nm, sV s]⟩] h R := by
  refine S21_ok _ _ _ _ (New_box fun r h1 hr l b => ?_)
  refine ⟨s, b.cell rfl, cond_eqi (fun h0 => ?_) (fun h0 => ?_)⟩
  · have : bs = [] := List.eq_nil_of_length_eq_zero (by have := hs.len; omega)
    subst this
    exact ⟨h, l, hR ⟨none, 0, 0⟩ (isSl_nil _ _ _)⟩
  · cases bs with
    | nil => exact absurd (by simp [hs.len]) h0
    | cons b0 bs =>
      exact ⟨s, b.cell rfl, hs.ixn (k := 0) (by simp) fun a ⟨p, i, w, h1', h2, h3, hc⟩ => ⟨p, cellq_le l hc.1, h, l, hR p h1'⟩⟩

/- the greatest number of a value -/
def imax (a b : Int) : Int := if b > a then b else a
def mostB (n : Int) (b : BlockD) : Int := (b.ins.map InsD.dst).foldl imax (b.params.foldl imax n)
def FuncD.most (f : FuncD) : Int := f.blocks.foldl mostB 0

theorem foldl_take {α β : Type} (f : β → α → β) (b : β) (l : List α) {k : Nat} (hk : k < l.length) : (l.take (k + 1)).foldl f b = f ((l.take k).foldl f b) l[k] := by
  rw [List.take_succ_eq_append_getElem hk, List.foldl_append]; rfl

theorem c_Most {h : V} {nm : ByteArray} {s : Sl} {bs : List BlockD} {R : Value → V → Prop} (hs : isBlocks h s bs) (hR : R (iV (FuncD.most ⟨nm, bs⟩)) h) : ACalls Try.prog 13 [.agg ⟨[.string nm, sV s]⟩] h R := by
  refine S13_ok _ _ _ _ (New_box fun r h1 hr l b => ?_)
  refine ⟨s, b.cell rfl, ?_⟩
  refine Lp_count bs.length (fun k st hh => st = ((bs.take k).foldl mostB 0, (k : Int), ()) ∧ h1 = hh) ⟨rfl, rfl⟩ ?_
  rintro k _ _ K hk ⟨rfl, rfl⟩ hK
  refine cond_dec (fun hlt => ?_) (fun hge => ?_)
  · have hk' : k < bs.length := by have := hs.len; simp only at hlt; omega
    refine elem_block hs l hk' rfl rfl fun p i w hp hi hw r' h2 l2 l2' hr2 b2 => ?_
    refine ⟨p, b2.cell rfl, ?_⟩
    refine Lp_count bs[k].params.length (fun j st hh => st = ((bs[k].params.take j).foldl imax ((bs.take k).foldl mostB 0), (j : Int), ()) ∧ h2 = hh) ⟨rfl, rfl⟩ ?_
    rintro j _ _ K1 hj ⟨rfl, rfl⟩ hK1
    refine cond_dec (fun hlt => ?_) (fun hge => ?_)
    · have hj' : j < bs[k].params.length := by have := hp.len; simp only at hlt; omega
      refine hp.ixn hj' fun a ha => Ld_i (mono_int _ _ _ _ l2 ha) (Wk_self (hK1 _ _ hj' ⟨?_, rfl⟩))
      rw [foldl_take _ _ _ hj', wnat hj' hp.bd]
      rfl
    · have : j = bs[k].params.length := by have := hp.len; simp only at hge; omega
      subst this
      refine ⟨i, b2.cell rfl, ?_⟩
      refine Lp_count bs[k].ins.length (fun j st hh => st = (((bs[k].ins.map InsD.dst).take j).foldl imax (bs[k].params.foldl imax ((bs.take k).foldl mostB 0)), (j : Int), ()) ∧ h2 = hh) ⟨by simp, rfl⟩ ?_
      rintro j _ _ K2 hj ⟨rfl, rfl⟩ hK2
      refine cond_dec (fun hlt => ?_) (fun hge => ?_)
      · have hj' : j < bs[k].ins.length := by have := hi.len; simp only at hlt; omega
        refine elem_ins hi l2 hj' rfl rfl fun q hq r3 h3 l3 l3' hr3 b3 => ?_
        refine ⟨_, b3.cell rfl, h2, l3', hK2 _ _ hj' ⟨?_, rfl⟩⟩
        rw [foldl_take _ _ _ (by simpa using hj'), wnat hj' hi.bd]
        simp [imax]
      · have : j = bs[k].ins.length := by have := hi.len; simp only at hge; omega
        subst this
        refine ⟨h1, l2', hK _ _ hk' ⟨?_, rfl⟩⟩
        rw [foldl_take _ _ _ hk', wnat hk' hs.bd]
        simp [mostB, List.take_of_length_le]
  · have : k = bs.length := by have := hs.len; simp only at hge; omega
    subst this
    refine ⟨h, l, ?_⟩
    simpa [FuncD.most] using hR
end Go.Proofs.Ytaefmhephoilmaa
