/- What a row reads of a slice of maps to truths. -/
import Derived.Test.YtaefmhephoilmaaRw
import Derived.WideKeyElems2
namespace Go.Proofs.Ytaefmhephoilmaa
open Go Go.VL

theorem u4 : Try.prog.underlying 4 = some .bool := by kernel_rfl
section
variable {H : Type} {enc : TypeId × Value → H} {w : World} {base : Nat} {spare : Nat → Bool} {held : Bool}
def keyN : Value → Int
  | .int _ n => n
  | _ => 0
def valB : Value → Bool
  | .bool b => b
  | _ => false
theorem key_int {v : Value} {l : Lit} (h : keyOf Try.prog 3 v = some l) : v = .int .i64 (keyN v) := by
  unfold keyOf at h
  rw [u3] at h
  simp only at h
  unfold mapKey at h
  rw [u3] at h
  split at h <;> simp_all
  rfl
theorem val_bool {v : Value} {n : Nat} {x : DataW H × List MemPlace} (h : DataW.trod enc Try.prog w base spare held n 4 v.cells.toList = some x) (hv : v.formed Try.prog 4 = true) : v = .bool (valB v) := by
  cases n with
  | zero => simp [DataW.trod] at h
  | succ n =>
    unfold DataW.trod at h
    rw [u4] at h
    split at h <;> simp_all
    rename_i b _ hb
    cases v <;> simp [Value.cells] at hb
    · subst hb; rfl
    · simp [Value.formed, u4] at hv
theorem rd_cut {cs : List Value} (h : RdT enc w base spare held 29 cs) : ∃ (q : Option Nat) (f : Int → Bool), cs = [.map q] ∧ cutQ (V.of w) q f := by
  obtain ⟨fuel, x, h⟩ := h
  rcases WideElems.open_map u29 h with ⟨rfl, _⟩ | ⟨b, es, clk, n, _, rfl, hb, _, hfit, _⟩
  · exact ⟨none, fun _ => false, rfl, fun _ => rfl⟩
  · obtain ⟨s1, s2, s3⟩ := (MapKept.stamped_iff es clk).1 hfit.stamped
    have hent : ∀ x ∈ es.toList, x.key = .int .i64 (keyN x.key) ∧ x.val = .bool (valB x.val) := fun x hx => by
      obtain ⟨y, hy⟩ := hfit.reads x hx
      obtain ⟨z, hz, _⟩ := WideElems.rd_val hy
      unfold WideElems.elemAt at hz
      split at hz
      · rename_i hf
        exact ⟨key_int (WideElems.rd_key hy), val_bool hz hf⟩
      · cases hz
    have hm : MapRep .bool (.map es clk) (es.toList.map fun x => (keyN x.key, valB x.val)) := by
      refine ⟨?_, es, clk, rfl, ?_, s2, s1⟩
      · unfold mkeys
        rw [List.map_map]
        unfold List.Nodup
        rw [List.pairwise_map]
        refine s3.imp_of_mem fun {a b} ha hb hne e => hne ?_
        rw [(hent a ha).1, (hent b hb).1]
        exact congrArg (Value.int .i64) e
      · rw [List.map_map]
        refine List.map_congr_left fun x hx => ?_
        obtain ⟨e1, e2⟩ := hent x hx
        show (x.key, x.val) = (Value.int .i64 (keyN x.key), Kd.bool.mk (valB x.val))
        exact Prod.ext e1 e2
    exact ⟨some b, fun v => (mget (es.toList.map fun x => (keyN x.key, valB x.val)) v).getD false, rfl, _, _, hb, hm, fun _ => rfl⟩
theorem rd_cuts {cs : List Value} (h : RdT enc w base spare held 26 cs) : ∃ (s : Sl) (xs : List (Int → Bool)), cs = [sV s] ∧ isSl repCut 1 (V.of w) s xs :=
  rd_slice u26 (by kernel_rfl) (fun a cs' hat hl hr => by
    obtain ⟨q, f, rfl, hq⟩ := rd_cut hr
    exact ⟨f, q, by have := (rd_at hat hl).1; rwa [Addr.add_z] at this, hq⟩) h
end
end Go.Proofs.Ytaefmhephoilmaa
