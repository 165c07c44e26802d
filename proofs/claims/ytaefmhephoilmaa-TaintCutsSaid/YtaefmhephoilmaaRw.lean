/- What a row reads of a program, as views have it. -/
import Derived.Test.YtaefmhephoilmaaVrow
import Derived.Test.YtaefmhephoilmaaProg
import Derived.Test.YtaefmhephoilmaaCp
import Derived.KernelRfl
namespace Go.Proofs.Ytaefmhephoilmaa
open Go Go.VL

noncomputable def fieldsT (t : TypeId) : Array Field := match Try.prog.underlying t with
  | some (.struct fs) => fs
  | _ => #[]
noncomputable def fieldK (t : TypeId) (j : Nat) : Option (TypeId × Nat) := ((fieldsT t)[j]?).map fun f => (f.type, f.offset)
section
variable {H : Type} {enc : TypeId × Value → H} {w : World} {base : Nat} {spare : Nat → Bool} {held : Bool}
abbrev RdT (enc : TypeId × Value → H) (w : World) (base : Nat) (spare : Nat → Bool) (held : Bool) (t : TypeId) (cs : List Value) : Prop := Rd enc Try.prog w base spare held t cs
theorem rd_fieldT {t u : TypeId} {j o c : Nat} {cs : List Value} (ht : Try.prog.underlying t = some (.struct (fieldsT t))) (hj : fieldK t j = some (u, o)) (hc : Try.prog.cellsOf u = c) (h : RdT enc w base spare held t cs) : RdT enc w base spare held u ((cs.drop o).take c) := by
  obtain ⟨_, h2⟩ := rd_field ht h
  obtain ⟨f, hf, e⟩ := Option.map_eq_some_iff.1 hj
  have := h2 j f hf
  cases e
  rw [hc] at this
  exact this
theorem len_T {t : TypeId} {n : Nat} {cs : List Value} (ht : Try.prog.underlying t = some (.struct (fieldsT t))) (hn : Try.prog.cellsOf t = n) (h : RdT enc w base spare held t cs) : cs.length = n := hn ▸ (rd_field ht h).1
theorem u3 : Try.prog.underlying 3 = some (.int .i64) := by kernel_rfl
theorem u2 : Try.prog.underlying 2 = some (.int .i64) := by kernel_rfl
theorem u49 : Try.prog.underlying 49 = some (.int .i64) := by kernel_rfl
theorem u51 : Try.prog.underlying 51 = some (.int .i64) := by kernel_rfl
theorem u57 : Try.prog.underlying 57 = some (.int .i64) := by kernel_rfl
theorem u58 : Try.prog.underlying 58 = some (.int .i64) := by kernel_rfl
theorem u64 : Try.prog.underlying 64 = some (.int .i64) := by kernel_rfl
theorem u9 : Try.prog.underlying 9 = some .string := by kernel_rfl
theorem u47 : Try.prog.underlying 47 = some (.slice 3) := by kernel_rfl
theorem u48 : Try.prog.underlying 48 = some (.slice 60) := by kernel_rfl
theorem u50 : Try.prog.underlying 50 = some (.slice 74) := by kernel_rfl
theorem u44 : Try.prog.underlying 44 = some (.slice 55) := by kernel_rfl
theorem u22 : Try.prog.underlying 22 = some (.slice 66) := by kernel_rfl
theorem u23 : Try.prog.underlying 23 = some (.slice 46) := by kernel_rfl
theorem u26 : Try.prog.underlying 26 = some (.slice 29) := by kernel_rfl
theorem u29 : Try.prog.underlying 29 = some (.map 3 4) := by kernel_rfl
theorem u74 : Try.prog.underlying 74 = some (.struct (fieldsT 74)) := by kernel_rfl
theorem u60 : Try.prog.underlying 60 = some (.struct (fieldsT 60)) := by kernel_rfl
theorem u55 : Try.prog.underlying 55 = some (.struct (fieldsT 55)) := by kernel_rfl
theorem u53 : Try.prog.underlying 53 = some (.struct (fieldsT 53)) := by kernel_rfl
theorem u46 : Try.prog.underlying 46 = some (.struct (fieldsT 46)) := by kernel_rfl
theorem u66 : Try.prog.underlying 66 = some (.struct (fieldsT 66)) := by kernel_rfl
theorem u25 : Try.prog.underlying 25 = some (.struct (fieldsT 25)) := by kernel_rfl

theorem rd_one {k : IntKind} {t : TypeId} {v : Value} (ht : Try.prog.underlying t = some (.int k)) (h : RdT enc w base spare held t [v]) : ∃ n, v = .int k n := by
  obtain ⟨n, e, _⟩ := rd_int ht h
  exact ⟨n, by cases e; rfl⟩
theorem rd_ints {cs : List Value} (h : RdT enc w base spare held 47 cs) : ∃ (s : Sl) (xs : List Int), cs = [sV s] ∧ isInts (V.of w) s xs :=
  rd_slice u47 (by kernel_rfl) (fun a cs' hat hl hr => by
    obtain ⟨n, rfl, _⟩ := rd_int u3 hr
    exact ⟨n, by have := (rd_at hat hl).1; rwa [Addr.add_z] at this⟩) h
theorem rd_edges {cs : List Value} (h : RdT enc w base spare held 50 cs) : ∃ (s : Sl) (xs : List EdgeD), cs = [sV s] ∧ isEdges (V.of w) s xs :=
  rd_slice u50 (by kernel_rfl) (fun a cs' hat hl hr => by
    have f0 := rd_fieldT (j := 0) (o := 0) u74 (by kernel_rfl) (by kernel_rfl : Try.prog.cellsOf 3 = 1) hr
    have f1 := rd_fieldT (j := 1) (o := 1) u74 (by kernel_rfl) (by kernel_rfl : Try.prog.cellsOf 47 = 1) hr
    have hc := rd_at hat hl
    match cs', hl with
    | [x, y], _ =>
      obtain ⟨n, rfl⟩ := rd_one u3 f0
      obtain ⟨s, xs, e, hs⟩ := rd_ints f1
      cases e
      exact ⟨⟨n, xs⟩, s, hs, hc⟩) h
theorem rd_inss {cs : List Value} (h : RdT enc w base spare held 48 cs) : ∃ (s : Sl) (xs : List InsD), cs = [sV s] ∧ isInss (V.of w) s xs :=
  rd_slice u48 (by kernel_rfl) (fun a cs' hat hl hr => by
    have f0 := rd_fieldT (j := 0) (o := 0) u60 (by kernel_rfl) (by kernel_rfl : Try.prog.cellsOf 57 = 1) hr
    have f1 := rd_fieldT (j := 1) (o := 1) u60 (by kernel_rfl) (by kernel_rfl : Try.prog.cellsOf 3 = 1) hr
    have f2 := rd_fieldT (j := 2) (o := 2) u60 (by kernel_rfl) (by kernel_rfl : Try.prog.cellsOf 47 = 1) hr
    have f3 := rd_fieldT (j := 3) (o := 3) u60 (by kernel_rfl) (by kernel_rfl : Try.prog.cellsOf 2 = 1) hr
    have f4 := rd_fieldT (j := 4) (o := 4) u60 (by kernel_rfl) (by kernel_rfl : Try.prog.cellsOf 58 = 1) hr
    have f5 := rd_fieldT (j := 5) (o := 5) u60 (by kernel_rfl) (by kernel_rfl : Try.prog.cellsOf 3 = 1) hr
    have f6 := rd_fieldT (j := 6) (o := 6) u60 (by kernel_rfl) (by kernel_rfl : Try.prog.cellsOf 3 = 1) hr
    have hc := rd_at hat hl
    match cs', hl with
    | [x0, x1, x2, x3, x4, x5, x6], _ =>
      obtain ⟨n0, rfl⟩ := rd_one u57 f0
      obtain ⟨n1, rfl⟩ := rd_one u3 f1
      obtain ⟨s, xs, e, hs⟩ := rd_ints f2
      obtain ⟨n3, rfl⟩ := rd_one u2 f3
      obtain ⟨n4, rfl⟩ := rd_one u58 f4
      obtain ⟨n5, rfl⟩ := rd_one u3 f5
      obtain ⟨n6, rfl⟩ := rd_one u3 f6
      cases e
      exact ⟨⟨n0, n1, xs, n3, n4, n5, n6⟩, s, hs, hc⟩) h
theorem rd_blocks {cs : List Value} (h : RdT enc w base spare held 44 cs) : ∃ (s : Sl) (xs : List BlockD), cs = [sV s] ∧ isBlocks (V.of w) s xs :=
  rd_slice u44 (by kernel_rfl) (fun a cs' hat hl hr => by
    have f0 := rd_fieldT (j := 0) (o := 0) u55 (by kernel_rfl) (by kernel_rfl : Try.prog.cellsOf 47 = 1) hr
    have f1 := rd_fieldT (j := 1) (o := 1) u55 (by kernel_rfl) (by kernel_rfl : Try.prog.cellsOf 48 = 1) hr
    have f2 := rd_fieldT (j := 2) (o := 2) u55 (by kernel_rfl) (by kernel_rfl : Try.prog.cellsOf 53 = 4) hr
    have hc := rd_at hat hl
    match cs', hl with
    | [x0, x1, x2, x3, x4, x5], _ =>
      obtain ⟨s0, ps, e0, hs0⟩ := rd_ints f0
      obtain ⟨s1, is, e1, hs1⟩ := rd_inss f1
      have g0 := rd_fieldT (j := 0) (o := 0) u53 (by kernel_rfl) (by kernel_rfl : Try.prog.cellsOf 49 = 1) f2
      have g1 := rd_fieldT (j := 1) (o := 1) u53 (by kernel_rfl) (by kernel_rfl : Try.prog.cellsOf 3 = 1) f2
      have g2 := rd_fieldT (j := 2) (o := 2) u53 (by kernel_rfl) (by kernel_rfl : Try.prog.cellsOf 50 = 1) f2
      have g3 := rd_fieldT (j := 3) (o := 3) u53 (by kernel_rfl) (by kernel_rfl : Try.prog.cellsOf 51 = 1) f2
      obtain ⟨n0, rfl⟩ := rd_one u49 g0
      obtain ⟨n1, rfl⟩ := rd_one u3 g1
      obtain ⟨s2, ws, e2, hs2⟩ := rd_edges g2
      obtain ⟨n3, rfl⟩ := rd_one u51 g3
      cases e0
      cases e1
      cases e2
      exact ⟨⟨ps, is, ⟨n0, n1, ws, n3⟩⟩, s0, s1, s2, hs0, hs1, hs2, hc⟩) h
theorem rd_funcs {cs : List Value} (h : RdT enc w base spare held 23 cs) : ∃ (s : Sl) (xs : List FuncD), cs = [sV s] ∧ isFuncs (V.of w) s xs :=
  rd_slice u23 (by kernel_rfl) (fun a cs' hat hl hr => by
    have f0 := rd_fieldT (j := 0) (o := 0) u46 (by kernel_rfl) (by kernel_rfl : Try.prog.cellsOf 9 = 1) hr
    have f1 := rd_fieldT (j := 1) (o := 1) u46 (by kernel_rfl) (by kernel_rfl : Try.prog.cellsOf 44 = 1) hr
    have hc := rd_at hat hl
    match cs', hl with
    | [x, y], _ =>
      obtain ⟨n, e0⟩ := rd_string u9 f0
      obtain ⟨s, xs, e, hs⟩ := rd_blocks f1
      cases e0
      cases e
      exact ⟨⟨n, xs⟩, s, hs, hc⟩) h
theorem rd_arrs {cs : List Value} (h : RdT enc w base spare held 22 cs) : ∃ (s : Sl) (xs : List ArrD), cs = [sV s] ∧ isArrs (V.of w) s xs :=
  rd_slice u22 (by kernel_rfl) (fun a cs' hat hl hr => by
    have f0 := rd_fieldT (j := 0) (o := 0) u66 (by kernel_rfl) (by kernel_rfl : Try.prog.cellsOf 9 = 1) hr
    have f1 := rd_fieldT (j := 1) (o := 1) u66 (by kernel_rfl) (by kernel_rfl : Try.prog.cellsOf 64 = 1) hr
    have f2 := rd_fieldT (j := 2) (o := 2) u66 (by kernel_rfl) (by kernel_rfl : Try.prog.cellsOf 3 = 1) hr
    have hc := rd_at hat hl
    match cs', hl with
    | [x, y, z], _ =>
      obtain ⟨n, e0⟩ := rd_string u9 f0
      obtain ⟨n1, rfl⟩ := rd_one u64 f1
      obtain ⟨n2, rfl⟩ := rd_one u3 f2
      cases e0
      exact ⟨⟨n, n1, n2⟩, hc⟩) h
theorem rd_prog {cs : List Value} (h : RdT enc w base spare held 25 cs) : ∃ (sa sf : Sl) (p : ProgD), cs = [sV sa, sV sf, iV p.main] ∧ isArrs (V.of w) sa p.arrays ∧ isFuncs (V.of w) sf p.funcs := by
  have f0 := rd_fieldT (j := 0) (o := 0) u25 (by kernel_rfl) (by kernel_rfl : Try.prog.cellsOf 22 = 1) h
  have f1 := rd_fieldT (j := 1) (o := 1) u25 (by kernel_rfl) (by kernel_rfl : Try.prog.cellsOf 23 = 1) h
  have f2 := rd_fieldT (j := 2) (o := 2) u25 (by kernel_rfl) (by kernel_rfl : Try.prog.cellsOf 3 = 1) h
  have hl := len_T u25 (by kernel_rfl : Try.prog.cellsOf 25 = 3) h
  match cs, hl with
  | [x, y, z], _ =>
    obtain ⟨sa, as_, e0, ha⟩ := rd_arrs f0
    obtain ⟨sf, fs, e1, hf⟩ := rd_funcs f1
    obtain ⟨n, rfl⟩ := rd_one u3 f2
    cases e0
    cases e1
    exact ⟨sa, sf, ⟨as_, fs, n⟩, rfl, ha, hf⟩
end
end Go.Proofs.Ytaefmhephoilmaa
