/- Contracts of package taint: Of, first part: what it begins with. -/
import Derived.Test.YtaefmhephoilmaaCq
namespace Go.Proofs.Ytaefmhephoilmaa
open Go Go.VL

structure Pre (hB hh : V) (p : ProgD) (cut : CutF) (r : Nat) (sa sf vs cs ws : Sl) (ids cl : List Nat) : Prop where
  le : Le hB hh
  newr : hB r = none
  box : Box hh r [sV sa, sV sf, iV p.main, sV vs, .slice none 0 0, .slice none 0 0, sV cs, sV ws, .bool false] 78
  ov : OwnS hB hh vs 56 1 (ids.map fun q => Value.map (some q))
  oc : OwnS hB hh cs 29 1 (cl.map fun q => Value.map (some q))
  len : ids.length = cl.length
  nd : ids.Nodup
  dis : ∀ q ∈ ids, q ∉ cl
  mi : ∀ q ∈ ids, hB q = none ∧ hh q = some (.map #[] 0)
  mc : ∀ (f : Nat) q, cl[f]? = some q → hB q = none ∧ ∃ o m, hh q = some o ∧ MapRep .bool o m ∧ ∀ v, (mget m v).getD false = cut f v
theorem isMap_of {kd : Kd} {o : Obj} {m : List (Int × kd.T)} (h : MapRep kd o m) : ∃ es clk, o = .map es clk := by obtain ⟨es, clk, e, _⟩ := h.ex; exact ⟨es, clk, e⟩

/- one function more: its map of labels, its map of what is cut -/
theorem of_more {hB h8 : V} {p : ProgD} {cut : CutF} {r : Nat} {sa sf vs cs ws : Sl} {ids cl : List Nat} {A : Nat → (Unit → V → Prop) → V → Prop} {K : V → Prop} (k : Pre hB h8 p cut r sa sf vs cs ws ids cl) (hfew : ids.length < 1024)
    (hA : ∀ (r45 : Nat) h13 J, h13 r45 = some (.map #[] 0) → hB r45 = none → Le hB h13 → (∀ h', (∀ b, b ≠ r45 → h13 b ≠ none → h' b = h13 b) → (∃ o m, h' r45 = some o ∧ MapRep .bool o m ∧ ∀ v, (mget m v).getD false = cut ids.length v) → J () h') → A r45 J h13)
    (hK : ∀ h' vs' cs' ids' cl', Pre hB h' p cut r sa sf vs' cs' ws ids' cl' → ids'.length = ids.length + 1 → K h') :
    Ld h8 (Addr.add (Addr.add ⟨r, 0, none⟩ 3) 0) .sl fun (x38 : Sl) =>
    New h8 (.map #[] 0) fun r39 h9 =>
    New h9 (.cells #[(.map ((some r39)))] 56) fun r40 h10 =>
    App h10 x38 ⟨(some ⟨r40, 0, none⟩), 1, 1⟩ 56 1 8 [(.map none)] fun s41 h11 =>
    StL h11 (Addr.add (Addr.add ⟨r, 0, none⟩ 3) 0) 0 [sV s41] fun h12 =>
    New h12 (.map #[] 0) fun r45 h13 =>
    Cut (σ := (Unit)) (fun _ h14 =>
    Ld h14 (Addr.add (Addr.add ⟨r, 0, none⟩ 3) 3) .sl fun (x68 : Sl) =>
    New h14 (.cells #[(.map ((some r45)))] 29) fun r70 h15 =>
    App h15 x68 ⟨(some ⟨r70, 0, none⟩), 1, 1⟩ 29 1 8 [(.map none)] fun s71 h16 =>
    StL h16 (Addr.add (Addr.add ⟨r, 0, none⟩ 3) 3) 0 [sV s71] fun h17 =>
    Wk h17 fun h18 => K h18) fun J => A r45 J h13 := by
  refine ⟨vs, by rw [Addr.add_add]; exact k.box.cell rfl, fun r39 hr39 => ?_⟩
  have l9 := le_upd hr39 (.map #[] 0)
  have m39 : (h8.upd r39 (.map #[] 0)) r39 = some (.map #[] 0) := upd_self _ _ _
  generalize h8.upd r39 (.map #[] 0) = h9 at *
  refine New_box fun r40 h10 hr40 l10 b40 => ?_
  have l810 := l9.trans l10
  have nv := k.ov.1
  simp only [List.length_map, Nat.mul_one] at nv
  have nc := k.oc.1
  simp only [List.length_map, Nat.mul_one] at nc
  have hlen := k.len
  refine App_one (k.le.trans l810) (k.ov.le l810) b40 rfl (by omega) (by omega) fun s41 h11 l11 o11 n11 f11 d11 => ?_
  have box10 := k.box.le l810
  have ov10 := k.ov.le l810
  have oc10 := k.oc.le l810
  have box11 : Box h11 r [sV sa, sV sf, iV p.main, sV vs, .slice none 0 0, .slice none 0 0, sV cs, sV ws, .bool false] 78 := by
    unfold Box
    rw [f11 r (fun a ha e => own_box ov10 box10 (by decide) ha e.symm) (by unfold Box at box10; rw [box10]; simp)]
    exact box10
  have oc11 : OwnS hB h11 cs 29 1 (cl.map fun q => Value.map (some q)) := oc10.frame fun a ob ha hob => by
    rw [f11 _ (fun a' ha' e => own_ne ov10 oc10 (by decide) ha' ha e.symm) (by rw [hob]; simp)]; exact hob
  have map11 : ∀ q es clk, h10 q = some (.map es clk) → h11 q = some (.map es clk) := fun q es clk hq => by
    rw [f11 q (fun a ha e => by obtain ⟨_, arr, h⟩ := ov10.blk ha; rw [← e, hq] at h; cases h) (by rw [hq]; simp)]; exact hq
  rw [Addr.add_add]
  refine Box_st (i := 3) box11 (by simp) fun h12 box12 f12 => ?_
  have box12 : Box h12 r [sV sa, sV sf, iV p.main, sV s41, .slice none 0 0, .slice none 0 0, sV cs, sV ws, .bool false] 78 := box12
  have le12 : Le hB h12 := fun q o hq => by
    rw [f12 q (fun e => by subst e; rw [k.newr] at hq; cases hq)]; exact l11 q o hq
  have ov12 : OwnS hB h12 s41 56 1 (ids.map (fun q => Value.map (some q)) ++ [.map (some r39)]) := o11.frame fun a ob ha hob => (f12 _ (own_box o11 box11 (by decide) ha)).trans hob
  have oc12 : OwnS hB h12 cs 29 1 (cl.map fun q => Value.map (some q)) := oc11.frame fun a ob ha hob => (f12 _ (own_box oc11 box11 (by decide) ha)).trans hob
  have map12 : ∀ q es clk, h10 q = some (.map es clk) → h12 q = some (.map es clk) := fun q es clk hq => by
    rw [f12 q (fun e => by unfold Box at box10; rw [e, box10] at hq; cases hq)]; exact map11 q es clk hq
  intro r45 hr45
  have l13 := le_upd hr45 (.map #[] 0)
  have m45 : (h12.upd r45 (.map #[] 0)) r45 = some (.map #[] 0) := upd_self _ _ _
  generalize h12.upd r45 (.map #[] 0) = h13 at *
  have hB45 : hB r45 = none := le12.nil hr45
  refine Cut_i (fun _ h14 => (∀ b, b ≠ r45 → h13 b ≠ none → h14 b = h13 b) ∧ ∃ o m, h14 r45 = some o ∧ MapRep .bool o m ∧ ∀ v, (mget m v).getD false = cut ids.length v) (fun J hJ => ?_) ?_
  · exact hA r45 h13 J m45 hB45 (le12.trans l13) fun h' f' x => hJ () h' ⟨f', x⟩
  · rintro _ h14 ⟨f14, o45, mm, ho45, hm45, hg45⟩
    have map14 : ∀ q es clk, h10 q = some (.map es clk) → h14 q = some (.map es clk) := fun q es clk hq => by
      have := map12 q es clk hq
      rw [f14 q (fun e => by rw [e] at this; rw [this] at hr45; cases hr45) (by rw [l13 _ _ this]; simp)]
      exact l13 _ _ this
    have keep14 : ∀ q o, h12 q = some o → h14 q = some o := fun q o hq => by
      rw [f14 q (fun e => by rw [e, hr45] at hq; cases hq) (by rw [l13 _ _ hq]; simp)]; exact l13 _ _ hq
    have l14 : Le h12 h14 := keep14
    refine ⟨cs, by rw [Addr.add_add]; exact (box12.le l14).cell rfl, New_box fun r70 h15 hr70 l15 b70 => ?_⟩
    have l1215 := l14.trans l15
    have ov15 := ov12.le l1215
    have oc15 := oc12.le l1215
    have box15 := box12.le l1215
    refine App_one (le12.trans l1215) oc15 b70 rfl (by omega) (by omega) fun s71 h16 l16 o16 n16 f16 d16 => ?_
    have box16 : Box h16 r [sV sa, sV sf, iV p.main, sV s41, .slice none 0 0, .slice none 0 0, sV cs, sV ws, .bool false] 78 := by
      unfold Box
      rw [f16 r (fun a ha e => own_box oc15 box15 (by decide) ha e.symm) (by unfold Box at box15; rw [box15]; simp)]
      exact box15
    have ov16 : OwnS hB h16 s41 56 1 (ids.map (fun q => Value.map (some q)) ++ [.map (some r39)]) := ov15.frame fun a ob ha hob => by
      rw [f16 _ (fun a' ha' e => own_ne oc15 ov15 (by decide) ha' ha e.symm) (by rw [hob]; simp)]; exact hob
    have map16 : ∀ q es clk, h14 q = some (.map es clk) → h16 q = some (.map es clk) := fun q es clk hq => by
      have := l15 _ _ hq
      rw [f16 q (fun a ha e => by obtain ⟨_, arr, h⟩ := oc15.blk ha; rw [← e, this] at h; cases h) (by rw [this]; simp)]; exact this
    rw [Addr.add_add]
    refine Box_st (i := 6) box16 (by simp) fun h17 box17 f17 => ?_
    have map17 : ∀ q es clk, h14 q = some (.map es clk) → h17 q = some (.map es clk) := fun q es clk hq => by
      have := map16 q es clk hq
      rw [f17 q (fun e => by unfold Box at box16; rw [e, box16] at this; cases this)]; exact this
    have old : ∀ q es clk, h8 q = some (.map es clk) → h17 q = some (.map es clk) := fun q es clk hq => map17 _ _ _ (map14 _ _ _ (l810 _ _ hq))
    have h39 : h17 r39 = some (.map #[] 0) := map17 _ _ _ (map14 _ _ _ (l10 _ _ m39))
    have n39 : hB r39 = none := k.le.nil hr39
    have ids_ne : ∀ q ∈ ids, q ≠ r39 := fun q hq e => by have := (k.mi q hq).2; rw [e, hr39] at this; cases this
    have cl_ne : ∀ q ∈ cl, q ≠ r39 ∧ q ≠ r45 := fun q hq => by
      obtain ⟨f, hf, e⟩ := List.getElem_of_mem hq
      obtain ⟨_, o, m, h1, h2, _⟩ := k.mc f q (by rw [List.getElem?_eq_getElem hf, e])
      obtain ⟨es, clk, rfl⟩ := isMap_of h2
      refine ⟨fun e => (by rw [e, hr39] at h1; cases h1), fun e => ?_⟩
      have := map12 _ _ _ (l810 _ _ h1)
      rw [e, hr45] at this; cases this
    have ids45 : ∀ q ∈ ids ++ [r39], q ≠ r45 := fun q hq e => by
      have : ∃ es clk, h10 q = some (.map es clk) := by
        rcases List.mem_append.1 hq with g | g
        · exact ⟨_, _, l810 _ _ (k.mi q g).2⟩
        · rw [List.mem_singleton.1 g]; exact ⟨_, _, l10 _ _ m39⟩
      obtain ⟨es, clk, h⟩ := this
      have := map12 _ _ _ h
      rw [e, hr45] at this; cases this
    refine Wk_self (hK h17 s41 s71 (ids ++ [r39]) (cl ++ [r45]) ⟨fun q o hq => ?_, k.newr, box17, ?_, ?_, by simp [k.len], ?_, ?_, ?_, ?_⟩ (by simp))
    · rw [f17 q (fun e => by subst e; rw [k.newr] at hq; cases hq)]; exact l16 q o hq
    · have := ov16.frame (h' := h17) fun a ob ha hob => (f17 _ (own_box ov16 box16 (by decide) ha)).trans hob
      simpa using this
    · have := o16.frame (h' := h17) fun a ob ha hob => (f17 _ (own_box o16 box16 (by decide) ha)).trans hob
      simpa using this
    · rw [List.nodup_append]
      refine ⟨k.nd, by simp, fun a ha b hb => ?_⟩
      rw [List.mem_singleton.1 hb]; exact ids_ne a ha
    · intro q hq hc
      rcases List.mem_append.1 hc with g | g
      · rcases List.mem_append.1 hq with g' | g'
        · exact k.dis q g' g
        · rw [List.mem_singleton.1 g'] at g; exact (cl_ne _ g).1 rfl
      · exact ids45 q hq (List.mem_singleton.1 g)
    · intro q hq
      rcases List.mem_append.1 hq with g | g
      · exact ⟨(k.mi q g).1, old _ _ _ (k.mi q g).2⟩
      · rw [List.mem_singleton.1 g]; exact ⟨n39, h39⟩
    · intro f q hq
      rcases Nat.lt_or_ge f cl.length with g | g
      · rw [List.getElem?_append_left g] at hq
        obtain ⟨h0, o, m, h1, h2, h3⟩ := k.mc f q hq
        obtain ⟨es, clk, rfl⟩ := isMap_of h2
        exact ⟨h0, _, m, old _ _ _ h1, h2, h3⟩
      · rw [List.getElem?_append_right g] at hq
        have e : f = cl.length := by
          have := (List.getElem?_eq_some_iff.1 hq).1
          simp at this; omega
        subst e
        simp at hq
        subst hq
        obtain ⟨es, clk, rfl⟩ := isMap_of hm45
        exact ⟨hB45, _, mm, map17 _ _ _ ho45, hm45, fun v => by rw [← k.len]; exact hg45 v⟩
end Go.Proofs.Ytaefmhephoilmaa
