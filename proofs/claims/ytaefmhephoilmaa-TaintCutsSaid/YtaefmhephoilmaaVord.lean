/- One order of a region's operations stands for all. -/
import Derived.Test.YtaefmhephoilmaaVtop
import Derived.Orders
namespace Go.VL
open Go

/- what an operation takes from an environment -/
theorem evs_congr {E E' : Env} : ∀ {xs : List Operand}, (∀ x ∈ xs, ev E x = ev E' x) → evs E xs = evs E' xs
  | [], _ => rfl
  | x :: xs, h => by
    simp only [evs, h x (by simp), evs_congr (xs := xs) fun y hy => h y (by simp [hy])]
theorem evp_congr {E E' : Env} : ∀ {xs : List (Nat × Operand)}, (∀ x ∈ xs.map (·.2), ev E x = ev E' x) → evp E xs = evp E' xs
  | [], _ => rfl
  | (i, x) :: xs, h => by
    simp only [evp, h x (by simp), evp_congr (xs := xs) fun y hy => h y (by rw [List.map_cons]; exact List.mem_cons_of_mem _ hy)]
theorem evo_congr {E E' : Env} {x : Option Operand} (h : ∀ y, x = some y → ev E y = ev E' y) : evo E x = evo E' x := by
  cases x with
  | none => rfl
  | some x => simp only [evo, h x rfl]
theorem rsv_congr {P : Program} {E E' : Env} {o : Oper} (h : ∀ x ∈ o.op.operands.toList, ev E x = ev E' x) : rsv P E o = rsv P E' o := by
  unfold rsv
  cases ho : o.op <;> rw [ho] at h <;> simp only [Op.operands] at h <;> try rfl
  case call c =>
    obtain ⟨cal, args, ts⟩ := c
    simp only [Call.operands] at h
    have ha : evs E args.toList = evs E' args.toList := evs_congr fun x hx => h x (by simp [hx])
    cases cal with
    | value x =>
      have hx : ev E x = ev E' x := h x (by simp)
      simp only [ha]
      cases evs E' args.toList with
      | none => cases x <;> rfl
      | some vs => cases x <;> first | rfl | simp only [hx]
    | invoke r m => simp only [ha]
    | builtin b =>
      simp only [ha]
      cases evs E' args.toList <;> rfl
  case makeFunc f xs ys =>
    have h1 : evs E xs.toList = evs E' xs.toList := evs_congr fun x hx => h x (by simp [hx])
    have h2 : evs E ys.toList = evs E' ys.toList := evs_congr fun x hx => h x (by simp [hx])
    simp only [h1, h2]
  case slice t x lo hi mx =>
    have h1 : ev E x = ev E' x := h x (by simp)
    have h2 : evo E lo = evo E' lo := evo_congr fun y hy => h y (by subst hy; simp)
    have h3 : evo E hi = evo E' hi := evo_congr fun y hy => h y (by subst hy; simp)
    have h4 : evo E mx = evo E' mx := evo_congr fun y hy => h y (by subst hy; simp)
    simp only [h1, h2, h3, h4]
  case build t ps =>
    have h1 : evp E ps.toList = evp E' ps.toList := evp_congr fun x hx => h x (by simpa using hx)
    simp only [h1]
  case buildSlice t n ps =>
    have h1 : evp E ps.toList = evp E' ps.toList := evp_congr fun x hx => h x (by simpa using hx)
    simp only [h1]
  case pick c x y => simp only [h c (by simp), h x (by simp), h y (by simp)]
  case store t x y => simp only [h x (by simp), h y (by simp)]
  case binOp op t x y u => simp only [h x (by simp), h y (by simp)]
  case makeSlice t x y => simp only [h x (by simp), h y (by simp)]
  case indexAddr t x y => simp only [h x (by simp), h y (by simp)]
  case lookup t x y b => simp only [h x (by simp), h y (by simp)]
  case mapUpdate t x y z => simp only [h x (by simp), h y (by simp), h z (by simp)]
  case insert t x y z => simp only [h x (by simp), h y (by simp), h z (by simp)]
  case next x b => cases b <;> first | rfl | simp only [h x (by simp)]
  case makeMap t r => cases r <;> rfl
  all_goals first | rfl | (have h1 := h _ (List.mem_singleton.2 rfl); simp only [h1])

/- what a resolved operation asks is kept by what follows from it -/
theorem StL_mono {a : Addr} {K K' : V → Prop} (hK : ∀ h, K h → K' h) : ∀ (vs : List Value) (i : Nat) (h : V), StL h a i vs K → StL h a i vs K'
  | [], _, h, hk => hK h hk
  | _ :: vs, i, h, hk => ⟨hk.1, StL_mono hK vs (i + 1) _ hk.2⟩
theorem ACalls.mono {P : Program} {f : FuncId} {args : List Value} {h : V} {R R' : Value → V → Prop} (hk : ACalls P f args h R) (hR : ∀ v h', R v h' → R' v h') : ACalls P f args h R' :=
  ⟨hk.1, fun w s => (hk.2 w s).mono fun _ _ ⟨k, v, h', e, s', r⟩ => ⟨k, v, h', e, s', hR _ _ r⟩⟩
theorem CallK_mono {P : Program} {f : FuncId} {args : List Value} {h : V} {r : Rs} {K K' : r.T → V → Prop} (hK : ∀ x h, K x h → K' x h) (hk : CallK P f args h r K) : CallK P f args h r K' :=
  hk.mono fun _ _ ⟨x, e, k⟩ => ⟨x, e, hK _ _ k⟩
theorem unK_mono {k : Kd} {v : Value} {f f' : k.T → Prop} (hf : ∀ x, f x → f' x) (h : unK k v f) : unK k v f' := by
  obtain ⟨x, rfl, hx⟩ := unK_some h
  have := hf x hx
  cases k with
  | int k =>
    simp only [unK]
    split
    · exact this
    · rename_i hne _; exact absurd rfl hne
  | _ => exact this
theorem unKs_mono : ∀ {ks : List Kd} {vs : List Value} {f f' : Tys ks → Prop}, (∀ x, f x → f' x) → unKs ks vs f → unKs ks vs f'
  | [], [], _, _, hf, h => hf _ h
  | [], _ :: _, _, _, _, h => h
  | _ :: _, [], _, _, _, h => h
  | _ :: ks, _ :: _, _, _, hf, h => unK_mono (fun _ hx => unKs_mono (ks := ks) (fun s hs => hf _ hs) hx) h
theorem unL_mono {l : Ly} {v : Value} {f f' : l.T → Prop} (hf : ∀ x, f x → f' x) (h : unL l v f) : unL l v f' := by
  cases l with
  | one k => exact unK_mono hf h
  | agg ks =>
    cases v <;> first | exact (show False from h).elim | exact unKs_mono (ks := ks) hf h
theorem R.run_mono {P : Program} {h : V} {K K' : Value → V → Prop} (hK : ∀ v h, K v h → K' v h) : ∀ {r : R}, r.run P h K → r.run P h K'
  | .ret _, hk => hK _ _ hk
  | .chk _ _, hk => ⟨hk.1, hK _ _ hk.2⟩
  | .pick c _ _, hk => by cases c <;> exact hK _ _ hk
  | .new _ _, hk => fun r hr => hK _ _ (hk r hr)
  | .oa q, hk => by cases q <;> first | exact hk.elim | exact hK _ _ hk
  | .ld _ _, ⟨x, h1, h2⟩ => ⟨x, h1, hK _ _ h2⟩
  | .ldA _ _, ⟨x, h1, h2⟩ => ⟨x, h1, hK _ _ h2⟩
  | .st _ vs, hk => StL_mono (fun _ => hK _ _) vs 0 _ hk
  | .ix _ _ _, ⟨a, h1, h2, h3, h4⟩ => ⟨a, h1, h2, h3, hK _ _ h4⟩
  | .cast _ _, hk => unL_mono (fun _ => hK _ _) hk
  | .call _ _ _, hk => CallK_mono (fun _ _ => hK _ _) hk
  | .callv f _ _, hk => by
    revert hk
    show CallV _ _ _ _ _ _ → CallV _ _ _ _ _ _
    unfold CallV
    split
    · exact CallK_mono (fun _ _ => hK _ _)
    · exact fun h => h
  | .lenm q, hk => by
    cases q with
    | none => exact hK _ _ hk
    | some r => obtain ⟨es, clk, h1, h2⟩ := hk; exact ⟨es, clk, h1, hK _ _ h2⟩
  | .look q _ _ _ _ _, hk => by
    cases q with
    | none => exact hK _ _ hk
    | some r =>
      obtain ⟨es, clk, h1, h2⟩ := hk
      refine ⟨es, clk, h1, ?_⟩
      rcases h2 with ⟨i, x, h3, h4⟩ | ⟨h3, h4⟩
      · exact .inl ⟨i, x, h3, hK _ _ h4⟩
      · exact .inr ⟨h3, hK _ _ h4⟩
  | .mupd _ _ _ _, hk => by
    obtain ⟨r, es, clk, h0, h1, h2⟩ := hk
    refine ⟨r, es, clk, h0, h1, ?_⟩
    rcases h2 with ⟨i, x, h3, h4⟩ | ⟨h3, h4⟩
    · exact .inl ⟨i, x, h3, hK _ _ h4⟩
    · exact .inr ⟨h3, hK _ _ h4⟩
  | .mdel q _ _, hk => by
    cases q with
    | none => exact hK _ _ hk
    | some r =>
      obtain ⟨es, clk, h1, h2⟩ := hk
      refine ⟨es, clk, h1, ?_⟩
      rcases h2 with ⟨i, x, h3, h4⟩ | ⟨h3, h4⟩
      · exact .inl ⟨i, x, h3, hK _ _ h4⟩
      · exact .inr ⟨h3, hK _ _ h4⟩
  | .mkSl _ _ _ _ _, ⟨h1, h2, h3, h4, h5⟩ => ⟨h1, h2, h3, h4, fun r hr => hK _ _ (h5 r hr)⟩
  | .slc _ _ _ _ _, ⟨h1, h2, h3, h4, h5⟩ => ⟨h1, h2, h3, h4, hK _ _ h5⟩
  | .app _ _ _ _ _ _, ⟨xs, h1, h2, h3, h4, h5⟩ => ⟨xs, h1, h2, h3,
      fun hle => ⟨(h4 hle).1, fun a ha => StL_mono (fun _ => hK _ _) _ _ _ ((h4 hle).2.1 a ha), fun ha => hK _ _ ((h4 hle).2.2 ha)⟩,
      fun hlt => let ⟨k1, k2, ss, k3, k4, k5⟩ := h5 hlt; ⟨k1, k2, ss, k3, k4, fun r c hr hc => hK _ _ (k5 r c hr hc)⟩⟩
  | .rng q, hk => by
    cases q with
    | none => exact fun r hr => hK _ _ (hk r hr)
    | some r => obtain ⟨es, clk, h1, h2⟩ := hk; exact ⟨es, clk, h1, fun r hr => hK _ _ (h2 r hr)⟩
  | .nxt _, hk => by
    rcases hk with ⟨a, b, c, h1, h2⟩ | ⟨m, since, seen, last, es, clk, h1, h2, h3, h4, h5⟩
    · exact .inl ⟨a, b, c, h1, hK _ _ h2⟩
    · exact .inr ⟨m, since, seen, last, es, clk, h1, h2, h3, fun e he hn => hK _ _ (h4 e he hn), fun hh => hK _ _ (h5 hh)⟩
  | .ent _, ⟨m, since, seen, b, clk, es, e, h1, h2, h3, h4, h5⟩ => ⟨m, since, seen, b, clk, es, e, h1, h2, h3, h4, hK _ _ h5⟩

theorem cellq_le {h h' : V} (l : Le h h') {a : Addr} {v : Value} (hc : cellq h a = some v) : cellq h' a = some v := by
  unfold cellq at *
  cases hb : h a.block with
  | none => rw [hb] at hc; cases hc
  | some o => rw [l _ _ hb]; rw [hb] at hc; exact hc
theorem cellsAt_le {h h' : V} (l : Le h h') {a : Addr} : ∀ {vs : List Value} {i : Nat}, cellsAt h a i vs → cellsAt h' a i vs
  | [], _, _ => trivial
  | _ :: _, _, hc => ⟨cellq_le l hc.1, cellsAt_le l hc.2⟩

def isP : R → Bool
  | .ret _ | .chk _ _ | .pick _ _ _ | .oa _ | .ix _ _ _ | .cast _ _ | .slc _ _ _ _ _ => true
  | _ => false
def isQ : R → Bool
  | .ld _ _ | .ldA _ _ | .lenm _ | .look _ _ _ _ _ _ | .ent _ => true
  | r => isP r
def isX : R → Bool
  | .new _ _ | .mkSl _ _ _ _ _ => true
  | _ => false

theorem run_P {P : Program} {h : V} {K : Value → V → Prop} {r : R} (hr : isP r = true) (hk : r.run P h K) : ∃ v, K v h ∧ ∀ h' K', K' v h' → r.run P h' K' := by
  cases r with
  | ret v => exact ⟨v, hk, fun _ _ k => k⟩
  | chk p v => exact ⟨v, hk.2, fun _ _ k => ⟨hk.1, k⟩⟩
  | pick c a b => cases c <;> exact ⟨_, hk, fun _ _ k => k⟩
  | oa q =>
    cases q with
    | none => exact (show False from hk).elim
    | some a => exact ⟨_, hk, fun _ _ k => k⟩
  | ix s i sz => obtain ⟨a, h1, h2, h3, h4⟩ := hk; exact ⟨_, h4, fun _ _ k => ⟨a, h1, h2, h3, k⟩⟩
  | cast l v =>
    obtain ⟨x, rfl, hx⟩ := unL_some hk
    refine ⟨_, hx, fun h' K' k => ?_⟩
    have hkk : unL l (l.mk x) fun y => l.mk y = l.mk x := by
      refine unL_mono (f := fun y => l.mk y = l.mk x ∧ K (l.mk y) h) (fun _ h => h.1) ?_
      have hE : ∀ {k : Kd} {x : k.T} {f : k.T → Prop}, f x → unK k (k.mk x) f := by
        intro k x f hf
        cases k with
        | int k =>
          simp only [unK]
          split
          · exact hf
          · rename_i hne _; exact absurd rfl hne
        | _ => exact hf
      have hEs : ∀ {ks : List Kd} {x : Tys ks} {f : Tys ks → Prop}, f x → unKs ks (mks ks x) f := by
        intro ks
        induction ks with
        | nil => intro x f hf; exact hf
        | cons k ks ih => intro x f hf; exact hE (ih hf)
      cases l with
      | one k => exact hE ⟨rfl, hx⟩
      | agg ks => exact hEs (ks := ks) ⟨rfl, hx⟩
    exact unL_mono (fun y hy => by show K' (l.mk y) h'; rw [hy]; exact k) hkk
  | slc s lo hi mx sz => obtain ⟨h1, h2, h3, h4, h5⟩ := hk; exact ⟨_, h5, fun _ _ k => ⟨h1, h2, h3, h4, k⟩⟩
  | _ => cases hr
theorem run_Q {P : Program} {h : V} {K : Value → V → Prop} {r : R} (hr : isQ r = true) (hk : r.run P h K) : ∃ v, K v h ∧ ∀ h' K', Le h h' → K' v h' → r.run P h' K' := by
  cases r with
  | ld a k => obtain ⟨x, h1, h2⟩ := hk; exact ⟨_, h2, fun _ _ l k => ⟨x, cellq_le l h1, k⟩⟩
  | ldA a k => obtain ⟨x, h1, h2⟩ := hk; exact ⟨_, h2, fun _ _ l k => ⟨x, cellsAt_le l h1, k⟩⟩
  | lenm q =>
    cases q with
    | none => exact ⟨_, hk, fun _ _ _ k => k⟩
    | some r => obtain ⟨es, clk, h1, h2⟩ := hk; exact ⟨_, h2, fun _ _ l k => ⟨es, clk, l _ _ h1, k⟩⟩
  | look q d key ly z ok =>
    cases q with
    | none => exact ⟨_, hk, fun _ _ _ k => k⟩
    | some r =>
      obtain ⟨es, clk, h1, h2⟩ := hk
      rcases h2 with ⟨i, x, h3, h4⟩ | ⟨h3, h4⟩
      · exact ⟨_, h4, fun _ _ l k => ⟨es, clk, l _ _ h1, .inl ⟨i, x, h3, k⟩⟩⟩
      · exact ⟨_, h4, fun _ _ l k => ⟨es, clk, l _ _ h1, .inr ⟨h3, k⟩⟩⟩
  | ent it => obtain ⟨m, since, seen, b, clk, es, e, h1, h2, h3, h4, h5⟩ := hk; exact ⟨_, h5, fun _ _ l k => ⟨m, since, seen, b, clk, es, e, l _ _ h1, h2, l _ _ h3, h4, k⟩⟩
  | _ =>
    obtain ⟨v, h1, h2⟩ := run_P (P := P) (by first | exact hr | cases hr) hk
    exact ⟨v, h1, fun h' K' _ k => h2 h' K' k⟩
theorem le_upd {h : V} {r : Nat} (hr : h r = none) (o : Obj) : Le h (h.upd r o) := by
  intro b x hb
  unfold V.upd
  have : b ≠ r := fun e => by subst e; rw [hr] at hb; cases hb
  rw [if_neg this]; exact hb
/- what makes memory: one new block, and no condition on the view but that it is new -/
theorem run_X {P : Program} {r : R} (hr : isX r = true) : ∃ (p : Prop) (o : Obj) (f : Nat → Value), ∀ (h : V) (K : Value → V → Prop), r.run P h K ↔ (p ∧ ∀ n, h n = none → K (f n) (h.upd n o)) := by
  cases r with
  | new o m => exact ⟨True, o, m.val, fun h K => ⟨fun k => ⟨trivial, k⟩, fun k => k.2⟩⟩
  | mkSl n c z e b =>
    refine ⟨0 ≤ n ∧ n ≤ c ∧ b * c ≤ 281474976710656 ∧ c ≤ 9223372036854775807, .cells ⟨(List.replicate c.toNat z).flatten⟩ e, fun r => .slice (some ⟨r, 0, none⟩) n.toNat c.toNat, fun h K => ?_⟩
    exact ⟨fun ⟨h1, h2, h3, h4, h5⟩ => ⟨⟨h1, h2, h3, h4⟩, h5⟩, fun ⟨⟨h1, h2, h3, h4⟩, h5⟩ => ⟨h1, h2, h3, h4, h5⟩⟩
  | _ => cases hr
end Go.VL
