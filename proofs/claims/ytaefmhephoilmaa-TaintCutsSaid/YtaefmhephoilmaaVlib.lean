/- Words for views: blocks, slices, loops, maps. -/
import Derived.Test.YtaefmhephoilmaaVfun
namespace Go.VL
open Go

theorem Addr.add_add (a : Addr) (i j : Nat) : (a.add i).add j = a.add (i + j) := by
  unfold Addr.add
  by_cases hi : i = 0 <;> by_cases hj : j = 0 <;> simp [hi, hj, Nat.add_assoc]
theorem Addr.add_z (a : Addr) : a.add 0 = a := by simp [Addr.add]
theorem Addr.blk (a : Addr) (n : Nat) : (a.add n).block = a.block := by unfold Addr.add; split <;> rfl
theorem w64 {x : Int} (h1 : -9223372036854775808 ≤ x) (h2 : x ≤ 9223372036854775807) : IntKind.wrap .i64 x = x := by
  unfold IntKind.wrap; simp [IntKind.bits, IntKind.signed]; omega

/- growing views -/
theorem Le.upd {h0 h : V} (l : Le h0 h) {r : Nat} (hr : h0 r = none) (o : Obj) : Le h0 (h.upd r o) := by
  intro b x hb
  unfold V.upd
  have : b ≠ r := fun e => by subst e; rw [hr] at hb; cases hb
  rw [if_neg this]; exact l _ _ hb
theorem Le.nil {h0 h : V} (l : Le h0 h) {r : Nat} (hr : h r = none) : h0 r = none := by
  cases hx : h0 r with
  | none => rfl
  | some o => rw [l _ _ hx] at hr; cases hr
theorem Le.setc {h0 h : V} (l : Le h0 h) {a : Addr} (hr : h0 a.block = none) (v : Value) : Le h0 (setc h a v) := by
  intro b x hb
  unfold VL.setc
  have : b ≠ a.block := fun e => by subst e; rw [hr] at hb; cases hb
  rw [if_neg this]; exact l _ _ hb
theorem upd_self (h : V) (r : Nat) (o : Obj) : (h.upd r o) r = some o := by simp [V.upd]
theorem upd_ne {h : V} {r b : Nat} (hne : b ≠ r) (o : Obj) : (h.upd r o) b = h b := by simp [V.upd, hne]
theorem setc_ne {h : V} {a : Addr} {b : Nat} (hne : b ≠ a.block) (v : Value) : setc h a v b = h b := by simp [VL.setc, hne]
theorem setc_self {h : V} {a : Addr} {c : Array Value} {e : TypeId} {f : Nat × Nat} (hb : h a.block = some (.cells c e f)) (v : Value) : setc h a v a.block = some (.cells (c.setIfInBounds a.off v) e f) := by
  simp [VL.setc, hb]

/- a new block, known by its cells -/
def Box (h : V) (r : Nat) (cs : List Value) (t : TypeId) : Prop := h r = some (.cells ⟨cs⟩ t)
theorem New_box {h : V} {cs : List Value} {t : TypeId} {K : Nat → V → Prop} (hk : ∀ r h', h r = none → Le h h' → Box h' r cs t → K r h') : New h (.cells ⟨cs⟩ t) K :=
  fun r hr => hk r _ hr (le_upd hr _) (upd_self _ _ _)
theorem Box.cell {h : V} {r : Nat} {cs : List Value} {t : TypeId} (b : Box h r cs t) {i : Nat} {v : Value} (hv : cs[i]? = some v) : cellq h (Addr.add ⟨r, 0, none⟩ i) = some v := by
  have e : Addr.add ⟨r, 0, none⟩ i = ⟨r, i, none⟩ := by unfold Addr.add; split <;> simp_all
  rw [e]
  unfold Box at b
  simp [cellq, b, hv]
theorem Box.cell0 {h : V} {r : Nat} {v : Value} {cs : List Value} {t : TypeId} (b : Box h r (v :: cs) t) : cellq h ⟨r, 0, none⟩ = some v := by
  have := b.cell (i := 0) (v := v) rfl
  rwa [Addr.add_z] at this
theorem Box.le {h h' : V} {r : Nat} {cs : List Value} {t : TypeId} (b : Box h r cs t) (l : Le h h') : Box h' r cs t := l _ _ b
theorem cellsAt_of {h : V} {a : Addr} : ∀ {vs : List Value} {i : Nat}, (∀ j v, vs[j]? = some v → cellq h (a.add (i + j)) = some v) → cellsAt h a i vs
  | [], _, _ => trivial
  | v :: vs, i, hc => ⟨hc 0 v rfl, cellsAt_of fun j u hu => by have := hc (j + 1) u (by simpa using hu); rwa [show i + (j + 1) = i + 1 + j by omega] at this⟩
theorem Box.cells {h : V} {r : Nat} {cs : List Value} {t : TypeId} (b : Box h r cs t) : cellsAt h ⟨r, 0, none⟩ 0 cs :=
  cellsAt_of fun j v hv => by rw [Nat.zero_add]; exact b.cell hv
/- all cells of a box stored at once -/
theorem StL_box_aux {h : V} {r : Nat} {t : TypeId} {K : V → Prop} : ∀ (vs pre suf : List Value) (i : Nat) (h1 : V), pre.length = i → suf.length = vs.length → h1 r = some (.cells ⟨pre ++ suf⟩ t) → (∀ b, b ≠ r → h1 b = h b) →
    (∀ h', Box h' r (pre ++ vs) t → (∀ b, b ≠ r → h' b = h b) → K h') → StL h1 ⟨r, 0, none⟩ i vs K
  | [], pre, suf, i, h1, _, hs, hb, hf, hk => by
    have : suf = [] := List.eq_nil_of_length_eq_zero hs
    subst this
    exact hk h1 hb hf
  | v :: vs, pre, suf, i, h1, hp, hs, hb, hf, hk => by
    cases suf with
    | nil => simp at hs
    | cons u suf =>
      have e : Addr.add ⟨r, 0, none⟩ i = ⟨r, i, none⟩ := by unfold Addr.add; split <;> simp_all
      refine ⟨⟨_, _, 0, 0, by rw [e]; exact hb, by rw [e], by rw [e]; simp; omega, by rw [e]; simp⟩, ?_⟩
      rw [e]
      refine StL_box_aux vs (pre ++ [v]) suf (i + 1) _ (by simp [hp]) (by simpa using hs) ?_ (fun b hne => (setc_ne (a := ⟨r, i, none⟩) hne v).trans (hf b hne)) (fun h' hB hF => hk h' (by simpa using hB) hF)
      have := setc_self (a := ⟨r, i, none⟩) hb v
      rw [this]
      congr 2
      apply Array.ext'
      simp [← hp]
theorem StL_box {h h1 : V} {r : Nat} {cs vs : List Value} {t : TypeId} {K : V → Prop} (b : Box h1 r cs t) (hl : cs.length = vs.length) (hle : Le h h1) (hr : h r = none) (hk : ∀ h', Le h h' → Box h' r vs t → (∀ b, b ≠ r → h' b = h1 b) → K h') : StL h1 ⟨r, 0, none⟩ 0 vs K :=
  StL_box_aux (h := h1) vs [] cs 0 h1 rfl hl b (fun _ _ => rfl) fun h' hB hF => hk h' (fun b o hb => by
    by_cases e : b = r
    · subst e; rw [hr] at hb; cases hb
    · rw [hF b e]; exact hle _ _ hb) hB hF

/- conditions -/
theorem cond_dec {p : Prop} [Decidable p] {X Y : Prop} (hx : p → X) (hy : ¬ p → Y) : cond (decide p) X Y := by
  by_cases h : p
  · simp only [h, decide_true, cond_true]; exact hx h
  · simp only [h, decide_false, cond_false]; exact hy h
theorem cond_b {b : Bool} {X Y : Prop} (hx : b = true → X) (hy : b = false → Y) : cond b X Y := by
  cases b
  · exact hy rfl
  · exact hx rfl
theorem cond_eqi {x y : Int} {X Y : Prop} (hx : x = y → X) (hy : x ≠ y → Y) : cond (x == y) X Y := by
  by_cases h : x = y
  · subst h; simp only [beq_self_eq_true, cond_true]; exact hx rfl
  · have : (x == y) = false := by simpa using h
    rw [this]; exact hy h
theorem cond_nei {x y : Int} {X Y : Prop} (hx : x ≠ y → X) (hy : x = y → Y) : cond (x != y) X Y := by
  by_cases h : x = y
  · have : (x != y) = false := by simpa using h
    rw [this]; exact hy h
  · have : (x != y) = true := by simpa using h
    rw [this]; exact hx h
theorem cond_not {b : Bool} {X Y : Prop} (hx : b = false → X) (hy : b = true → Y) : cond (!b) X Y := by
  cases b
  · exact hx rfl
  · exact hy rfl
theorem unK_i {n : Int} {f : Int → Prop} (h : f n) : unK (.int .i64) (.int .i64 n) f := h
theorem Cut_i {σ : Type} {R : σ → V → Prop} {A : (σ → V → Prop) → Prop} (M : σ → V → Prop) (hA : ∀ J : σ → V → Prop, (∀ s h, M s h → J s h) → A J) (hR : ∀ s h, M s h → R s h) : Cut R A := hA R hR
theorem Wk_le {h h' : V} {K : V → Prop} (l : Le h' h) (hk : K h') : Wk h K := ⟨h', l, hk⟩
theorem Wk_self {h : V} {K : V → Prop} (hk : K h) : Wk h K := ⟨h, Le.refl h, hk⟩

/- loops -/
theorem Lp_inv {σ : Type} {step : (σ → V → Prop) → σ → V → Prop} (I : Nat → σ → V → Prop) {s : σ} {h : V} {n : Nat} (h0 : I n s h)
    (hs : ∀ n s h (K : σ → V → Prop), I n s h → (∀ m s' h', m < n → I m s' h' → K s' h') → step K s h) : Lp step s h := by
  have key : ∀ k n s h, n < k → I n s h → LpN step k s h := by
    intro k
    induction k with
    | zero => intro n s h hn; omega
    | succ k ih => intro n s h hn hI; exact hs n s h _ hI fun m s' h' hm hI' => ih m s' h' (by omega) hI'
  exact ⟨n + 1, key (n + 1) n s h (by omega) h0⟩
/- a loop that counts up to n -/
theorem Lp_count {σ : Type} {step : (σ → V → Prop) → σ → V → Prop} (n : Nat) (I : Nat → σ → V → Prop) {s : σ} {h : V} (h0 : I 0 s h)
    (hs : ∀ k s h (K : σ → V → Prop), k ≤ n → I k s h → (∀ s' h', k < n → I (k + 1) s' h' → K s' h') → step K s h) : Lp step s h := by
  refine Lp_inv (fun m s h => ∃ k, k ≤ n ∧ m = n - k ∧ I k s h) ⟨0, Nat.zero_le _, rfl, h0⟩ ?_
  rintro m s h K ⟨k, hk, rfl, hI⟩ hK
  exact hs k s h K hk hI fun s' h' hlt hI' => hK (n - (k + 1)) s' h' (by omega) ⟨k + 1, hlt, rfl, hI'⟩

/- slices that stand for lists -/
def isSl {α : Type} (rep : V → Addr → α → Prop) (sz : Nat) (h : V) (s : Sl) (xs : List α) : Prop :=
  s.n = xs.length ∧ s.n ≤ s.c ∧ s.n ≤ 9223372036854775807 ∧ ∀ k (hk : k < xs.length), ∃ a, s.a = some a ∧ rep h (a.add (k * sz)) xs[k]
theorem isSl.ix {α : Type} {rep : V → Addr → α → Prop} {sz : Nat} {h : V} {s : Sl} {xs : List α} (hs : isSl rep sz h s xs) {i : Int} {K : Addr → Prop} (h0 : 0 ≤ i) (h1 : i.toNat < xs.length) (hk : ∀ a, rep h a (xs[i.toNat]'h1) → K a) : Ix s i sz K := by
  obtain ⟨hn, _, _, ha⟩ := hs
  obtain ⟨a, ha, hr⟩ := ha i.toNat h1
  exact ⟨a, ha, h0, by omega, hk _ hr⟩
theorem isSl.ixn {α : Type} {rep : V → Addr → α → Prop} {sz : Nat} {h : V} {s : Sl} {xs : List α} (hs : isSl rep sz h s xs) {k : Nat} {K : Addr → Prop} (h1 : k < xs.length) (hk : ∀ a, rep h a xs[k] → K a) : Ix s (k : Int) sz K :=
  hs.ix (by omega) (by simpa using h1) fun a ha => hk a (by simpa using ha)
theorem isSl.len {α : Type} {rep : V → Addr → α → Prop} {sz : Nat} {h : V} {s : Sl} {xs : List α} (hs : isSl rep sz h s xs) : s.n = xs.length := hs.1
theorem isSl.bd {α : Type} {rep : V → Addr → α → Prop} {sz : Nat} {h : V} {s : Sl} {xs : List α} (hs : isSl rep sz h s xs) : xs.length ≤ 9223372036854775807 := hs.1 ▸ hs.2.2.1
def Mono {α : Type} (rep : V → Addr → α → Prop) : Prop := ∀ h h' a x, Le h h' → rep h a x → rep h' a x
theorem isSl.le {α : Type} {rep : V → Addr → α → Prop} {sz : Nat} {h h' : V} {s : Sl} {xs : List α} (hs : isSl rep sz h s xs) (hm : Mono rep) (l : Le h h') : isSl rep sz h' s xs :=
  ⟨hs.1, hs.2.1, hs.2.2.1, fun k hk => let ⟨a, h1, h2⟩ := hs.2.2.2 k hk; ⟨a, h1, hm _ _ _ _ l h2⟩⟩
theorem isSl_nil {α : Type} (rep : V → Addr → α → Prop) (sz : Nat) (h : V) : isSl rep sz h ⟨none, 0, 0⟩ [] := ⟨rfl, Nat.le_refl _, Nat.zero_le _, fun k hk => by simp at hk⟩
theorem wnat {k n : Nat} (h : k < n) (hn : n ≤ 9223372036854775807) : IntKind.wrap .i64 ((k : Int) + 1) = ((k + 1 : Nat) : Int) := by
  rw [w64 (by omega) (by omega)]; omega

def repInt (h : V) (a : Addr) (n : Int) : Prop := cellq h a = some (.int .i64 n)
def repBool (h : V) (a : Addr) (b : Bool) : Prop := cellq h a = some (.bool b)
theorem mono_int : Mono repInt := fun _ _ _ _ l h => cellq_le l h
theorem mono_bool : Mono repBool := fun _ _ _ _ l h => cellq_le l h
theorem Ld_i {h : V} {a : Addr} {n : Int} {K : Int → Prop} (hr : repInt h a n) (hk : K n) : Ld h a (.int .i64) K := ⟨n, hr, hk⟩
theorem Ld_c {h : V} {a : Addr} {k : Kd} {x : k.T} {K : k.T → Prop} (hc : cellq h a = some (k.mk x)) (hk : K x) : Ld h a k K := ⟨x, hc, hk⟩
/- an element taken out of a slice into a variable of its own: what is known of it is known at h0 -/
theorem elem_box {α : Type} {rep : V → Addr → α → Prop} {sz : Nat} {h0 h : V} {s : Sl} {xs : List α} {k : Nat} {ks : List Kd} {zs : List Value} {T : TypeId} {F : Tys ks → List Value} {K : Tys ks → Nat → V → Prop}
    (hs : isSl rep sz h0 s xs) (l : Le h0 h) (hk : k < xs.length) (hz : zs.length = ks.length) (hF : F = mks ks)
    (hb : ∀ a, rep h0 a xs[k] → ∃ x, cellsAt h0 a 0 (mks ks x) ∧ ∀ r h', Le h h' → h r = none → Box h' r (mks ks x) T → K x r h') :
    Ix s (k : Int) sz fun a => LdA h a ks fun x => New h (.cells ⟨zs⟩ T) fun r h1 => StL h1 ⟨r, 0, none⟩ 0 (F x) (K x r) := by
  subst hF
  refine hs.ixn hk fun a ha => ?_
  obtain ⟨x, hc, hx⟩ := hb a ha
  refine ⟨x, cellsAt_le l hc, New_box fun r h1 hr l b => StL_box b (by rw [hz, mks_length]) l hr fun h2 l2 b2 _ => hx r h2 l2 hr b2⟩
end Go.VL
