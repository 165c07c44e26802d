/- What functions of the program ask of a view of memory: printed by shal.py. -/
import Derived.Test.YtaefmhephoilmaaProg
import Derived.Test.YtaefmhephoilmaaVfun
import Derived.KernelRfl
namespace Go.Proofs.Ytaefmhephoilmaa
open Go Go.VL
set_option maxRecDepth 100000
theorem mixed : Try.prog.follows .mixedOrders = true := by kernel_rfl
/- palings/ssa.shape -/
def an41 : An := (.two .nil (.two (.two .nil (.one (.cut [(5, (.one .bool))] (.two .nil (.two .nil .nil)) (.two (.two .nil .nil) (.two .nil (.two (.two .nil .nil) (.two .nil (.two (.two .nil .nil) (.two .nil (.two (.two .nil .nil) (.two .nil (.two (.two .nil .nil) (.two .nil (.two (.two .nil .nil) .nil)))))))))))))) (.two .nil .nil)))
def S41 (p0 : Int) (h : V) (R : Value → V → Prop) : Prop :=
  Cut (σ := (Bool × Unit)) (fun s h1 =>
  cond s.1
  (Wk h1 fun h2 => R (.tuple ⟨[(.int .i64 ((0 : Int))), (.bool true)]⟩) h2)
  (cond (p0 == ((2 : Int)))
  (Wk h1 fun h3 => R (.tuple ⟨[(.int .i64 ((2 : Int))), (.bool true)]⟩) h3)
  (cond (p0 == ((4 : Int)))
  (Wk h1 fun h4 => R (.tuple ⟨[(.int .i64 ((1 : Int))), (.bool false)]⟩) h4)
  (cond (p0 == ((5 : Int)))
  (Wk h1 fun h5 => R (.tuple ⟨[(.int .i64 ((1 : Int))), (.bool true)]⟩) h5)
  (cond (p0 == ((6 : Int)))
  (Wk h1 fun h6 => R (.tuple ⟨[(.int .i64 ((2 : Int))), (.bool false)]⟩) h6)
  (cond (p0 == ((7 : Int)))
  (Wk h1 fun h7 => R (.tuple ⟨[(.int .i64 ((-1 : Int))), (.bool true)]⟩) h7)
  (Wk h1 fun h8 => R (.tuple ⟨[(.int .i64 ((-2 : Int))), (.bool false)]⟩) h8))))))) fun J =>
  cond (p0 == ((1 : Int)))
  (Wk h fun h9 => J (p0 == ((1 : Int)), ()) h9)
  (Wk h fun h10 => J (p0 == ((3 : Int)), ()) h10)
theorem S41_eq (p0 : Int) (h : V) (R : Value → V → Prop) : ABody Try.prog an41 Try.f41 [(.int .i64 p0)] h R = S41 p0 h R := by kernel_rfl
theorem S41_ok (p0 : Int) (h : V) (R : Value → V → Prop) (hk : S41 p0 h R) : ACalls Try.prog 41 [(.int .i64 p0)] h R :=
  ABody_sound mixed Try.func41 Try.call41 (by kernel_rfl) (by kernel_rfl) (an := an41) (by rw [S41_eq]; exact hk)

/- (palings/word.Op).Known -/
def an42 : An := (.two .nil (.two .nil .nil))
def S42 (p0 : Int) (h : V) (R : Value → V → Prop) : Prop :=
  cond (decide (p0 ≥ ((1 : Int))))
  (Wk h fun h1 => R (.bool (decide (p0 ≤ ((15 : Int))))) h1)
  (Wk h fun h2 => R (.bool false) h2)
theorem S42_eq (p0 : Int) (h : V) (R : Value → V → Prop) : ABody Try.prog an42 Try.f42 [(.int .i64 p0)] h R = S42 p0 h R := by kernel_rfl
theorem S42_ok (p0 : Int) (h : V) (R : Value → V → Prop) (hk : S42 p0 h R) : ACalls Try.prog 42 [(.int .i64 p0)] h R :=
  ABody_sound mixed Try.func42 Try.call42 (by kernel_rfl) (by kernel_rfl) (an := an42) (by rw [S42_eq]; exact hk)

/- (palings/word.Op).Divides -/
def an34 : An := (.two .nil (.two .nil .nil))
def S34 (p0 : Int) (h : V) (R : Value → V → Prop) : Prop :=
  cond (p0 == ((4 : Int)))
  (Wk h fun h1 => R (.bool true) h1)
  (Wk h fun h2 => R (.bool (p0 == ((5 : Int)))) h2)
theorem S34_eq (p0 : Int) (h : V) (R : Value → V → Prop) : ABody Try.prog an34 Try.f34 [(.int .i64 p0)] h R = S34 p0 h R := by kernel_rfl
theorem S34_ok (p0 : Int) (h : V) (R : Value → V → Prop) (hk : S34 p0 h R) : ACalls Try.prog 34 [(.int .i64 p0)] h R :=
  ABody_sound mixed Try.func34 Try.call34 (by kernel_rfl) (by kernel_rfl) (an := an34) (by rw [S34_eq]; exact hk)

/- (palings/ssa.Func).Params -/
def an21 : An := (.two .nil (.two (.two .nil (.two (.two .nil .nil) .nil)) (.two .nil .nil)))
def S21 (p0_0 : ByteArray) (p0_1 : Sl) (h : V) (R : Value → V → Prop) : Prop :=
  New h (.cells #[(.string p0_0), (.slice p0_1.a p0_1.n p0_1.c)] 46) fun r1 h1 =>
  Ld h1 (Addr.add (⟨r1, 0, none⟩) 1) .sl fun (x4 : Sl) =>
  cond ((((x4.n : Nat) : Int)) == ((0 : Int)))
  (Wk h1 fun h2 => R (.slice none 0 0) h2)
  (Ld h1 (Addr.add (⟨r1, 0, none⟩) 1) .sl fun (x8 : Sl) =>
  Ix x8 ((0 : Int)) 6 fun a9 =>
  Ld h1 (Addr.add a9 0) .sl fun (x11 : Sl) =>
  Wk h1 fun h3 => R (.slice x11.a x11.n x11.c) h3)
theorem S21_eq (p0_0 : ByteArray) (p0_1 : Sl) (h : V) (R : Value → V → Prop) : ABody Try.prog an21 Try.f21 [(.agg ⟨[(.string p0_0), (.slice p0_1.a p0_1.n p0_1.c)]⟩)] h R = S21 p0_0 p0_1 h R := by kernel_rfl
theorem S21_ok (p0_0 : ByteArray) (p0_1 : Sl) (h : V) (R : Value → V → Prop) (hk : S21 p0_0 p0_1 h R) : ACalls Try.prog 21 [(.agg ⟨[(.string p0_0), (.slice p0_1.a p0_1.n p0_1.c)]⟩)] h R :=
  ABody_sound mixed Try.func21 Try.call21 (by kernel_rfl) (by kernel_rfl) (an := an21) (by rw [S21_eq]; exact hk)

/- (palings/ssa.Func).Most -/
def an13 : An := (.two .nil (.two .nil (.two (.two .nil (.one (.loop [(3, (.one (.int .i64))), (13, (.one (.int .i64)))] (.two .nil (.two (.two .nil .nil) (.two (.one (.two .nil (.two (.two .nil (.one (.loop [(3, (.one (.int .i64))), (20, (.one (.int .i64)))] (.two .nil (.two (.two .nil .nil) (.two (.one (.two .nil .nil)) .nil)))))) (.two .nil (.one (.loop [(3, (.one (.int .i64))), (31, (.one (.int .i64)))] (.two .nil (.two (.two .nil .nil) (.two (.one (.two .nil .nil)) .nil))))))))) .nil)))))) (.two .nil .nil))))
def S13 (p0_0 : ByteArray) (p0_1 : Sl) (h : V) (R : Value → V → Prop) : Prop :=
  New h (.cells #[(.string p0_0), (.slice p0_1.a p0_1.n p0_1.c)] 46) fun r1 h1 =>
  Ld h1 (Addr.add (⟨r1, 0, none⟩) 1) .sl fun (x11 : Sl) =>
  Lp (σ := (Int × Int × Unit)) (fun K s h2 =>
  cond (decide (s.2.1 < (((x11.n : Nat) : Int))))
  (Ix x11 s.2.1 6 fun a15 =>
  LdA h2 a15 [.sl, .sl, (.int .i64), (.int .i64), .sl, (.int .i64)] fun (x16 : ((Sl) × (Sl) × (Int) × (Int) × (Sl) × (Int) × Unit)) =>
  New h2 (.cells #[(.slice none 0 0), (.slice none 0 0), (.int .i64 ((0 : Int))), (.int .i64 ((0 : Int))), (.slice none 0 0), (.int .i64 ((0 : Int)))] 55) fun r5 h3 =>
  StL h3 (⟨r5, 0, none⟩) 0 [(.slice x16.1.a x16.1.n x16.1.c), (.slice x16.2.1.a x16.2.1.n x16.2.1.c), (.int .i64 x16.2.2.1), (.int .i64 x16.2.2.2.1), (.slice x16.2.2.2.2.1.a x16.2.2.2.2.1.n x16.2.2.2.2.1.c), (.int .i64 x16.2.2.2.2.2.1)] fun h4 =>
  Ld h4 (Addr.add (⟨r5, 0, none⟩) 0) .sl fun (x18 : Sl) =>
  Lp (σ := (Int × Int × Unit)) (fun K_1 s_1 h5 =>
  cond (decide (s_1.2.1 < (((x18.n : Nat) : Int))))
  (Ix x18 s_1.2.1 1 fun a22 =>
  Ld h5 a22 (.int .i64) fun (x23 : Int) =>
  Wk h5 fun h6 => K_1 (if x23 > s_1.1 then x23 else s_1.1, IntKind.wrap .i64 (s_1.2.1 + ((1 : Int))), ()) h6)
  (Ld h5 (Addr.add (⟨r5, 0, none⟩) 1) .sl fun (x29 : Sl) =>
  Lp (σ := (Int × Int × Unit)) (fun K_2 s_2 h7 =>
  cond (decide (s_2.2.1 < (((x29.n : Nat) : Int))))
  (Ix x29 s_2.2.1 7 fun a33 =>
  LdA h7 a33 [(.int .i64), (.int .i64), .sl, (.int .i64), (.int .i64), (.int .i64), (.int .i64)] fun (x34 : ((Int) × (Int) × (Sl) × (Int) × (Int) × (Int) × (Int) × Unit)) =>
  New h7 (.cells #[(.int .i64 ((0 : Int))), (.int .i64 ((0 : Int))), (.slice none 0 0), (.int .i64 ((0 : Int))), (.int .i64 ((0 : Int))), (.int .i64 ((0 : Int))), (.int .i64 ((0 : Int)))] 60) fun r9 h8 =>
  StL h8 (⟨r9, 0, none⟩) 0 [(.int .i64 x34.1), (.int .i64 x34.2.1), (.slice x34.2.2.1.a x34.2.2.1.n x34.2.2.1.c), (.int .i64 x34.2.2.2.1), (.int .i64 x34.2.2.2.2.1), (.int .i64 x34.2.2.2.2.2.1), (.int .i64 x34.2.2.2.2.2.2.1)] fun h9 =>
  Ld h9 (Addr.add (⟨r9, 0, none⟩) 1) (.int .i64) fun (x37 : Int) =>
  Wk h9 fun h10 => K_2 (if x37 > s_2.1 then x37 else s_2.1, IntKind.wrap .i64 (s_2.2.1 + ((1 : Int))), ()) h10)
  (Wk h7 fun h11 => K (s_2.1, IntKind.wrap .i64 (s.2.1 + ((1 : Int))), ()) h11))
  (s_1.1, (0 : Int), ()) h5))
  (s.1, (0 : Int), ()) h4)
  (Wk h2 fun h12 => R (.int .i64 s.1) h12))
  ((0 : Int), (0 : Int), ()) h1
theorem S13_eq (p0_0 : ByteArray) (p0_1 : Sl) (h : V) (R : Value → V → Prop) : ABody Try.prog an13 Try.f13 [(.agg ⟨[(.string p0_0), (.slice p0_1.a p0_1.n p0_1.c)]⟩)] h R = S13 p0_0 p0_1 h R := by kernel_rfl
theorem S13_ok (p0_0 : ByteArray) (p0_1 : Sl) (h : V) (R : Value → V → Prop) (hk : S13 p0_0 p0_1 h R) : ACalls Try.prog 13 [(.agg ⟨[(.string p0_0), (.slice p0_1.a p0_1.n p0_1.c)]⟩)] h R :=
  ABody_sound mixed Try.func13 Try.call13 (by kernel_rfl) (by kernel_rfl) (an := an13) (by rw [S13_eq]; exact hk)

/- palings/taint.Writes -/
def an18 : An := (.two .nil (.two .nil (.two .nil (.two (.two .nil (.one (.loop [(4, (.one .bool)), (19, (.one (.int .i64)))] (.two .nil (.two (.two .nil .nil) (.two (.one (.two .nil (.two .nil (.one (.loop [(4, (.one .bool)), (26, (.one (.int .i64)))] (.two .nil (.two (.two .nil .nil) (.two (.one (.two .nil (.two .nil (.one (.loop [(4, (.one .bool)), (33, (.one (.int .i64)))] (.two .nil (.two (.two .nil .nil) (.two (.one (.two .nil (.cut [(4, (.one .bool))] .nil (.two .nil (.two .nil .nil))))) .nil)))))))) .nil)))))))) .nil)))))) (.two (.two .nil (.one (.loop [(67, (.one (.int .i64)))] (.two .nil (.two (.two .nil .nil) (.two (.one (.two .nil .nil)) .nil)))))) (.two .nil .nil))))))
def S18 (p0_0 : Sl) (p0_1 : Sl) (p0_2 : Int) (h : V) (R : Value → V → Prop) : Prop :=
  New h (.cells #[(.slice p0_0.a p0_0.n p0_0.c), (.slice p0_1.a p0_1.n p0_1.c), (.int .i64 p0_2)] 25) fun r1 h1 =>
  Ld h1 (Addr.add (⟨r1, 0, none⟩) 0) .sl fun (x13 : Sl) =>
  MkSl h1 (((x13.n : Nat) : Int)) (((x13.n : Nat) : Int)) [(.bool false)] 4 1 fun s15 h2 =>
  Ld h2 (Addr.add (⟨r1, 0, none⟩) 1) .sl fun (x17 : Sl) =>
  Lp (σ := (Bool × Int × Unit)) (fun K s h3 =>
  cond (decide (s.2.1 < (((x17.n : Nat) : Int))))
  (Ix x17 s.2.1 2 fun a21 =>
  LdA h3 a21 [.str, .sl] fun (x22 : ((ByteArray) × (Sl) × Unit)) =>
  New h3 (.cells #[(.string (⟨#[]⟩)), (.slice none 0 0)] 46) fun r6 h4 =>
  StL h4 (⟨r6, 0, none⟩) 0 [(.string x22.1), (.slice x22.2.1.a x22.2.1.n x22.2.1.c)] fun h5 =>
  Ld h5 (Addr.add (⟨r6, 0, none⟩) 1) .sl fun (x24 : Sl) =>
  Lp (σ := (Bool × Int × Unit)) (fun K_1 s_1 h6 =>
  cond (decide (s_1.2.1 < (((x24.n : Nat) : Int))))
  (Ix x24 s_1.2.1 6 fun a28 =>
  LdA h6 a28 [.sl, .sl, (.int .i64), (.int .i64), .sl, (.int .i64)] fun (x29 : ((Sl) × (Sl) × (Int) × (Int) × (Sl) × (Int) × Unit)) =>
  New h6 (.cells #[(.slice none 0 0), (.slice none 0 0), (.int .i64 ((0 : Int))), (.int .i64 ((0 : Int))), (.slice none 0 0), (.int .i64 ((0 : Int)))] 55) fun r8 h7 =>
  StL h7 (⟨r8, 0, none⟩) 0 [(.slice x29.1.a x29.1.n x29.1.c), (.slice x29.2.1.a x29.2.1.n x29.2.1.c), (.int .i64 x29.2.2.1), (.int .i64 x29.2.2.2.1), (.slice x29.2.2.2.2.1.a x29.2.2.2.2.1.n x29.2.2.2.2.1.c), (.int .i64 x29.2.2.2.2.2.1)] fun h8 =>
  Ld h8 (Addr.add (⟨r8, 0, none⟩) 1) .sl fun (x31 : Sl) =>
  Lp (σ := (Bool × Int × Unit)) (fun K_2 s_2 h9 =>
  cond (decide (s_2.2.1 < (((x31.n : Nat) : Int))))
  (Ix x31 s_2.2.1 7 fun a35 =>
  LdA h9 a35 [(.int .i64), (.int .i64), .sl, (.int .i64), (.int .i64), (.int .i64), (.int .i64)] fun (x36 : ((Int) × (Int) × (Sl) × (Int) × (Int) × (Int) × (Int) × Unit)) =>
  New h9 (.cells #[(.int .i64 ((0 : Int))), (.int .i64 ((0 : Int))), (.slice none 0 0), (.int .i64 ((0 : Int))), (.int .i64 ((0 : Int))), (.int .i64 ((0 : Int))), (.int .i64 ((0 : Int)))] 60) fun r10 h10 =>
  StL h10 (⟨r10, 0, none⟩) 0 [(.int .i64 x36.1), (.int .i64 x36.2.1), (.slice x36.2.2.1.a x36.2.2.1.n x36.2.2.1.c), (.int .i64 x36.2.2.2.1), (.int .i64 x36.2.2.2.2.1), (.int .i64 x36.2.2.2.2.2.1), (.int .i64 x36.2.2.2.2.2.2.1)] fun h11 =>
  Cut (σ := (Bool × Unit)) (fun s_3 h12 =>
  Ld h12 (Addr.add (⟨r10, 0, none⟩) 0) (.int .i64) fun (x44 : Int) =>
  cond (x44 == ((4 : Int)))
  (Ld h12 (Addr.add (⟨r10, 0, none⟩) 5) (.int .i64) fun (x48 : Int) =>
  cond (decide (x48 ≥ ((0 : Int))))
  (Ld h12 (Addr.add (⟨r10, 0, none⟩) 5) (.int .i64) fun (x53 : Int) =>
  cond (decide (x53 < (((s15.n : Nat) : Int))))
  (Ld h12 (Addr.add (⟨r10, 0, none⟩) 5) (.int .i64) fun (x60 : Int) =>
  Ix s15 x60 1 fun a61 =>
  StL h12 a61 0 [(.bool true)] fun h13 =>
  Wk h13 fun h14 => K_2 (s_3.1, IntKind.wrap .i64 (s_2.2.1 + ((1 : Int))), ()) h14)
  (Wk h12 fun h15 => K_2 (s_3.1, IntKind.wrap .i64 (s_2.2.1 + ((1 : Int))), ()) h15))
  (Wk h12 fun h16 => K_2 (s_3.1, IntKind.wrap .i64 (s_2.2.1 + ((1 : Int))), ()) h16))
  (Wk h12 fun h17 => K_2 (s_3.1, IntKind.wrap .i64 (s_2.2.1 + ((1 : Int))), ()) h17)) fun J =>
  cond s_2.1
  (Wk h11 fun h18 => J (true, ()) h18)
  (Ld h11 (Addr.add (⟨r10, 0, none⟩) 0) (.int .i64) fun (x40 : Int) =>
  Wk h11 fun h19 => J (x40 == ((6 : Int)), ()) h19))
  (Wk h9 fun h20 => K_1 (s_2.1, IntKind.wrap .i64 (s_1.2.1 + ((1 : Int))), ()) h20))
  (s_1.1, (0 : Int), ()) h8)
  (Wk h6 fun h21 => K (s_1.1, IntKind.wrap .i64 (s.2.1 + ((1 : Int))), ()) h21))
  (s.1, (0 : Int), ()) h5)
  (Lp (σ := (Int × Unit)) (fun K_3 s_4 h22 =>
  cond (decide (s_4.1 < (((s15.n : Nat) : Int))))
  (Ix s15 s_4.1 1 fun a74 =>
  Ld h22 a74 .bool fun (x75 : Bool) =>
  cond x75
  (Ix s15 s_4.1 1 fun a79 =>
  StL h22 a79 0 [(.bool true)] fun h23 =>
  Wk h23 fun h24 => K_3 (IntKind.wrap .i64 (s_4.1 + ((1 : Int))), ()) h24)
  (Ix s15 s_4.1 1 fun a79_1 =>
  StL h22 a79_1 0 [(.bool s.1)] fun h25 =>
  Wk h25 fun h26 => K_3 (IntKind.wrap .i64 (s_4.1 + ((1 : Int))), ()) h26))
  (Wk h22 fun h27 => R (.slice s15.a s15.n s15.c) h27))
  ((0 : Int), ()) h3))
  (false, (0 : Int), ()) h2
theorem S18_eq (p0_0 : Sl) (p0_1 : Sl) (p0_2 : Int) (h : V) (R : Value → V → Prop) : ABody Try.prog an18 Try.f18 [(.agg ⟨[(.slice p0_0.a p0_0.n p0_0.c), (.slice p0_1.a p0_1.n p0_1.c), (.int .i64 p0_2)]⟩)] h R = S18 p0_0 p0_1 p0_2 h R := by kernel_rfl
theorem S18_ok (p0_0 : Sl) (p0_1 : Sl) (p0_2 : Int) (h : V) (R : Value → V → Prop) (hk : S18 p0_0 p0_1 p0_2 h R) : ACalls Try.prog 18 [(.agg ⟨[(.slice p0_0.a p0_0.n p0_0.c), (.slice p0_1.a p0_1.n p0_1.c), (.int .i64 p0_2)]⟩)] h R :=
  ABody_sound mixed Try.func18 Try.call18 (by kernel_rfl) (by kernel_rfl) (an := an18) (by rw [S18_eq]; exact hk)

/- (palings/ssa.Func).Reach -/
def an19 : An := (.two .nil (.two .nil (.two (.two .nil (.two (.two .nil .nil) .nil)) (.two .nil (.two .nil (.two (.one (.loop [(4, (.one .sl))] (.two (.two .nil (.two .nil .nil)) (.one (.two (.perm [0, 1, 2, 3, 4, 5, 6, 7, 8] []) (.two .nil (.two .nil (.one (.loop [(4, (.one .sl)), (35, (.one (.int .i64)))] (.two .nil (.two (.two .nil .nil) (.two (.one (.two .nil (.cut [(56, (.one .bool))] .nil (.two (.two .nil .nil) .nil)))) .nil)))))))))))) (.two .nil .nil)))))))
def S19 (p0_0 : ByteArray) (p0_1 : Sl) (h : V) (R : Value → V → Prop) : Prop :=
  New h (.cells #[(.string p0_0), (.slice p0_1.a p0_1.n p0_1.c)] 46) fun r1 h1 =>
  Ld h1 (Addr.add (⟨r1, 0, none⟩) 1) .sl fun (x9 : Sl) =>
  MkSl h1 (((x9.n : Nat) : Int)) (((x9.n : Nat) : Int)) [(.bool false)] 4 1 fun s11 h2 =>
  cond ((((s11.n : Nat) : Int)) == ((0 : Int)))
  (Wk h2 fun h3 => R (.slice s11.a s11.n s11.c) h3)
  (Ix s11 ((0 : Int)) 1 fun a17 =>
  StL h2 a17 0 [(.bool true)] fun h4 =>
  New h4 (.cells #[(.int .i64 ((0 : Int)))] 3) fun r18 h5 =>
  Lp (σ := (Sl × Unit)) (fun K s h6 =>
  cond (decide ((((s.1.n : Nat) : Int)) > ((0 : Int))))
  (Ld h6 (Addr.add (⟨r1, 0, none⟩) 1) .sl fun (x23 : Sl) =>
  Ix s.1 ((0 : Int)) 1 fun a25 =>
  Ld h6 a25 (.int .i64) fun (x26 : Int) =>
  Ix x23 x26 6 fun a27 =>
  LdA h6 a27 [.sl, .sl, (.int .i64), (.int .i64), .sl, (.int .i64)] fun (x28 : ((Sl) × (Sl) × (Int) × (Int) × (Sl) × (Int) × Unit)) =>
  New h6 (.cells #[(.slice none 0 0), (.slice none 0 0), (.int .i64 ((0 : Int))), (.int .i64 ((0 : Int))), (.slice none 0 0), (.int .i64 ((0 : Int)))] 55) fun r5 h7 =>
  StL h7 (⟨r5, 0, none⟩) 0 [(.slice x28.1.a x28.1.n x28.1.c), (.slice x28.2.1.a x28.2.1.n x28.2.1.c), (.int .i64 x28.2.2.1), (.int .i64 x28.2.2.2.1), (.slice x28.2.2.2.2.1.a x28.2.2.2.2.1.n x28.2.2.2.2.1.c), (.int .i64 x28.2.2.2.2.2.1)] fun h8 =>
  Slc s.1 (some ((1 : Int))) none none 1 fun s30 =>
  Ld h8 (Addr.add (Addr.add (⟨r5, 0, none⟩) 2) 2) .sl fun (x33 : Sl) =>
  Lp (σ := (Sl × Int × Unit)) (fun K_1 s_1 h9 =>
  cond (decide (s_1.2.1 < (((x33.n : Nat) : Int))))
  (Ix x33 s_1.2.1 2 fun a37 =>
  LdA h9 a37 [(.int .i64), .sl] fun (x38 : ((Int) × (Sl) × Unit)) =>
  New h9 (.cells #[(.int .i64 ((0 : Int))), (.slice none 0 0)] 74) fun r7 h10 =>
  StL h10 (⟨r7, 0, none⟩) 0 [(.int .i64 x38.1), (.slice x38.2.1.a x38.2.1.n x38.2.1.c)] fun h11 =>
  Cut (σ := (Bool × Unit)) (fun s_2 h12 =>
  cond s_2.1
  (Ld h12 (Addr.add (⟨r7, 0, none⟩) 0) (.int .i64) fun (x59 : Int) =>
  Ix s11 x59 1 fun a60 =>
  StL h12 a60 0 [(.bool true)] fun h13 =>
  Ld h13 (Addr.add (⟨r7, 0, none⟩) 0) (.int .i64) fun (x63 : Int) =>
  New h13 (.cells #[(.int .i64 x63)] 3) fun r64 h14 =>
  App h14 s_1.1 ⟨(some ⟨r64, 0, none⟩), 1, 1⟩ 3 1 8 [(.int .i64 ((0 : Int)))] fun s65 h15 =>
  Wk h15 fun h16 => K_1 (s65, IntKind.wrap .i64 (s_1.2.1 + ((1 : Int))), ()) h16)
  (Wk h12 fun h17 => K_1 (s_1.1, IntKind.wrap .i64 (s_1.2.1 + ((1 : Int))), ()) h17)) fun J =>
  Ld h11 (Addr.add (⟨r7, 0, none⟩) 0) (.int .i64) fun (x40 : Int) =>
  cond (decide (x40 ≥ ((0 : Int))))
  (Ld h11 (Addr.add (⟨r7, 0, none⟩) 0) (.int .i64) fun (x44 : Int) =>
  cond (decide (x44 < (((s11.n : Nat) : Int))))
  (Ld h11 (Addr.add (⟨r7, 0, none⟩) 0) (.int .i64) fun (x52 : Int) =>
  Ix s11 x52 1 fun a53 =>
  Ld h11 a53 .bool fun (x54 : Bool) =>
  Wk h11 fun h18 => J (!x54, ()) h18)
  (Wk h11 fun h19 => J (false, ()) h19))
  (Wk h11 fun h20 => J (false, ()) h20))
  (Wk h9 fun h21 => K (s_1.1, ()) h21))
  (s30, (0 : Int), ()) h8)
  (Wk h6 fun h22 => R (.slice s11.a s11.n s11.c) h22))
  (⟨(some ⟨r18, 0, none⟩), 1, 1⟩, ()) h5)
theorem S19_eq (p0_0 : ByteArray) (p0_1 : Sl) (h : V) (R : Value → V → Prop) : ABody Try.prog an19 Try.f19 [(.agg ⟨[(.string p0_0), (.slice p0_1.a p0_1.n p0_1.c)]⟩)] h R = S19 p0_0 p0_1 h R := by kernel_rfl
theorem S19_ok (p0_0 : ByteArray) (p0_1 : Sl) (h : V) (R : Value → V → Prop) (hk : S19 p0_0 p0_1 h R) : ACalls Try.prog 19 [(.agg ⟨[(.string p0_0), (.slice p0_1.a p0_1.n p0_1.c)]⟩)] h R :=
  ABody_sound mixed Try.func19 Try.call19 (by kernel_rfl) (by kernel_rfl) (an := an19) (by rw [S19_eq]; exact hk)

/- slices.ContainsFunc[[]palings/ssa.Ins,palings/ssa.Ins] -/
def an24 : An := (.two .nil (.two .nil .nil))
def S24 (p0 : Sl) (p1 : Value) (h : V) (R : Value → V → Prop) : Prop :=
  CallK Try.prog 40 [(.slice p0.a p0.n p0.c), p1] h (.un (.one (.int .i64))) fun (x7 : Int) h1 =>
  Wk h1 fun h2 => R (.bool (decide (x7 ≥ ((0 : Int))))) h2
theorem S24_eq (p0 : Sl) (p1 : Value) (h : V) (R : Value → V → Prop) : ABody Try.prog an24 Try.f24 [(.slice p0.a p0.n p0.c), p1] h R = S24 p0 p1 h R := by kernel_rfl
theorem S24_ok (p0 : Sl) (p1 : Value) (h : V) (R : Value → V → Prop) (hk : S24 p0 p1 h R) : ACalls Try.prog 24 [(.slice p0.a p0.n p0.c), p1] h R :=
  ABody_sound mixed Try.func24 Try.call24 (by kernel_rfl) (by kernel_rfl) (an := an24) (by rw [S24_eq]; exact hk)

/- (palings/ssa.Prog).Check.1 -/
def an25 : An := (.two .nil (.two .nil .nil))
def S25 (p0_0 : Int) (p0_1 : Int) (p0_2 : Sl) (p0_3 : Int) (p0_4 : Int) (p0_5 : Int) (p0_6 : Int) (c0 : Addr) (h : V) (R : Value → V → Prop) : Prop :=
  New h (.cells #[(.int .i64 p0_0), (.int .i64 p0_1), (.slice p0_2.a p0_2.n p0_2.c), (.int .i64 p0_3), (.int .i64 p0_4), (.int .i64 p0_5), (.int .i64 p0_6)] 60) fun r2 h1 =>
  LdA h1 c0 [.sl, .sl, (.int .i64)] fun (x4 : ((Sl) × (Sl) × (Int) × Unit)) =>
  LdA h1 (⟨r2, 0, none⟩) [(.int .i64), (.int .i64), .sl, (.int .i64), (.int .i64), (.int .i64), (.int .i64)] fun (x5 : ((Int) × (Int) × (Sl) × (Int) × (Int) × (Int) × (Int) × Unit)) =>
  CallK Try.prog 26 [(.agg ⟨[(.slice x4.1.a x4.1.n x4.1.c), (.slice x4.2.1.a x4.2.1.n x4.2.1.c), (.int .i64 x4.2.2.1)]⟩), (.agg ⟨[(.int .i64 x5.1), (.int .i64 x5.2.1), (.slice x5.2.2.1.a x5.2.2.1.n x5.2.2.1.c), (.int .i64 x5.2.2.2.1), (.int .i64 x5.2.2.2.2.1), (.int .i64 x5.2.2.2.2.2.1), (.int .i64 x5.2.2.2.2.2.2.1)]⟩)] h1 (.un (.one .bool)) fun (x6 : Bool) h2 =>
  Wk h2 fun h3 => R (.bool (!x6)) h3
theorem S25_eq (p0_0 : Int) (p0_1 : Int) (p0_2 : Sl) (p0_3 : Int) (p0_4 : Int) (p0_5 : Int) (p0_6 : Int) (c0 : Addr) (h : V) (R : Value → V → Prop) : ABody Try.prog an25 Try.f25 [(.agg ⟨[(.int .i64 p0_0), (.int .i64 p0_1), (.slice p0_2.a p0_2.n p0_2.c), (.int .i64 p0_3), (.int .i64 p0_4), (.int .i64 p0_5), (.int .i64 p0_6)]⟩), (.pointer (some c0))] h R = S25 p0_0 p0_1 p0_2 p0_3 p0_4 p0_5 p0_6 c0 h R := by kernel_rfl
theorem S25_ok (p0_0 : Int) (p0_1 : Int) (p0_2 : Sl) (p0_3 : Int) (p0_4 : Int) (p0_5 : Int) (p0_6 : Int) (c0 : Addr) (h : V) (R : Value → V → Prop) (hk : S25 p0_0 p0_1 p0_2 p0_3 p0_4 p0_5 p0_6 c0 h R) : ACalls Try.prog 25 [(.agg ⟨[(.int .i64 p0_0), (.int .i64 p0_1), (.slice p0_2.a p0_2.n p0_2.c), (.int .i64 p0_3), (.int .i64 p0_4), (.int .i64 p0_5), (.int .i64 p0_6)]⟩), (.pointer (some c0))] h R :=
  ABody_sound mixed Try.func25 Try.call25 (by kernel_rfl) (by kernel_rfl) (an := an25) (by rw [S25_eq]; exact hk)

/- (palings/ssa.Prog).right -/
def an26 : An := (.two .nil (.two .nil (.cut [] (.two .nil (.two (.two .nil .nil) .nil)) (.two (.two .nil (.one (.two .nil (.two (.two .nil .nil) (.cut [(45, (.one .bool))] (.two .nil (.two .nil .nil)) (.two (.two .nil .nil) (.cut [(69, (.one .bool))] (.two .nil (.two .nil .nil)) (.two (.two .nil .nil) (.two .nil (.two (.two (.perm [0, 1, 2, 3, 4, 5, 6, 7, 8, 9, 10, 11, 12, 13, 14, 15, 16, 17, 18, 19, 20, 21, 22, 23, 24, 25, 26, 27, 28, 29, 30, 31, 32, 33, 34, 35, 36, 37, 38, 39] []) .nil) .nil)))))))))) (.two .nil .nil)))))
def S26 (p0_0 : Sl) (p0_1 : Sl) (p0_2 : Int) (p1_0 : Int) (p1_1 : Int) (p1_2 : Sl) (p1_3 : Int) (p1_4 : Int) (p1_5 : Int) (p1_6 : Int) (h : V) (R : Value → V → Prop) : Prop :=
  New h (.cells #[(.slice p0_0.a p0_0.n p0_0.c), (.slice p0_1.a p0_1.n p0_1.c), (.int .i64 p0_2)] 25) fun r2 h1 =>
  New h1 (.cells #[(.int .i64 p1_0), (.int .i64 p1_1), (.slice p1_2.a p1_2.n p1_2.c), (.int .i64 p1_3), (.int .i64 p1_4), (.int .i64 p1_5), (.int .i64 p1_6)] 60) fun r3 h2 =>
  Ld h2 (Addr.add (⟨r3, 0, none⟩) 0) (.int .i64) fun (x9 : Int) =>
  CallK Try.prog 41 [(.int .i64 x9)] h2 (.tup [(.one (.int .i64)), (.one .bool)]) fun (x10 : (Int × Bool × Unit)) h3 =>
  Cut (σ := (Unit)) (fun _ h4 =>
  Ld h4 (Addr.add (⟨r3, 0, none⟩) 0) (.int .i64) fun (x39 : Int) =>
  cond (x39 == ((2 : Int)))
  (Ld h4 (Addr.add (⟨r3, 0, none⟩) 4) (.int .i64) fun (x43 : Int) =>
  CallK Try.prog 42 [(.int .i64 x43)] h4 (.un (.one .bool)) fun (x44 : Bool) h5 =>
  Wk h5 fun h6 => R (.bool x44) h6)
  (Cut (σ := (Bool × Unit)) (fun s_1 h7 =>
  cond s_1.1
  (Ld h7 (Addr.add (⟨r3, 0, none⟩) 5) (.int .i64) fun (x49 : Int) =>
  cond (decide (x49 ≥ ((0 : Int))))
  (Ld h7 (Addr.add (⟨r3, 0, none⟩) 5) (.int .i64) fun (x53 : Int) =>
  Ld h7 (Addr.add (⟨r2, 0, none⟩) 0) .sl fun (x55 : Sl) =>
  cond (decide (x53 < (((x55.n : Nat) : Int))))
  (Ld h7 (Addr.add (⟨r2, 0, none⟩) 0) .sl fun (x61 : Sl) =>
  Ld h7 (Addr.add (⟨r3, 0, none⟩) 5) (.int .i64) fun (x63 : Int) =>
  Ix x61 x63 3 fun a64 =>
  Ld h7 (Addr.add a64 2) (.int .i64) fun (x66 : Int) =>
  Wk h7 fun h8 => R (.bool (x66 == ((0 : Int)))) h8)
  (Wk h7 fun h9 => R (.bool false) h9))
  (Wk h7 fun h10 => R (.bool false) h10))
  (Cut (σ := (Bool × Unit)) (fun s_2 h11 =>
  cond s_2.1
  (Ld h11 (Addr.add (⟨r3, 0, none⟩) 5) (.int .i64) fun (x73 : Int) =>
  cond (decide (x73 ≥ ((0 : Int))))
  (Ld h11 (Addr.add (⟨r3, 0, none⟩) 5) (.int .i64) fun (x77 : Int) =>
  Ld h11 (Addr.add (⟨r2, 0, none⟩) 0) .sl fun (x79 : Sl) =>
  cond (decide (x77 < (((x79.n : Nat) : Int))))
  (Ld h11 (Addr.add (⟨r2, 0, none⟩) 0) .sl fun (x85 : Sl) =>
  Ld h11 (Addr.add (⟨r3, 0, none⟩) 5) (.int .i64) fun (x87 : Int) =>
  Ix x85 x87 3 fun a88 =>
  Ld h11 (Addr.add a88 2) (.int .i64) fun (x90 : Int) =>
  Wk h11 fun h12 => R (.bool (decide (x90 > ((0 : Int))))) h12)
  (Wk h11 fun h13 => R (.bool false) h13))
  (Wk h11 fun h14 => R (.bool false) h14))
  (cond (x39 == ((7 : Int)))
  (Ld h11 (Addr.add (⟨r3, 0, none⟩) 6) (.int .i64) fun (x96 : Int) =>
  cond (decide (x96 ≥ ((0 : Int))))
  (Ld h11 (Addr.add (⟨r3, 0, none⟩) 6) (.int .i64) fun (x100 : Int) =>
  Ld h11 (Addr.add (⟨r2, 0, none⟩) 1) .sl fun (x102 : Sl) =>
  cond (decide (x100 < (((x102.n : Nat) : Int))))
  (Ld h11 (Addr.add (⟨r2, 0, none⟩) 1) .sl fun (x108 : Sl) =>
  Ld h11 (Addr.add (⟨r3, 0, none⟩) 6) (.int .i64) fun (x110 : Int) =>
  Ix x108 x110 2 fun a111 =>
  Ld h11 (Addr.add a111 1) .sl fun (x113 : Sl) =>
  cond (decide ((((x113.n : Nat) : Int)) > ((0 : Int))))
  (Ld h11 (Addr.add (⟨r3, 0, none⟩) 2) .sl fun (x119 : Sl) =>
  Ld h11 (Addr.add (⟨r2, 0, none⟩) 1) .sl fun (x122 : Sl) =>
  Ld h11 (Addr.add (⟨r3, 0, none⟩) 6) (.int .i64) fun (x124 : Int) =>
  Ix x122 x124 2 fun a125 =>
  Ld h11 (Addr.add a125 1) .sl fun (x127 : Sl) =>
  Ix x127 ((0 : Int)) 6 fun a128 =>
  Ld h11 (Addr.add a128 0) .sl fun (x130 : Sl) =>
  Wk h11 fun h15 => R (.bool ((((x119.n : Nat) : Int)) == (((x130.n : Nat) : Int)))) h15)
  (Wk h11 fun h16 => R (.bool false) h16))
  (Wk h11 fun h17 => R (.bool false) h17))
  (Wk h11 fun h18 => R (.bool false) h18))
  (Wk h11 fun h19 => R (.bool true) h19))) fun J_2 =>
  cond (x39 == ((5 : Int)))
  (Wk h7 fun h20 => J_2 (x39 == ((5 : Int)), ()) h20)
  (Wk h7 fun h21 => J_2 (x39 == ((6 : Int)), ()) h21))) fun J_1 =>
  cond (x39 == ((3 : Int)))
  (Wk h4 fun h22 => J_1 (x39 == ((3 : Int)), ()) h22)
  (Wk h4 fun h23 => J_1 (x39 == ((4 : Int)), ()) h23))) fun J =>
  cond (x10.1 == ((-2 : Int)))
  (Wk h3 fun h24 => R (.bool false) h24)
  (cond (decide (x10.1 ≥ ((0 : Int))))
  (Ld h3 (Addr.add (⟨r3, 0, none⟩) 2) .sl fun (x20 : Sl) =>
  cond ((((x20.n : Nat) : Int)) != x10.1)
  (Wk h3 fun h25 => R (.bool false) h25)
  (Ld h3 (Addr.add (⟨r3, 0, none⟩) 1) (.int .i64) fun (x29 : Int) =>
  cond (!(x10.2.1 == (decide (x29 > ((0 : Int))))))
  (Wk h3 fun h26 => R (.bool false) h26)
  (Ld h3 (Addr.add (⟨r3, 0, none⟩) 1) (.int .i64) fun (x35 : Int) =>
  cond (decide (x35 < ((0 : Int))))
  (Wk h3 fun h27 => R (.bool false) h27)
  (Wk h3 fun h28 => J (()) h28))))
  (Ld h3 (Addr.add (⟨r3, 0, none⟩) 1) (.int .i64) fun (x29_1 : Int) =>
  cond (!(x10.2.1 == (decide (x29_1 > ((0 : Int))))))
  (Wk h3 fun h29 => R (.bool false) h29)
  (Ld h3 (Addr.add (⟨r3, 0, none⟩) 1) (.int .i64) fun (x35_1 : Int) =>
  cond (decide (x35_1 < ((0 : Int))))
  (Wk h3 fun h30 => R (.bool false) h30)
  (Wk h3 fun h31 => J (()) h31))))
theorem S26_eq (p0_0 : Sl) (p0_1 : Sl) (p0_2 : Int) (p1_0 : Int) (p1_1 : Int) (p1_2 : Sl) (p1_3 : Int) (p1_4 : Int) (p1_5 : Int) (p1_6 : Int) (h : V) (R : Value → V → Prop) : ABody Try.prog an26 Try.f26 [(.agg ⟨[(.slice p0_0.a p0_0.n p0_0.c), (.slice p0_1.a p0_1.n p0_1.c), (.int .i64 p0_2)]⟩), (.agg ⟨[(.int .i64 p1_0), (.int .i64 p1_1), (.slice p1_2.a p1_2.n p1_2.c), (.int .i64 p1_3), (.int .i64 p1_4), (.int .i64 p1_5), (.int .i64 p1_6)]⟩)] h R = S26 p0_0 p0_1 p0_2 p1_0 p1_1 p1_2 p1_3 p1_4 p1_5 p1_6 h R := by kernel_rfl
theorem S26_ok (p0_0 : Sl) (p0_1 : Sl) (p0_2 : Int) (p1_0 : Int) (p1_1 : Int) (p1_2 : Sl) (p1_3 : Int) (p1_4 : Int) (p1_5 : Int) (p1_6 : Int) (h : V) (R : Value → V → Prop) (hk : S26 p0_0 p0_1 p0_2 p1_0 p1_1 p1_2 p1_3 p1_4 p1_5 p1_6 h R) : ACalls Try.prog 26 [(.agg ⟨[(.slice p0_0.a p0_0.n p0_0.c), (.slice p0_1.a p0_1.n p0_1.c), (.int .i64 p0_2)]⟩), (.agg ⟨[(.int .i64 p1_0), (.int .i64 p1_1), (.slice p1_2.a p1_2.n p1_2.c), (.int .i64 p1_3), (.int .i64 p1_4), (.int .i64 p1_5), (.int .i64 p1_6)]⟩)] h R :=
  ABody_sound mixed Try.func26 Try.call26 (by kernel_rfl) (by kernel_rfl) (an := an26) (by rw [S26_eq]; exact hk)

/- slices.IndexFunc[[]palings/ssa.Ins,palings/ssa.Ins] -/
def an40 : An := (.two .nil (.two (.two .nil (.one (.loop [(8, (.one (.int .i64)))] (.two .nil (.two (.two .nil .nil) (.two (.one (.two .nil (.two .nil (.two (.two .nil .nil) .nil)))) .nil)))))) (.two .nil .nil)))
def S40 (p0 : Sl) (p1 : Value) (h : V) (R : Value → V → Prop) : Prop :=
  Lp (σ := (Int × Unit)) (fun K s h1 =>
  cond (decide (s.1 < (((p0.n : Nat) : Int))))
  (Ix p0 s.1 7 fun a14 =>
  LdA h1 a14 [(.int .i64), (.int .i64), .sl, (.int .i64), (.int .i64), (.int .i64), (.int .i64)] fun (x15 : ((Int) × (Int) × (Sl) × (Int) × (Int) × (Int) × (Int) × Unit)) =>
  CallV Try.prog p1 [(.agg ⟨[(.int .i64 x15.1), (.int .i64 x15.2.1), (.slice x15.2.2.1.a x15.2.2.1.n x15.2.2.1.c), (.int .i64 x15.2.2.2.1), (.int .i64 x15.2.2.2.2.1), (.int .i64 x15.2.2.2.2.2.1), (.int .i64 x15.2.2.2.2.2.2.1)]⟩)] h1 (.un (.one .bool)) fun (x16 : Bool) h2 =>
  cond x16
  (Wk h2 fun h3 => R (.int .i64 s.1) h3)
  (Wk h2 fun h4 => K (IntKind.wrap .i64 (s.1 + ((1 : Int))), ()) h4))
  (Wk h1 fun h5 => R (.int .i64 ((-1 : Int))) h5))
  ((0 : Int), ()) h
theorem S40_eq (p0 : Sl) (p1 : Value) (h : V) (R : Value → V → Prop) : ABody Try.prog an40 Try.f40 [(.slice p0.a p0.n p0.c), p1] h R = S40 p0 p1 h R := by kernel_rfl
theorem S40_ok (p0 : Sl) (p1 : Value) (h : V) (R : Value → V → Prop) (hk : S40 p0 p1 h R) : ACalls Try.prog 40 [(.slice p0.a p0.n p0.c), p1] h R :=
  ABody_sound mixed Try.func40 Try.call40 (by kernel_rfl) (by kernel_rfl) (an := an40) (by rw [S40_eq]; exact hk)

/- slices.Clone[[]int,int] -/
def an39 : An := (.two .nil (.two (.two .nil (.two (.two .nil .nil) .nil)) (.two .nil .nil)))
def S39 (p0 : Sl) (h : V) (R : Value → V → Prop) : Prop :=
  cond (Option.isNone p0.a)
  (Wk h fun h1 => R (.slice none 0 0) h1)
  (New h (.cells #[] 3) fun r5 h2 =>
  App h2 ⟨(some ⟨r5, 0, none⟩), 0, 0⟩ p0 3 1 8 [(.int .i64 ((0 : Int)))] fun s7 h3 =>
  Wk h3 fun h4 => R (.slice s7.a s7.n s7.c) h4)
theorem S39_eq (p0 : Sl) (h : V) (R : Value → V → Prop) : ABody Try.prog an39 Try.f39 [(.slice p0.a p0.n p0.c)] h R = S39 p0 h R := by kernel_rfl
theorem S39_ok (p0 : Sl) (h : V) (R : Value → V → Prop) (hk : S39 p0 h R) : ACalls Try.prog 39 [(.slice p0.a p0.n p0.c)] h R :=
  ABody_sound mixed Try.func39 Try.call39 (by kernel_rfl) (by kernel_rfl) (an := an39) (by rw [S39_eq]; exact hk)

/- (palings/ssa.Func).once -/
def an22 : An := (.two .nil (.two .nil (.two (.two .nil (.one (.loop [(15, (.one (.int .i64)))] (.two .nil (.two (.two .nil .nil) (.two (.one (.two .nil (.two .nil (.two (.two .nil (.one (.loop [(6, (.one .sl)), (25, (.one (.int .i64)))] (.two .nil (.two (.two .nil .nil) (.two (.one (.two .nil (.two .nil (.two .nil .nil)))) .nil)))))) (.two .nil (.one (.loop [(40, (.one (.int .i64)))] (.two .nil (.two (.two .nil .nil) (.two (.one (.two .nil (.two (.two .nil (.two (.two .nil .nil) .nil)) .nil))) .nil)))))))))) .nil)))))) (.two .nil .nil))))
def S22 (p0_0 : ByteArray) (p0_1 : Sl) (h : V) (R : Value → V → Prop) : Prop :=
  New h (.cells #[(.string p0_0), (.slice p0_1.a p0_1.n p0_1.c)] 46) fun r1 h1 =>
  New h1 (.map #[] 0) fun r11 h2 =>
  Ld h2 (Addr.add (⟨r1, 0, none⟩) 1) .sl fun (x13 : Sl) =>
  Lp (σ := (Int × Unit)) (fun K s h3 =>
  cond (decide (s.1 < (((x13.n : Nat) : Int))))
  (Ix x13 s.1 6 fun a17 =>
  LdA h3 a17 [.sl, .sl, (.int .i64), (.int .i64), .sl, (.int .i64)] fun (x18 : ((Sl) × (Sl) × (Int) × (Int) × (Sl) × (Int) × Unit)) =>
  New h3 (.cells #[(.slice none 0 0), (.slice none 0 0), (.int .i64 ((0 : Int))), (.int .i64 ((0 : Int))), (.slice none 0 0), (.int .i64 ((0 : Int)))] 55) fun r5 h4 =>
  StL h4 (⟨r5, 0, none⟩) 0 [(.slice x18.1.a x18.1.n x18.1.c), (.slice x18.2.1.a x18.2.1.n x18.2.1.c), (.int .i64 x18.2.2.1), (.int .i64 x18.2.2.2.1), (.slice x18.2.2.2.2.1.a x18.2.2.2.2.1.n x18.2.2.2.2.1.c), (.int .i64 x18.2.2.2.2.2.1)] fun h5 =>
  Ld h5 (Addr.add (⟨r5, 0, none⟩) 0) .sl fun (x20 : Sl) =>
  CallK Try.prog 39 [(.slice x20.a x20.n x20.c)] h5 (.un (.one .sl)) fun (x21 : Sl) h6 =>
  Ld h6 (Addr.add (⟨r5, 0, none⟩) 1) .sl fun (x23 : Sl) =>
  Lp (σ := (Sl × Int × Unit)) (fun K_1 s_1 h7 =>
  cond (decide (s_1.2.1 < (((x23.n : Nat) : Int))))
  (Ix x23 s_1.2.1 7 fun a27 =>
  LdA h7 a27 [(.int .i64), (.int .i64), .sl, (.int .i64), (.int .i64), (.int .i64), (.int .i64)] fun (x28 : ((Int) × (Int) × (Sl) × (Int) × (Int) × (Int) × (Int) × Unit)) =>
  New h7 (.cells #[(.int .i64 ((0 : Int))), (.int .i64 ((0 : Int))), (.slice none 0 0), (.int .i64 ((0 : Int))), (.int .i64 ((0 : Int))), (.int .i64 ((0 : Int))), (.int .i64 ((0 : Int)))] 60) fun r8 h8 =>
  StL h8 (⟨r8, 0, none⟩) 0 [(.int .i64 x28.1), (.int .i64 x28.2.1), (.slice x28.2.2.1.a x28.2.2.1.n x28.2.2.1.c), (.int .i64 x28.2.2.2.1), (.int .i64 x28.2.2.2.2.1), (.int .i64 x28.2.2.2.2.2.1), (.int .i64 x28.2.2.2.2.2.2.1)] fun h9 =>
  Ld h9 (Addr.add (⟨r8, 0, none⟩) 1) (.int .i64) fun (x30 : Int) =>
  cond (x30 != ((0 : Int)))
  (Ld h9 (Addr.add (⟨r8, 0, none⟩) 1) (.int .i64) fun (x34 : Int) =>
  New h9 (.cells #[(.int .i64 x34)] 3) fun r35 h10 =>
  App h10 s_1.1 ⟨(some ⟨r35, 0, none⟩), 1, 1⟩ 3 1 8 [(.int .i64 ((0 : Int)))] fun s36 h11 =>
  Wk h11 fun h12 => K_1 (s36, IntKind.wrap .i64 (s_1.2.1 + ((1 : Int))), ()) h12)
  (Wk h9 fun h13 => K_1 (s_1.1, IntKind.wrap .i64 (s_1.2.1 + ((1 : Int))), ()) h13))
  (Lp (σ := (Int × Unit)) (fun K_2 s_2 h14 =>
  cond (decide (s_2.1 < (((s_1.1.n : Nat) : Int))))
  (Ix s_1.1 s_2.1 1 fun a42 =>
  Ld h14 a42 (.int .i64) fun (x43 : Int) =>
  cond (decide (x43 ≤ ((0 : Int))))
  (Wk h14 fun h15 => R (.bool false) h15)
  (Look h14 ((some r11)) (.int .i64) (.int .i64 x43) (.one .bool) false fun (x49 : Bool) _ =>
  cond x49
  (Wk h14 fun h16 => R (.bool false) h16)
  (MUpd h14 ((some r11)) (.int .i64) (.int .i64 x43) (.bool true) fun h17 =>
  Wk h17 fun h18 => K_2 (IntKind.wrap .i64 (s_2.1 + ((1 : Int))), ()) h18)))
  (Wk h14 fun h19 => K (IntKind.wrap .i64 (s.1 + ((1 : Int))), ()) h19))
  ((0 : Int), ()) h7))
  (x21, (0 : Int), ()) h6)
  (Wk h3 fun h20 => R (.bool true) h20))
  ((0 : Int), ()) h2
theorem S22_eq (p0_0 : ByteArray) (p0_1 : Sl) (h : V) (R : Value → V → Prop) : ABody Try.prog an22 Try.f22 [(.agg ⟨[(.string p0_0), (.slice p0_1.a p0_1.n p0_1.c)]⟩)] h R = S22 p0_0 p0_1 h R := by kernel_rfl
theorem S22_ok (p0_0 : ByteArray) (p0_1 : Sl) (h : V) (R : Value → V → Prop) (hk : S22 p0_0 p0_1 h R) : ACalls Try.prog 22 [(.agg ⟨[(.string p0_0), (.slice p0_1.a p0_1.n p0_1.c)]⟩)] h R :=
  ABody_sound mixed Try.func22 Try.call22 (by kernel_rfl) (by kernel_rfl) (an := an22) (by rw [S22_eq]; exact hk)

/- (palings/ssa.Func).ends -/
def an23 : An := (.two .nil (.two .nil (.two .nil (.cut [] (.two .nil (.two (.two .nil .nil) .nil)) (.two (.two .nil (.one (.loop [(64, (.one (.int .i64)))] (.two .nil (.two (.two .nil .nil) (.two (.one (.two .nil (.two (.perm [0, 1, 2, 3, 4, 5, 6, 7, 8, 9, 10, 11, 12, 13, 14, 15, 16, 17, 18, 19, 20, 21, 22, 23, 24] []) (.two (.two .nil .nil) .nil)))) .nil)))))) (.two .nil .nil))))))
def S23 (p0_0 : ByteArray) (p0_1 : Sl) (p1_0 : Int) (p1_1 : Int) (p1_2 : Sl) (p1_3 : Int) (h : V) (R : Value → V → Prop) : Prop :=
  New h (.cells #[(.string p0_0), (.slice p0_1.a p0_1.n p0_1.c)] 46) fun r2 h1 =>
  New h1 (.cells #[(.int .i64 p1_0), (.int .i64 p1_1), (.slice p1_2.a p1_2.n p1_2.c), (.int .i64 p1_3)] 53) fun r3 h2 =>
  New h2 (.map #[] 0) fun r10 h3 =>
  MUpd h3 ((some r10)) (.int .i64) (.int .i64 ((1 : Int))) (.int .i64 ((1 : Int))) fun h4 =>
  MUpd h4 ((some r10)) (.int .i64) (.int .i64 ((2 : Int))) (.int .i64 ((2 : Int))) fun h5 =>
  MUpd h5 ((some r10)) (.int .i64) (.int .i64 ((3 : Int))) (.int .i64 ((0 : Int))) fun h6 =>
  MUpd h6 ((some r10)) (.int .i64) (.int .i64 ((4 : Int))) (.int .i64 ((0 : Int))) fun h7 =>
  Ld h7 (Addr.add (⟨r3, 0, none⟩) 0) (.int .i64) fun (x15 : Int) =>
  Look h7 ((some r10)) (.int .i64) (.int .i64 x15) (.one (.int .i64)) ((0 : Int)) fun (x16 : Int) b16 =>
  Cut (σ := (Unit)) (fun _ h8 =>
  Ld h8 (Addr.add (⟨r3, 0, none⟩) 2) .sl fun (x62 : Sl) =>
  Lp (σ := (Int × Unit)) (fun K s_1 h9 =>
  cond (decide (s_1.1 < (((x62.n : Nat) : Int))))
  (Ix x62 s_1.1 2 fun a66 =>
  LdA h9 a66 [(.int .i64), .sl] fun (x67 : ((Int) × (Sl) × Unit)) =>
  New h9 (.cells #[(.int .i64 ((0 : Int))), (.slice none 0 0)] 74) fun r9 h10 =>
  StL h10 (⟨r9, 0, none⟩) 0 [(.int .i64 x67.1), (.slice x67.2.1.a x67.2.1.n x67.2.1.c)] fun h11 =>
  Ld h11 (Addr.add (⟨r9, 0, none⟩) 0) (.int .i64) fun (x69 : Int) =>
  cond (decide (x69 < ((1 : Int))))
  (Wk h11 fun h12 => R (.bool false) h12)
  (Ld h11 (Addr.add (⟨r9, 0, none⟩) 0) (.int .i64) fun (x73 : Int) =>
  Ld h11 (Addr.add (⟨r2, 0, none⟩) 1) .sl fun (x75 : Sl) =>
  cond (decide (x73 ≥ (((x75.n : Nat) : Int))))
  (Wk h11 fun h13 => R (.bool false) h13)
  (Ld h11 (Addr.add (⟨r9, 0, none⟩) 1) .sl fun (x81 : Sl) =>
  Ld h11 (Addr.add (⟨r2, 0, none⟩) 1) .sl fun (x84 : Sl) =>
  Ld h11 (Addr.add (⟨r9, 0, none⟩) 0) (.int .i64) fun (x86 : Int) =>
  Ix x84 x86 6 fun a87 =>
  Ld h11 (Addr.add a87 0) .sl fun (x89 : Sl) =>
  cond ((((x81.n : Nat) : Int)) != (((x89.n : Nat) : Int)))
  (Wk h11 fun h14 => R (.bool false) h14)
  (Wk h11 fun h15 => K (IntKind.wrap .i64 (s_1.1 + ((1 : Int))), ()) h15))))
  (Wk h9 fun h16 => R (.bool true) h16))
  ((0 : Int), ()) h8) fun J =>
  cond (!b16)
  (Wk h7 fun h17 => R (.bool false) h17)
  (Ld h7 (Addr.add (⟨r3, 0, none⟩) 2) .sl fun (x23 : Sl) =>
  cond ((((x23.n : Nat) : Int)) != x16)
  (Wk h7 fun h18 => R (.bool false) h18)
  (Ld h7 (Addr.add (⟨r3, 0, none⟩) 0) (.int .i64) fun (x30 : Int) =>
  Ld h7 (Addr.add (⟨r3, 0, none⟩) 3) (.int .i64) fun (x33 : Int) =>
  cond (x33 == ((1 : Int)))
  (cond (!((x30 == ((4 : Int))) == true))
  (Wk h7 fun h19 => R (.bool false) h19)
  (Ld h7 (Addr.add (⟨r3, 0, none⟩) 0) (.int .i64) fun (x44 : Int) =>
  cond (x44 == ((2 : Int)))
  (Ld h7 (Addr.add (⟨r3, 0, none⟩) 1) (.int .i64) fun (x52 : Int) =>
  cond (!(true == (decide (x52 > ((0 : Int))))))
  (Wk h7 fun h20 => R (.bool false) h20)
  (Ld h7 (Addr.add (⟨r3, 0, none⟩) 1) (.int .i64) fun (x58 : Int) =>
  cond (decide (x58 < ((0 : Int))))
  (Wk h7 fun h21 => R (.bool false) h21)
  (Wk h7 fun h22 => J (()) h22)))
  (Ld h7 (Addr.add (⟨r3, 0, none⟩) 0) (.int .i64) fun (x48 : Int) =>
  Ld h7 (Addr.add (⟨r3, 0, none⟩) 1) (.int .i64) fun (x52_1 : Int) =>
  cond (!((x48 == ((3 : Int))) == (decide (x52_1 > ((0 : Int))))))
  (Wk h7 fun h23 => R (.bool false) h23)
  (Ld h7 (Addr.add (⟨r3, 0, none⟩) 1) (.int .i64) fun (x58_1 : Int) =>
  cond (decide (x58_1 < ((0 : Int))))
  (Wk h7 fun h24 => R (.bool false) h24)
  (Wk h7 fun h25 => J (()) h25)))))
  (Ld h7 (Addr.add (⟨r3, 0, none⟩) 3) (.int .i64) fun (x37 : Int) =>
  cond (!((x30 == ((4 : Int))) == (x37 == ((2 : Int)))))
  (Wk h7 fun h26 => R (.bool false) h26)
  (Ld h7 (Addr.add (⟨r3, 0, none⟩) 0) (.int .i64) fun (x44_1 : Int) =>
  cond (x44_1 == ((2 : Int)))
  (Ld h7 (Addr.add (⟨r3, 0, none⟩) 1) (.int .i64) fun (x52_2 : Int) =>
  cond (!(true == (decide (x52_2 > ((0 : Int))))))
  (Wk h7 fun h27 => R (.bool false) h27)
  (Ld h7 (Addr.add (⟨r3, 0, none⟩) 1) (.int .i64) fun (x58_2 : Int) =>
  cond (decide (x58_2 < ((0 : Int))))
  (Wk h7 fun h28 => R (.bool false) h28)
  (Wk h7 fun h29 => J (()) h29)))
  (Ld h7 (Addr.add (⟨r3, 0, none⟩) 0) (.int .i64) fun (x48_1 : Int) =>
  Ld h7 (Addr.add (⟨r3, 0, none⟩) 1) (.int .i64) fun (x52_3 : Int) =>
  cond (!((x48_1 == ((3 : Int))) == (decide (x52_3 > ((0 : Int))))))
  (Wk h7 fun h30 => R (.bool false) h30)
  (Ld h7 (Addr.add (⟨r3, 0, none⟩) 1) (.int .i64) fun (x58_3 : Int) =>
  cond (decide (x58_3 < ((0 : Int))))
  (Wk h7 fun h31 => R (.bool false) h31)
  (Wk h7 fun h32 => J (()) h32)))))))
theorem S23_eq (p0_0 : ByteArray) (p0_1 : Sl) (p1_0 : Int) (p1_1 : Int) (p1_2 : Sl) (p1_3 : Int) (h : V) (R : Value → V → Prop) : ABody Try.prog an23 Try.f23 [(.agg ⟨[(.string p0_0), (.slice p0_1.a p0_1.n p0_1.c)]⟩), (.agg ⟨[(.int .i64 p1_0), (.int .i64 p1_1), (.slice p1_2.a p1_2.n p1_2.c), (.int .i64 p1_3)]⟩)] h R = S23 p0_0 p0_1 p1_0 p1_1 p1_2 p1_3 h R := by kernel_rfl
theorem S23_ok (p0_0 : ByteArray) (p0_1 : Sl) (p1_0 : Int) (p1_1 : Int) (p1_2 : Sl) (p1_3 : Int) (h : V) (R : Value → V → Prop) (hk : S23 p0_0 p0_1 p1_0 p1_1 p1_2 p1_3 h R) : ACalls Try.prog 23 [(.agg ⟨[(.string p0_0), (.slice p0_1.a p0_1.n p0_1.c)]⟩), (.agg ⟨[(.int .i64 p1_0), (.int .i64 p1_1), (.slice p1_2.a p1_2.n p1_2.c), (.int .i64 p1_3)]⟩)] h R :=
  ABody_sound mixed Try.func23 Try.call23 (by kernel_rfl) (by kernel_rfl) (an := an23) (by rw [S23_eq]; exact hk)

/- palings/ssa.after -/
def an43 : An := (.two .nil (.two .nil (.two (.two .nil (.one (.loop [] (.two .nil (.two (.two .nil .nil) (.one (.two .nil .nil))))))) (.two (.two .nil (.one (.loop [(23, (.one (.int .i64)))] (.two .nil (.two (.two .nil .nil) (.two (.one (.two .nil .nil)) .nil)))))) (.two (.two .nil (.one (.loop [(33, (.one (.int .i64)))] (.two .nil (.two (.two .nil .nil) (.two (.one (.two .nil (.two .nil (.two .nil .nil)))) .nil)))))) (.two .nil .nil))))))
def S43 (p0 : Option Nat) (p1_0 : Sl) (p1_1 : Sl) (p1_2 : Int) (p1_3 : Int) (p1_4 : Sl) (p1_5 : Int) (h : V) (R : Value → V → Prop) : Prop :=
  New h (.cells #[(.slice p1_0.a p1_0.n p1_0.c), (.slice p1_1.a p1_1.n p1_1.c), (.int .i64 p1_2), (.int .i64 p1_3), (.slice p1_4.a p1_4.n p1_4.c), (.int .i64 p1_5)] 55) fun r3 h1 =>
  New h1 (.map #[] 0) fun r11 h2 =>
  Rng h2 p0 fun r13 h3 =>
  Lp (σ := (Unit)) (fun K _ h4 =>
  Nxt h4 r13 (fun _ _ h5 =>
  Ent h5 r13 fun k16 _ =>
  unK (.int .i64) k16 fun (x17 : Int) =>
  MUpd h5 ((some r11)) (.int .i64) (.int .i64 x17) (.bool true) fun h6 =>
  Wk h6 fun h7 => K (()) h7)
  (Ld h4 (Addr.add (⟨r3, 0, none⟩) 0) .sl fun (x21 : Sl) =>
  Lp (σ := (Int × Unit)) (fun K_1 s_1 h8 =>
  cond (decide (s_1.1 < (((x21.n : Nat) : Int))))
  (Ix x21 s_1.1 1 fun a25 =>
  Ld h8 a25 (.int .i64) fun (x26 : Int) =>
  MUpd h8 ((some r11)) (.int .i64) (.int .i64 x26) (.bool true) fun h9 =>
  Wk h9 fun h10 => K_1 (IntKind.wrap .i64 (s_1.1 + ((1 : Int))), ()) h10)
  (Ld h8 (Addr.add (⟨r3, 0, none⟩) 1) .sl fun (x31 : Sl) =>
  Lp (σ := (Int × Unit)) (fun K_2 s_2 h11 =>
  cond (decide (s_2.1 < (((x31.n : Nat) : Int))))
  (Ix x31 s_2.1 7 fun a35 =>
  LdA h11 a35 [(.int .i64), (.int .i64), .sl, (.int .i64), (.int .i64), (.int .i64), (.int .i64)] fun (x36 : ((Int) × (Int) × (Sl) × (Int) × (Int) × (Int) × (Int) × Unit)) =>
  New h11 (.cells #[(.int .i64 ((0 : Int))), (.int .i64 ((0 : Int))), (.slice none 0 0), (.int .i64 ((0 : Int))), (.int .i64 ((0 : Int))), (.int .i64 ((0 : Int))), (.int .i64 ((0 : Int)))] 60) fun r10 h12 =>
  StL h12 (⟨r10, 0, none⟩) 0 [(.int .i64 x36.1), (.int .i64 x36.2.1), (.slice x36.2.2.1.a x36.2.2.1.n x36.2.2.1.c), (.int .i64 x36.2.2.2.1), (.int .i64 x36.2.2.2.2.1), (.int .i64 x36.2.2.2.2.2.1), (.int .i64 x36.2.2.2.2.2.2.1)] fun h13 =>
  Ld h13 (Addr.add (⟨r10, 0, none⟩) 1) (.int .i64) fun (x38 : Int) =>
  cond (x38 != ((0 : Int)))
  (Ld h13 (Addr.add (⟨r10, 0, none⟩) 1) (.int .i64) fun (x42 : Int) =>
  MUpd h13 ((some r11)) (.int .i64) (.int .i64 x42) (.bool true) fun h14 =>
  Wk h14 fun h15 => K_2 (IntKind.wrap .i64 (s_2.1 + ((1 : Int))), ()) h15)
  (Wk h13 fun h16 => K_2 (IntKind.wrap .i64 (s_2.1 + ((1 : Int))), ()) h16))
  (Wk h11 fun h17 => R (.map ((some r11))) h17))
  ((0 : Int), ()) h8))
  ((0 : Int), ()) h4))
  (()) h3
theorem S43_eq (p0 : Option Nat) (p1_0 : Sl) (p1_1 : Sl) (p1_2 : Int) (p1_3 : Int) (p1_4 : Sl) (p1_5 : Int) (h : V) (R : Value → V → Prop) : ABody Try.prog an43 Try.f43 [(.map p0), (.agg ⟨[(.slice p1_0.a p1_0.n p1_0.c), (.slice p1_1.a p1_1.n p1_1.c), (.int .i64 p1_2), (.int .i64 p1_3), (.slice p1_4.a p1_4.n p1_4.c), (.int .i64 p1_5)]⟩)] h R = S43 p0 p1_0 p1_1 p1_2 p1_3 p1_4 p1_5 h R := by kernel_rfl
theorem S43_ok (p0 : Option Nat) (p1_0 : Sl) (p1_1 : Sl) (p1_2 : Int) (p1_3 : Int) (p1_4 : Sl) (p1_5 : Int) (h : V) (R : Value → V → Prop) (hk : S43 p0 p1_0 p1_1 p1_2 p1_3 p1_4 p1_5 h R) : ACalls Try.prog 43 [(.map p0), (.agg ⟨[(.slice p1_0.a p1_0.n p1_0.c), (.slice p1_1.a p1_1.n p1_1.c), (.int .i64 p1_2), (.int .i64 p1_3), (.slice p1_4.a p1_4.n p1_4.c), (.int .i64 p1_5)]⟩)] h R :=
  ABody_sound mixed Try.func43 Try.call43 (by kernel_rfl) (by kernel_rfl) (an := an43) (by rw [S43_eq]; exact hk)

/- palings/ssa.meet -/
def an44 : An := (.two .nil (.two (.two .nil (.two (.two .nil (.two .nil .nil)) .nil)) (.two .nil (.two (.two .nil (.one (.loop [(7, (.one .bool))] (.two .nil (.two (.two .nil .nil) (.one (.two .nil (.two .nil (.two (.two .nil .nil) .nil))))))))) (.two .nil .nil)))))
def S44 (p0 : Sl) (p1 : Int) (p2 : Option Nat) (h : V) (R : Value → V → Prop) : Prop :=
  Ix p0 p1 1 fun a11 =>
  Ld h a11 .mp fun (x12 : Option Nat) =>
  cond (Option.isNone x12)
  (Ix p0 p1 1 fun a17 =>
  StL h a17 0 [(.map p2)] fun h1 =>
  Wk h1 fun h2 => R (.bool true) h2)
  (Ix p0 p1 1 fun a20 =>
  Ld h a20 .mp fun (x21 : Option Nat) =>
  Rng h x21 fun r22 h3 =>
  Lp (σ := (Bool × Unit)) (fun K s h4 =>
  Nxt h4 r22 (fun _ _ h5 =>
  Ent h5 r22 fun k25 _ =>
  unK (.int .i64) k25 fun (x26 : Int) =>
  Look h5 p2 (.int .i64) (.int .i64 x26) (.one .bool) false fun (x29 : Bool) _ =>
  cond (!x29)
  (Ix p0 p1 1 fun a33 =>
  Ld h5 a33 .mp fun (x34 : Option Nat) =>
  MDel h5 x34 (.int .i64) (.int .i64 x26) fun h6 =>
  Wk h6 fun h7 => K (true, ()) h7)
  (Wk h5 fun h8 => K (s.1, ()) h8))
  (Wk h4 fun h9 => R (.bool s.1) h9))
  (false, ()) h3)
theorem S44_eq (p0 : Sl) (p1 : Int) (p2 : Option Nat) (h : V) (R : Value → V → Prop) : ABody Try.prog an44 Try.f44 [(.slice p0.a p0.n p0.c), (.int .i64 p1), (.map p2)] h R = S44 p0 p1 p2 h R := by kernel_rfl
theorem S44_ok (p0 : Sl) (p1 : Int) (p2 : Option Nat) (h : V) (R : Value → V → Prop) (hk : S44 p0 p1 p2 h R) : ACalls Try.prog 44 [(.slice p0.a p0.n p0.c), (.int .i64 p1), (.map p2)] h R :=
  ABody_sound mixed Try.func44 Try.call44 (by kernel_rfl) (by kernel_rfl) (an := an44) (by rw [S44_eq]; exact hk)

/- (palings/ssa.Func).known -/
def an27 : An := (.two .nil (.two .nil (.two .nil (.two (.two .nil (.one (.loop [(5, (.one .bool))] (.two (.two .nil (.two .nil .nil)) (.one (.two .nil (.two .nil (.one (.loop [(5, (.one .bool)), (21, (.one (.int .i64)))] (.two .nil (.two (.two .nil .nil) (.two (.one (.two .nil (.cut [] (.two .nil (.two .nil .nil)) (.cut [(5, (.one .bool))] (.two .nil (.two (.two .nil .nil) .nil)) (.two (.perm [0, 1, 2, 3, 4, 5, 6] []) (.two .nil (.one (.loop [(5, (.one .bool)), (61, (.one (.int .i64)))] (.two .nil (.two (.two .nil .nil) (.two (.one (.two .nil .nil)) .nil))))))))))) .nil)))))))))))) (.two .nil .nil)))))
def S27 (p0_0 : ByteArray) (p0_1 : Sl) (h : V) (R : Value → V → Prop) : Prop :=
  New h (.cells #[(.string p0_0), (.slice p0_1.a p0_1.n p0_1.c)] 46) fun r1 h1 =>
  Ld h1 (Addr.add (⟨r1, 0, none⟩) 1) .sl fun (x12 : Sl) =>
  MkSl h1 (((x12.n : Nat) : Int)) (((x12.n : Nat) : Int)) [(.map none)] 29 8 fun s14 h2 =>
  LdA h2 (⟨r1, 0, none⟩) [.str, .sl] fun (x15 : ((ByteArray) × (Sl) × Unit)) =>
  CallK Try.prog 19 [(.agg ⟨[(.string x15.1), (.slice x15.2.1.a x15.2.1.n x15.2.1.c)]⟩)] h2 (.un (.one .sl)) fun (x16 : Sl) h3 =>
  Lp (σ := (Bool × Unit)) (fun K s h4 =>
  cond s.1
  (Ld h4 (Addr.add (⟨r1, 0, none⟩) 1) .sl fun (x19 : Sl) =>
  Lp (σ := (Bool × Int × Unit)) (fun K_1 s_1 h5 =>
  cond (decide (s_1.2.1 < (((x19.n : Nat) : Int))))
  (Ix x19 s_1.2.1 6 fun a24 =>
  LdA h5 a24 [.sl, .sl, (.int .i64), (.int .i64), .sl, (.int .i64)] fun (x25 : ((Sl) × (Sl) × (Int) × (Int) × (Sl) × (Int) × Unit)) =>
  New h5 (.cells #[(.slice none 0 0), (.slice none 0 0), (.int .i64 ((0 : Int))), (.int .i64 ((0 : Int))), (.slice none 0 0), (.int .i64 ((0 : Int)))] 55) fun r7 h6 =>
  StL h6 (⟨r7, 0, none⟩) 0 [(.slice x25.1.a x25.1.n x25.1.c), (.slice x25.2.1.a x25.2.1.n x25.2.1.c), (.int .i64 x25.2.2.1), (.int .i64 x25.2.2.2.1), (.slice x25.2.2.2.2.1.a x25.2.2.2.2.1.n x25.2.2.2.2.1.c), (.int .i64 x25.2.2.2.2.2.1)] fun h7 =>
  Cut (σ := (Unit)) (fun _ h8 =>
  Cut (σ := (Bool × Unit)) (fun s_3 h9 =>
  Ix s14 s_1.2.1 1 fun a53 =>
  Ld h9 a53 .mp fun (x54 : Option Nat) =>
  LdA h9 (⟨r7, 0, none⟩) [.sl, .sl, (.int .i64), (.int .i64), .sl, (.int .i64)] fun (x55 : ((Sl) × (Sl) × (Int) × (Int) × (Sl) × (Int) × Unit)) =>
  CallK Try.prog 43 [(.map x54), (.agg ⟨[(.slice x55.1.a x55.1.n x55.1.c), (.slice x55.2.1.a x55.2.1.n x55.2.1.c), (.int .i64 x55.2.2.1), (.int .i64 x55.2.2.2.1), (.slice x55.2.2.2.2.1.a x55.2.2.2.2.1.n x55.2.2.2.2.1.c), (.int .i64 x55.2.2.2.2.2.1)]⟩)] h9 (.un (.one .mp)) fun (x56 : Option Nat) h10 =>
  Ld h10 (Addr.add (Addr.add (⟨r7, 0, none⟩) 2) 2) .sl fun (x59 : Sl) =>
  Lp (σ := (Bool × Int × Unit)) (fun K_2 s_4 h11 =>
  cond (decide (s_4.2.1 < (((x59.n : Nat) : Int))))
  (Ix x59 s_4.2.1 2 fun a63 =>
  LdA h11 a63 [(.int .i64), .sl] fun (x64 : ((Int) × (Sl) × Unit)) =>
  New h11 (.cells #[(.int .i64 ((0 : Int))), (.slice none 0 0)] 74) fun r10 h12 =>
  StL h12 (⟨r10, 0, none⟩) 0 [(.int .i64 x64.1), (.slice x64.2.1.a x64.2.1.n x64.2.1.c)] fun h13 =>
  Ld h13 (Addr.add (⟨r10, 0, none⟩) 0) (.int .i64) fun (x67 : Int) =>
  CallK Try.prog 44 [(.slice s14.a s14.n s14.c), (.int .i64 x67), (.map x56)] h13 (.un (.one .bool)) fun (x69 : Bool) h14 =>
  cond x69
  (Wk h14 fun h15 => K_2 (true, IntKind.wrap .i64 (s_4.2.1 + ((1 : Int))), ()) h15)
  (Wk h14 fun h16 => K_2 (s_4.1, IntKind.wrap .i64 (s_4.2.1 + ((1 : Int))), ()) h16))
  (Wk h11 fun h17 => K_1 (s_4.1, IntKind.wrap .i64 (s_1.2.1 + ((1 : Int))), ()) h17))
  (s_3.1, (0 : Int), ()) h10) fun J_1 =>
  Ix s14 s_1.2.1 1 fun a44 =>
  Ld h8 a44 .mp fun (x45 : Option Nat) =>
  cond (Option.isNone x45)
  (New h8 (.map #[] 0) fun r49 h18 =>
  Ix s14 s_1.2.1 1 fun a50 =>
  StL h18 a50 0 [(.map ((some r49)))] fun h19 =>
  Wk h19 fun h20 => J_1 (true, ()) h20)
  (Wk h8 fun h21 => J_1 (s_1.1, ()) h21)) fun J =>
  Ix x16 s_1.2.1 1 fun a28 =>
  Ld h7 a28 .bool fun (x29 : Bool) =>
  cond (!x29)
  (Wk h7 fun h22 => K_1 (s_1.1, IntKind.wrap .i64 (s_1.2.1 + ((1 : Int))), ()) h22)
  (cond (decide (s_1.2.1 > ((0 : Int))))
  (Ix s14 s_1.2.1 1 fun a37 =>
  Ld h7 a37 .mp fun (x38 : Option Nat) =>
  cond (Option.isNone x38)
  (Wk h7 fun h23 => K_1 (s_1.1, IntKind.wrap .i64 (s_1.2.1 + ((1 : Int))), ()) h23)
  (Wk h7 fun h24 => J (()) h24))
  (Wk h7 fun h25 => J (()) h25)))
  (Wk h5 fun h26 => K (s_1.1, ()) h26))
  (false, (0 : Int), ()) h4)
  (Wk h4 fun h27 => R (.slice s14.a s14.n s14.c) h27))
  (true, ()) h3
theorem S27_eq (p0_0 : ByteArray) (p0_1 : Sl) (h : V) (R : Value → V → Prop) : ABody Try.prog an27 Try.f27 [(.agg ⟨[(.string p0_0), (.slice p0_1.a p0_1.n p0_1.c)]⟩)] h R = S27 p0_0 p0_1 h R := by kernel_rfl
theorem S27_ok (p0_0 : ByteArray) (p0_1 : Sl) (h : V) (R : Value → V → Prop) (hk : S27 p0_0 p0_1 h R) : ACalls Try.prog 27 [(.agg ⟨[(.string p0_0), (.slice p0_1.a p0_1.n p0_1.c)]⟩)] h R :=
  ABody_sound mixed Try.func27 Try.call27 (by kernel_rfl) (by kernel_rfl) (an := an27) (by rw [S27_eq]; exact hk)

/- palings/ssa.used -/
def an28 : An := (.two .nil (.two .nil (.two (.two .nil (.one (.loop [] (.two .nil (.two (.two .nil .nil) (.one (.two .nil .nil))))))) (.two (.two .nil (.one (.loop [(26, (.one (.int .i64)))] (.two .nil (.two (.two .nil .nil) (.two (.one (.two .nil .nil)) .nil)))))) (.two .nil (.two (.two .nil (.one (.loop [(37, (.one (.int .i64)))] (.two .nil (.two (.two .nil .nil) (.two (.one (.two .nil (.two (.two .nil (.two (.two .nil .nil) .nil)) (.two .nil (.two .nil .nil))))) .nil)))))) (.two (.two .nil (.one (.loop [(57, (.one (.int .i64)))] (.two .nil (.two (.two .nil .nil) (.two (.one (.two .nil (.two .nil (.two (.two .nil .nil) .nil)))) .nil)))))) (.two .nil .nil))))))))
def S28 (p0 : Option Nat) (p1_0 : Sl) (p1_1 : Sl) (p1_2 : Int) (p1_3 : Int) (p1_4 : Sl) (p1_5 : Int) (h : V) (R : Value → V → Prop) : Prop :=
  New h (.cells #[(.slice p1_0.a p1_0.n p1_0.c), (.slice p1_1.a p1_1.n p1_1.c), (.int .i64 p1_2), (.int .i64 p1_3), (.slice p1_4.a p1_4.n p1_4.c), (.int .i64 p1_5)] 55) fun r3 h1 =>
  New h1 (.map #[] 0) fun r14 h2 =>
  New h2 (.cells #[(.map none)] 29) fun r5 h3 =>
  StL h3 (⟨r5, 0, none⟩) 0 [(.map ((some r14)))] fun h4 =>
  Rng h4 p0 fun r16 h5 =>
  Lp (σ := (Unit)) (fun K _ h6 =>
  Nxt h6 r16 (fun _ _ h7 =>
  Ent h7 r16 fun k19 _ =>
  unK (.int .i64) k19 fun (x20 : Int) =>
  Ld h7 (⟨r5, 0, none⟩) .mp fun (x21 : Option Nat) =>
  MUpd h7 x21 (.int .i64) (.int .i64 x20) (.bool true) fun h8 =>
  Wk h8 fun h9 => K (()) h9)
  (Ld h6 (Addr.add (⟨r3, 0, none⟩) 0) .sl fun (x24 : Sl) =>
  Lp (σ := (Int × Unit)) (fun K_1 s_1 h10 =>
  cond (decide (s_1.1 < (((x24.n : Nat) : Int))))
  (Ix x24 s_1.1 1 fun a28 =>
  Ld h10 a28 (.int .i64) fun (x29 : Int) =>
  Ld h10 (⟨r5, 0, none⟩) .mp fun (x30 : Option Nat) =>
  MUpd h10 x30 (.int .i64) (.int .i64 x29) (.bool true) fun h11 =>
  Wk h11 fun h12 => K_1 (IntKind.wrap .i64 (s_1.1 + ((1 : Int))), ()) h12)
  (Ld h10 (Addr.add (⟨r3, 0, none⟩) 1) .sl fun (x35 : Sl) =>
  Lp (σ := (Int × Unit)) (fun K_2 s_2 h13 =>
  cond (decide (s_2.1 < (((x35.n : Nat) : Int))))
  (Ix x35 s_2.1 7 fun a39 =>
  LdA h13 a39 [(.int .i64), (.int .i64), .sl, (.int .i64), (.int .i64), (.int .i64), (.int .i64)] fun (x40 : ((Int) × (Int) × (Sl) × (Int) × (Int) × (Int) × (Int) × Unit)) =>
  New h13 (.cells #[(.int .i64 ((0 : Int))), (.int .i64 ((0 : Int))), (.slice none 0 0), (.int .i64 ((0 : Int))), (.int .i64 ((0 : Int))), (.int .i64 ((0 : Int))), (.int .i64 ((0 : Int)))] 60) fun r11 h14 =>
  StL h14 (⟨r11, 0, none⟩) 0 [(.int .i64 x40.1), (.int .i64 x40.2.1), (.slice x40.2.2.1.a x40.2.2.1.n x40.2.2.1.c), (.int .i64 x40.2.2.2.1), (.int .i64 x40.2.2.2.2.1), (.int .i64 x40.2.2.2.2.2.1), (.int .i64 x40.2.2.2.2.2.2.1)] fun h15 =>
  Ld h15 (Addr.add (⟨r11, 0, none⟩) 2) .sl fun (x43 : Sl) =>
  CallV Try.prog (.func (.func 45) ⟨[]⟩ ⟨[(.pointer (some (⟨r5, 0, none⟩)))]⟩) [(.slice x43.a x43.n x43.c)] h15 (.un (.one .bool)) fun (x44 : Bool) h16 =>
  cond (!x44)
  (Wk h16 fun h17 => R (.bool false) h17)
  (Ld h16 (Addr.add (⟨r11, 0, none⟩) 1) (.int .i64) fun (x47 : Int) =>
  cond (x47 != ((0 : Int)))
  (Ld h16 (⟨r5, 0, none⟩) .mp fun (x49 : Option Nat) =>
  Ld h16 (Addr.add (⟨r11, 0, none⟩) 1) (.int .i64) fun (x51 : Int) =>
  MUpd h16 x49 (.int .i64) (.int .i64 x51) (.bool true) fun h18 =>
  Wk h18 fun h19 => K_2 (IntKind.wrap .i64 (s_2.1 + ((1 : Int))), ()) h19)
  (Wk h16 fun h20 => K_2 (IntKind.wrap .i64 (s_2.1 + ((1 : Int))), ()) h20)))
  (Ld h13 (Addr.add (Addr.add (⟨r3, 0, none⟩) 2) 2) .sl fun (x55 : Sl) =>
  Lp (σ := (Int × Unit)) (fun K_3 s_3 h21 =>
  cond (decide (s_3.1 < (((x55.n : Nat) : Int))))
  (Ix x55 s_3.1 2 fun a59 =>
  LdA h21 a59 [(.int .i64), .sl] fun (x60 : ((Int) × (Sl) × Unit)) =>
  New h21 (.cells #[(.int .i64 ((0 : Int))), (.slice none 0 0)] 74) fun r13 h22 =>
  StL h22 (⟨r13, 0, none⟩) 0 [(.int .i64 x60.1), (.slice x60.2.1.a x60.2.1.n x60.2.1.c)] fun h23 =>
  Ld h23 (Addr.add (⟨r13, 0, none⟩) 1) .sl fun (x63 : Sl) =>
  CallV Try.prog (.func (.func 45) ⟨[]⟩ ⟨[(.pointer (some (⟨r5, 0, none⟩)))]⟩) [(.slice x63.a x63.n x63.c)] h23 (.un (.one .bool)) fun (x64 : Bool) h24 =>
  cond (!x64)
  (Wk h24 fun h25 => R (.bool false) h25)
  (Wk h24 fun h26 => K_3 (IntKind.wrap .i64 (s_3.1 + ((1 : Int))), ()) h26))
  (Ld h21 (Addr.add (Addr.add (⟨r3, 0, none⟩) 2) 1) (.int .i64) fun (x69 : Int) =>
  cond (x69 == ((0 : Int)))
  (Wk h21 fun h27 => R (.bool true) h27)
  (Ld h21 (⟨r5, 0, none⟩) .mp fun (x72 : Option Nat) =>
  Ld h21 (Addr.add (Addr.add (⟨r3, 0, none⟩) 2) 1) (.int .i64) fun (x75 : Int) =>
  Look h21 x72 (.int .i64) (.int .i64 x75) (.one .bool) false fun (x76 : Bool) _ =>
  Wk h21 fun h28 => R (.bool x76) h28)))
  ((0 : Int), ()) h13))
  ((0 : Int), ()) h10))
  ((0 : Int), ()) h6))
  (()) h5
theorem S28_eq (p0 : Option Nat) (p1_0 : Sl) (p1_1 : Sl) (p1_2 : Int) (p1_3 : Int) (p1_4 : Sl) (p1_5 : Int) (h : V) (R : Value → V → Prop) : ABody Try.prog an28 Try.f28 [(.map p0), (.agg ⟨[(.slice p1_0.a p1_0.n p1_0.c), (.slice p1_1.a p1_1.n p1_1.c), (.int .i64 p1_2), (.int .i64 p1_3), (.slice p1_4.a p1_4.n p1_4.c), (.int .i64 p1_5)]⟩)] h R = S28 p0 p1_0 p1_1 p1_2 p1_3 p1_4 p1_5 h R := by kernel_rfl
theorem S28_ok (p0 : Option Nat) (p1_0 : Sl) (p1_1 : Sl) (p1_2 : Int) (p1_3 : Int) (p1_4 : Sl) (p1_5 : Int) (h : V) (R : Value → V → Prop) (hk : S28 p0 p1_0 p1_1 p1_2 p1_3 p1_4 p1_5 h R) : ACalls Try.prog 28 [(.map p0), (.agg ⟨[(.slice p1_0.a p1_0.n p1_0.c), (.slice p1_1.a p1_1.n p1_1.c), (.int .i64 p1_2), (.int .i64 p1_3), (.slice p1_4.a p1_4.n p1_4.c), (.int .i64 p1_5)]⟩)] h R :=
  ABody_sound mixed Try.func28 Try.call28 (by kernel_rfl) (by kernel_rfl) (an := an28) (by rw [S28_eq]; exact hk)

/- palings/ssa.used.1 -/
def an45 : An := (.two .nil (.two .nil .nil))
def S45 (p0 : Sl) (c0 : Addr) (h : V) (R : Value → V → Prop) : Prop :=
  CallK Try.prog 46 [(.slice p0.a p0.n p0.c), (.func (.func 47) ⟨[]⟩ ⟨[(.pointer (some c0))]⟩)] h (.un (.one .bool)) fun (x6 : Bool) h1 =>
  Wk h1 fun h2 => R (.bool (!x6)) h2
theorem S45_eq (p0 : Sl) (c0 : Addr) (h : V) (R : Value → V → Prop) : ABody Try.prog an45 Try.f45 [(.slice p0.a p0.n p0.c), (.pointer (some c0))] h R = S45 p0 c0 h R := by kernel_rfl
theorem S45_ok (p0 : Sl) (c0 : Addr) (h : V) (R : Value → V → Prop) (hk : S45 p0 c0 h R) : ACalls Try.prog 45 [(.slice p0.a p0.n p0.c), (.pointer (some c0))] h R :=
  ABody_sound mixed Try.func45 Try.call45 (by kernel_rfl) (by kernel_rfl) (an := an45) (by rw [S45_eq]; exact hk)

/- slices.ContainsFunc[[]int,int] -/
def an46 : An := (.two .nil (.two .nil .nil))
def S46 (p0 : Sl) (p1 : Value) (h : V) (R : Value → V → Prop) : Prop :=
  CallK Try.prog 53 [(.slice p0.a p0.n p0.c), p1] h (.un (.one (.int .i64))) fun (x7 : Int) h1 =>
  Wk h1 fun h2 => R (.bool (decide (x7 ≥ ((0 : Int))))) h2
theorem S46_eq (p0 : Sl) (p1 : Value) (h : V) (R : Value → V → Prop) : ABody Try.prog an46 Try.f46 [(.slice p0.a p0.n p0.c), p1] h R = S46 p0 p1 h R := by kernel_rfl
theorem S46_ok (p0 : Sl) (p1 : Value) (h : V) (R : Value → V → Prop) (hk : S46 p0 p1 h R) : ACalls Try.prog 46 [(.slice p0.a p0.n p0.c), p1] h R :=
  ABody_sound mixed Try.func46 Try.call46 (by kernel_rfl) (by kernel_rfl) (an := an46) (by rw [S46_eq]; exact hk)

/- palings/ssa.used.1.1 -/
def an47 : An := (.two .nil (.two .nil .nil))
def S47 (p0 : Int) (c0 : Addr) (h : V) (R : Value → V → Prop) : Prop :=
  Ld h c0 .mp fun (x4 : Option Nat) =>
  Look h x4 (.int .i64) (.int .i64 p0) (.one .bool) false fun (x6 : Bool) _ =>
  Wk h fun h1 => R (.bool (!x6)) h1
theorem S47_eq (p0 : Int) (c0 : Addr) (h : V) (R : Value → V → Prop) : ABody Try.prog an47 Try.f47 [(.int .i64 p0), (.pointer (some c0))] h R = S47 p0 c0 h R := by kernel_rfl
theorem S47_ok (p0 : Int) (c0 : Addr) (h : V) (R : Value → V → Prop) (hk : S47 p0 c0 h R) : ACalls Try.prog 47 [(.int .i64 p0), (.pointer (some c0))] h R :=
  ABody_sound mixed Try.func47 Try.call47 (by kernel_rfl) (by kernel_rfl) (an := an47) (by rw [S47_eq]; exact hk)

/- slices.IndexFunc[[]int,int] -/
def an53 : An := (.two .nil (.two (.two .nil (.one (.loop [(8, (.one (.int .i64)))] (.two .nil (.two (.two .nil .nil) (.two (.one (.two .nil (.two .nil (.two (.two .nil .nil) .nil)))) .nil)))))) (.two .nil .nil)))
def S53 (p0 : Sl) (p1 : Value) (h : V) (R : Value → V → Prop) : Prop :=
  Lp (σ := (Int × Unit)) (fun K s h1 =>
  cond (decide (s.1 < (((p0.n : Nat) : Int))))
  (Ix p0 s.1 1 fun a14 =>
  Ld h1 a14 (.int .i64) fun (x15 : Int) =>
  CallV Try.prog p1 [(.int .i64 x15)] h1 (.un (.one .bool)) fun (x16 : Bool) h2 =>
  cond x16
  (Wk h2 fun h3 => R (.int .i64 s.1) h3)
  (Wk h2 fun h4 => K (IntKind.wrap .i64 (s.1 + ((1 : Int))), ()) h4))
  (Wk h1 fun h5 => R (.int .i64 ((-1 : Int))) h5))
  ((0 : Int), ()) h
theorem S53_eq (p0 : Sl) (p1 : Value) (h : V) (R : Value → V → Prop) : ABody Try.prog an53 Try.f53 [(.slice p0.a p0.n p0.c), p1] h R = S53 p0 p1 h R := by kernel_rfl
theorem S53_ok (p0 : Sl) (p1 : Value) (h : V) (R : Value → V → Prop) (hk : S53 p0 p1 h R) : ACalls Try.prog 53 [(.slice p0.a p0.n p0.c), p1] h R :=
  ABody_sound mixed Try.func53 Try.call53 (by kernel_rfl) (by kernel_rfl) (an := an53) (by rw [S53_eq]; exact hk)

/- (palings/ssa.Prog).Check -/
def an10 : An := (.two .nil (.two (.two .nil (.one (.loop [(14, (.one (.int .i64)))] (.two .nil (.two (.two .nil .nil) (.two (.one (.two .nil (.two .nil (.two (.two .nil .nil) .nil)))) .nil)))))) (.cut [] (.two .nil (.two (.two .nil .nil) .nil)) (.two (.two .nil (.one (.loop [(62, (.one (.int .i64)))] (.two .nil (.two (.two .nil .nil) (.two (.one (.two .nil (.cut [] (.two .nil (.two (.two .nil .nil) .nil)) (.two (.two .nil (.one (.loop [(84, (.one (.int .i64)))] (.two .nil (.two (.two .nil .nil) (.two (.one (.two .nil (.two .nil (.two (.two .nil .nil) .nil)))) .nil)))))) (.two .nil (.one (.loop [(103, (.one (.int .i64)))] (.two .nil (.two (.two .nil .nil) (.two (.one (.two .nil (.two .nil (.two (.two .nil .nil) .nil)))) .nil)))))))))) .nil)))))) (.two .nil .nil)))))
def S10 (p0_0 : Sl) (p0_1 : Sl) (p0_2 : Int) (h : V) (R : Value → V → Prop) : Prop :=
  New h (.cells #[(.slice p0_0.a p0_0.n p0_0.c), (.slice p0_1.a p0_1.n p0_1.c), (.int .i64 p0_2)] 25) fun r1 h1 =>
  Ld h1 (Addr.add (⟨r1, 0, none⟩) 0) .sl fun (x12 : Sl) =>
  Lp (σ := (Int × Unit)) (fun K s h2 =>
  cond (decide (s.1 < (((x12.n : Nat) : Int))))
  (Ix x12 s.1 3 fun a16 =>
  LdA h2 a16 [.str, (.int .i64), (.int .i64)] fun (x17 : ((ByteArray) × (Int) × (Int) × Unit)) =>
  New h2 (.cells #[(.string (⟨#[]⟩)), (.int .i64 ((0 : Int))), (.int .i64 ((0 : Int)))] 66) fun r4 h3 =>
  StL h3 (⟨r4, 0, none⟩) 0 [(.string x17.1), (.int .i64 x17.2.1), (.int .i64 x17.2.2.1)] fun h4 =>
  Ld h4 (Addr.add (⟨r4, 0, none⟩) 2) (.int .i64) fun (x19 : Int) =>
  cond (decide (x19 < ((0 : Int))))
  (Wk h4 fun h5 => R (.int .i64 ((40 : Int))) h5)
  (Ld h4 (Addr.add (⟨r4, 0, none⟩) 2) (.int .i64) fun (x23 : Int) =>
  cond (decide (x23 > ((4096 : Int))))
  (Wk h4 fun h6 => R (.int .i64 ((40 : Int))) h6)
  (Ld h4 (Addr.add (⟨r4, 0, none⟩) 1) (.int .i64) fun (x28 : Int) =>
  cond (decide (x28 < ((0 : Int))))
  (Wk h4 fun h7 => R (.int .i64 ((40 : Int))) h7)
  (Ld h4 (Addr.add (⟨r4, 0, none⟩) 1) (.int .i64) fun (x33 : Int) =>
  cond (decide (x33 > ((2 : Int))))
  (Wk h4 fun h8 => R (.int .i64 ((40 : Int))) h8)
  (Wk h4 fun h9 => K (IntKind.wrap .i64 (s.1 + ((1 : Int))), ()) h9)))))
  (Cut (σ := (Unit)) (fun _ h10 =>
  Ld h10 (Addr.add (⟨r1, 0, none⟩) 1) .sl fun (x60 : Sl) =>
  Lp (σ := (Int × Unit)) (fun K_1 s_2 h11 =>
  cond (decide (s_2.1 < (((x60.n : Nat) : Int))))
  (Ix x60 s_2.1 2 fun a64 =>
  LdA h11 a64 [.str, .sl] fun (x65 : ((ByteArray) × (Sl) × Unit)) =>
  New h11 (.cells #[(.string (⟨#[]⟩)), (.slice none 0 0)] 46) fun r6 h12 =>
  StL h12 (⟨r6, 0, none⟩) 0 [(.string x65.1), (.slice x65.2.1.a x65.2.1.n x65.2.1.c)] fun h13 =>
  Cut (σ := (Unit)) (fun _ h14 =>
  Ld h14 (Addr.add (⟨r6, 0, none⟩) 1) .sl fun (x82 : Sl) =>
  Lp (σ := (Int × Unit)) (fun K_2 s_4 h15 =>
  cond (decide (s_4.1 < (((x82.n : Nat) : Int))))
  (Ix x82 s_4.1 6 fun a86 =>
  LdA h15 a86 [.sl, .sl, (.int .i64), (.int .i64), .sl, (.int .i64)] fun (x87 : ((Sl) × (Sl) × (Int) × (Int) × (Sl) × (Int) × Unit)) =>
  New h15 (.cells #[(.slice none 0 0), (.slice none 0 0), (.int .i64 ((0 : Int))), (.int .i64 ((0 : Int))), (.slice none 0 0), (.int .i64 ((0 : Int)))] 55) fun r8 h16 =>
  StL h16 (⟨r8, 0, none⟩) 0 [(.slice x87.1.a x87.1.n x87.1.c), (.slice x87.2.1.a x87.2.1.n x87.2.1.c), (.int .i64 x87.2.2.1), (.int .i64 x87.2.2.2.1), (.slice x87.2.2.2.2.1.a x87.2.2.2.2.1.n x87.2.2.2.2.1.c), (.int .i64 x87.2.2.2.2.2.1)] fun h17 =>
  LdA h17 (⟨r6, 0, none⟩) [.str, .sl] fun (x88 : ((ByteArray) × (Sl) × Unit)) =>
  LdA h17 (Addr.add (⟨r8, 0, none⟩) 2) [(.int .i64), (.int .i64), .sl, (.int .i64)] fun (x90 : ((Int) × (Int) × (Sl) × (Int) × Unit)) =>
  CallK Try.prog 23 [(.agg ⟨[(.string x88.1), (.slice x88.2.1.a x88.2.1.n x88.2.1.c)]⟩), (.agg ⟨[(.int .i64 x90.1), (.int .i64 x90.2.1), (.slice x90.2.2.1.a x90.2.2.1.n x90.2.2.1.c), (.int .i64 x90.2.2.2.1)]⟩)] h17 (.un (.one .bool)) fun (x91 : Bool) h18 =>
  cond (!x91)
  (Wk h18 fun h19 => R (.int .i64 ((40 : Int))) h19)
  (Ld h18 (Addr.add (⟨r8, 0, none⟩) 1) .sl fun (x95 : Sl) =>
  CallK Try.prog 24 [(.slice x95.a x95.n x95.c), (.func (.func 25) ⟨[]⟩ ⟨[(.pointer (some (⟨r1, 0, none⟩)))]⟩)] h18 (.un (.one .bool)) fun (x97 : Bool) h20 =>
  cond x97
  (Wk h20 fun h21 => R (.int .i64 ((40 : Int))) h21)
  (Wk h20 fun h22 => K_2 (IntKind.wrap .i64 (s_4.1 + ((1 : Int))), ()) h22)))
  (LdA h15 (⟨r6, 0, none⟩) [.str, .sl] fun (x100 : ((ByteArray) × (Sl) × Unit)) =>
  CallK Try.prog 27 [(.agg ⟨[(.string x100.1), (.slice x100.2.1.a x100.2.1.n x100.2.1.c)]⟩)] h15 (.un (.one .sl)) fun (x101 : Sl) h23 =>
  Lp (σ := (Int × Unit)) (fun K_3 s_5 h24 =>
  cond (decide (s_5.1 < (((x101.n : Nat) : Int))))
  (Ix x101 s_5.1 1 fun a106 =>
  Ld h24 a106 .mp fun (x107 : Option Nat) =>
  cond (!(Option.isNone x107))
  (Ld h24 (Addr.add (⟨r6, 0, none⟩) 1) .sl fun (x113 : Sl) =>
  Ix x113 s_5.1 6 fun a115 =>
  LdA h24 a115 [.sl, .sl, (.int .i64), (.int .i64), .sl, (.int .i64)] fun (x116 : ((Sl) × (Sl) × (Int) × (Int) × (Sl) × (Int) × Unit)) =>
  CallK Try.prog 28 [(.map x107), (.agg ⟨[(.slice x116.1.a x116.1.n x116.1.c), (.slice x116.2.1.a x116.2.1.n x116.2.1.c), (.int .i64 x116.2.2.1), (.int .i64 x116.2.2.2.1), (.slice x116.2.2.2.2.1.a x116.2.2.2.2.1.n x116.2.2.2.2.1.c), (.int .i64 x116.2.2.2.2.2.1)]⟩)] h24 (.un (.one .bool)) fun (x117 : Bool) h25 =>
  cond (!x117)
  (Wk h25 fun h26 => R (.int .i64 ((40 : Int))) h26)
  (Wk h25 fun h27 => K_3 (IntKind.wrap .i64 (s_5.1 + ((1 : Int))), ()) h27))
  (Wk h24 fun h28 => K_3 (IntKind.wrap .i64 (s_5.1 + ((1 : Int))), ()) h28))
  (Wk h24 fun h29 => K_1 (IntKind.wrap .i64 (s_2.1 + ((1 : Int))), ()) h29))
  ((0 : Int), ()) h23))
  ((0 : Int), ()) h14) fun J_1 =>
  Ld h13 (Addr.add (⟨r6, 0, none⟩) 1) .sl fun (x67 : Sl) =>
  cond ((((x67.n : Nat) : Int)) == ((0 : Int)))
  (Wk h13 fun h30 => R (.int .i64 ((40 : Int))) h30)
  (LdA h13 (⟨r6, 0, none⟩) [.str, .sl] fun (x71 : ((ByteArray) × (Sl) × Unit)) =>
  CallK Try.prog 21 [(.agg ⟨[(.string x71.1), (.slice x71.2.1.a x71.2.1.n x71.2.1.c)]⟩)] h13 (.un (.one .sl)) fun (x72 : Sl) h31 =>
  cond (decide ((((x72.n : Nat) : Int)) > ((6 : Int))))
  (Wk h31 fun h32 => R (.int .i64 ((40 : Int))) h32)
  (LdA h31 (⟨r6, 0, none⟩) [.str, .sl] fun (x77 : ((ByteArray) × (Sl) × Unit)) =>
  CallK Try.prog 22 [(.agg ⟨[(.string x77.1), (.slice x77.2.1.a x77.2.1.n x77.2.1.c)]⟩)] h31 (.un (.one .bool)) fun (x78 : Bool) h33 =>
  cond (!x78)
  (Wk h33 fun h34 => R (.int .i64 ((40 : Int))) h34)
  (Wk h33 fun h35 => J_1 (()) h35))))
  (Wk h11 fun h36 => R (.int .i64 ((0 : Int))) h36))
  ((0 : Int), ()) h10) fun J =>
  Ld h2 (Addr.add (⟨r1, 0, none⟩) 2) (.int .i64) fun (x38 : Int) =>
  cond (decide (x38 < ((0 : Int))))
  (Wk h2 fun h37 => R (.int .i64 ((40 : Int))) h37)
  (Ld h2 (Addr.add (⟨r1, 0, none⟩) 2) (.int .i64) fun (x42 : Int) =>
  Ld h2 (Addr.add (⟨r1, 0, none⟩) 1) .sl fun (x44 : Sl) =>
  cond (decide (x42 ≥ (((x44.n : Nat) : Int))))
  (Wk h2 fun h38 => R (.int .i64 ((40 : Int))) h38)
  (Ld h2 (Addr.add (⟨r1, 0, none⟩) 1) .sl fun (x50 : Sl) =>
  Ld h2 (Addr.add (⟨r1, 0, none⟩) 2) (.int .i64) fun (x52 : Int) =>
  Ix x50 x52 2 fun a53 =>
  LdA h2 a53 [.str, .sl] fun (x54 : ((ByteArray) × (Sl) × Unit)) =>
  CallK Try.prog 21 [(.agg ⟨[(.string x54.1), (.slice x54.2.1.a x54.2.1.n x54.2.1.c)]⟩)] h2 (.un (.one .sl)) fun (x55 : Sl) h39 =>
  cond (decide ((((x55.n : Nat) : Int)) > ((0 : Int))))
  (Wk h39 fun h40 => R (.int .i64 ((40 : Int))) h40)
  (Wk h39 fun h41 => J (()) h41)))))
  ((0 : Int), ()) h1
theorem S10_eq (p0_0 : Sl) (p0_1 : Sl) (p0_2 : Int) (h : V) (R : Value → V → Prop) : ABody Try.prog an10 Try.f10 [(.agg ⟨[(.slice p0_0.a p0_0.n p0_0.c), (.slice p0_1.a p0_1.n p0_1.c), (.int .i64 p0_2)]⟩)] h R = S10 p0_0 p0_1 p0_2 h R := by kernel_rfl
theorem S10_ok (p0_0 : Sl) (p0_1 : Sl) (p0_2 : Int) (h : V) (R : Value → V → Prop) (hk : S10 p0_0 p0_1 p0_2 h R) : ACalls Try.prog 10 [(.agg ⟨[(.slice p0_0.a p0_0.n p0_0.c), (.slice p0_1.a p0_1.n p0_1.c), (.int .i64 p0_2)]⟩)] h R :=
  ABody_sound mixed Try.func10 Try.call10 (by kernel_rfl) (by kernel_rfl) (an := an10) (by rw [S10_eq]; exact hk)

end Go.Proofs.Ytaefmhephoilmaa
