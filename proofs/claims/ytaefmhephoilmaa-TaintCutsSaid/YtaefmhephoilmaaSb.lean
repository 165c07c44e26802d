/- What functions of the program ask of a view of memory: printed by shal.py. -/
import Derived.Test.YtaefmhephoilmaaProg
import Derived.Test.YtaefmhephoilmaaSa
import Derived.KernelRfl
namespace Go.Proofs.Ytaefmhephoilmaa
open Go Go.VL
set_option maxRecDepth 100000
/- palings/taint.stays -/
def an38 : An := (.two .nil (.two (.two .nil (.two (.two .nil .nil) .nil)) (.two .nil .nil)))
def S38 (p0 : Int) (h : V) (R : Value → V → Prop) : Prop :=
  cond (p0 == ((1 : Int)))
  (Wk h fun h1 => R (.int .i64 ((0 : Int))) h1)
  (Wk h fun h2 => R (.int .i64 p0) h2)
theorem S38_eq (p0 : Int) (h : V) (R : Value → V → Prop) : ABody Try.prog an38 Try.f38 [(.int .i64 p0)] h R = S38 p0 h R := by kernel_rfl
theorem S38_ok (p0 : Int) (h : V) (R : Value → V → Prop) (hk : S38 p0 h R) : ACalls Try.prog 38 [(.int .i64 p0)] h R :=
  ABody_sound mixed Try.func38 Try.call38 (by kernel_rfl) (by kernel_rfl) (an := an38) (by rw [S38_eq]; exact hk)

/- (*palings/taint.solver).raise -/
def an37 : An := (.two .nil (.two (.two .nil .nil) .nil))
def S37 (p0 : Option Addr) (p1 : Option Addr) (p2 : Int) (h : V) (R : Value → V → Prop) : Prop :=
  OA p1 fun a7 =>
  Ld h a7 (.int .i64) fun (x8 : Int) =>
  cond (decide (x8 < p2))
  (OA p1 fun a13 =>
  StL h a13 0 [(.int .i64 p2)] fun h1 =>
  OA p0 fun a15 =>
  StL h1 (Addr.add a15 8) 0 [(.bool true)] fun h2 =>
  Wk h2 fun h3 => R (.tuple ⟨[]⟩) h3)
  (Wk h fun h4 => R (.tuple ⟨[]⟩) h4)
theorem S37_eq (p0 : Option Addr) (p1 : Option Addr) (p2 : Int) (h : V) (R : Value → V → Prop) : ABody Try.prog an37 Try.f37 [(.pointer p0), (.pointer p1), (.int .i64 p2)] h R = S37 p0 p1 p2 h R := by kernel_rfl
theorem S37_ok (p0 : Option Addr) (p1 : Option Addr) (p2 : Int) (h : V) (R : Value → V → Prop) (hk : S37 p0 p1 p2 h R) : ACalls Try.prog 37 [(.pointer p0), (.pointer p1), (.int .i64 p2)] h R :=
  ABody_sound mixed Try.func37 Try.call37 (by kernel_rfl) (by kernel_rfl) (an := an37) (by rw [S37_eq]; exact hk)

/- (*palings/taint.solver).val -/
def an36 : An := (.cut [(3, (.one (.int .i64)))] (.two .nil (.two .nil .nil)) (.two .nil (.two .nil (.perm [0, 1, 2, 3, 4, 5, 6, 7, 8, 9, 10] []))))
def S36 (p0 : Option Addr) (p1 : Int) (p2 : Int) (p3 : Int) (h : V) (R : Value → V → Prop) : Prop :=
  Cut (σ := (Int × Unit)) (fun s h1 =>
  OA p0 fun a22 =>
  Ld h1 (Addr.add (Addr.add a22 3) 0) .sl fun (x25 : Sl) =>
  Ix x25 p1 1 fun a27 =>
  Ld h1 a27 .mp fun (x28 : Option Nat) =>
  Look h1 x28 (.int .i64) (.int .i64 p2) (.one (.int .i64)) ((0 : Int)) fun (x30 : Int) _ =>
  New h1 (.cells #[(.int .i64 ((0 : Int)))] 42) fun r8 h2 =>
  StL h2 (⟨r8, 0, none⟩) 0 [(.int .i64 x30)] fun h3 =>
  CallK Try.prog 37 [(.pointer p0), (.pointer (some (⟨r8, 0, none⟩))), (.int .i64 s.1)] h3 (.tup []) fun (_ : (Unit)) h4 =>
  OA p0 fun a35 =>
  Ld h4 (Addr.add (Addr.add a35 3) 0) .sl fun (x38 : Sl) =>
  Ix x38 p1 1 fun a40 =>
  Ld h4 a40 .mp fun (x41 : Option Nat) =>
  Ld h4 (⟨r8, 0, none⟩) (.int .i64) fun (x43 : Int) =>
  MUpd h4 x41 (.int .i64) (.int .i64 p2) (.int .i64 x43) fun h5 =>
  Wk h5 fun h6 => R (.tuple ⟨[]⟩) h6) fun J =>
  OA p0 fun a10 =>
  Ld h (Addr.add (Addr.add a10 3) 3) .sl fun (x13 : Sl) =>
  Ix x13 p1 1 fun a15 =>
  Ld h a15 .mp fun (x16 : Option Nat) =>
  Look h x16 (.int .i64) (.int .i64 p2) (.one .bool) false fun (x18 : Bool) _ =>
  cond x18
  (CallK Try.prog 38 [(.int .i64 p3)] h (.un (.one (.int .i64))) fun (x20 : Int) h7 =>
  Wk h7 fun h8 => J (x20, ()) h8)
  (Wk h fun h9 => J (p3, ()) h9)
theorem S36_eq (p0 : Option Addr) (p1 : Int) (p2 : Int) (p3 : Int) (h : V) (R : Value → V → Prop) : ABody Try.prog an36 Try.f36 [(.pointer p0), (.int .i64 p1), (.int .i64 p2), (.int .i64 p3)] h R = S36 p0 p1 p2 p3 h R := by kernel_rfl
theorem S36_ok (p0 : Option Addr) (p1 : Int) (p2 : Int) (p3 : Int) (h : V) (R : Value → V → Prop) (hk : S36 p0 p1 p2 p3 h R) : ACalls Try.prog 36 [(.pointer p0), (.int .i64 p1), (.int .i64 p2), (.int .i64 p3)] h R :=
  ABody_sound mixed Try.func36 Try.call36 (by kernel_rfl) (by kernel_rfl) (an := an36) (by rw [S36_eq]; exact hk)

/- (*palings/taint.solver).of -/
def an51 : An := (.two .nil (.two .nil (.two (.two .nil (.one (.loop [(7, (.one (.int .i64))), (12, (.one (.int .i64)))] (.two .nil (.two (.two .nil .nil) (.two (.one (.two .nil .nil)) .nil)))))) (.two .nil .nil))))
def S51 (p0 : Option Addr) (p1 : Int) (p2 : Sl) (h : V) (R : Value → V → Prop) : Prop :=
  Lp (σ := (Int × Int × Unit)) (fun K s h1 =>
  cond (decide (s.2.1 < (((p2.n : Nat) : Int))))
  (Ix p2 s.2.1 1 fun a14 =>
  Ld h1 a14 (.int .i64) fun (x15 : Int) =>
  OA p0 fun a18 =>
  Ld h1 (Addr.add (Addr.add a18 3) 0) .sl fun (x21 : Sl) =>
  Ix x21 p1 1 fun a23 =>
  Ld h1 a23 .mp fun (x24 : Option Nat) =>
  Look h1 x24 (.int .i64) (.int .i64 x15) (.one (.int .i64)) ((0 : Int)) fun (x26 : Int) _ =>
  Wk h1 fun h2 => K (if x26 > s.1 then x26 else s.1, IntKind.wrap .i64 (s.2.1 + ((1 : Int))), ()) h2)
  (Wk h1 fun h3 => R (.int .i64 s.1) h3))
  ((0 : Int), (0 : Int), ()) h
theorem S51_eq (p0 : Option Addr) (p1 : Int) (p2 : Sl) (h : V) (R : Value → V → Prop) : ABody Try.prog an51 Try.f51 [(.pointer p0), (.int .i64 p1), (.slice p2.a p2.n p2.c)] h R = S51 p0 p1 p2 h R := by kernel_rfl
theorem S51_ok (p0 : Option Addr) (p1 : Int) (p2 : Sl) (h : V) (R : Value → V → Prop) (hk : S51 p0 p1 p2 h R) : ACalls Try.prog 51 [(.pointer p0), (.int .i64 p1), (.slice p2.a p2.n p2.c)] h R :=
  ABody_sound mixed Try.func51 Try.call51 (by kernel_rfl) (by kernel_rfl) (an := an51) (by rw [S51_eq]; exact hk)

/- palings/taint.May -/
def an52 : An := (.two .nil (.two (.two .nil (.two (.two .nil .nil) .nil)) (.two .nil .nil)))
def S52 (p0 : Sl) (p1_0 : Int) (p1_1 : Int) (p1_2 : Sl) (p1_3 : Int) (p1_4 : Int) (p1_5 : Int) (p1_6 : Int) (h : V) (R : Value → V → Prop) : Prop :=
  New h (.cells #[(.int .i64 p1_0), (.int .i64 p1_1), (.slice p1_2.a p1_2.n p1_2.c), (.int .i64 p1_3), (.int .i64 p1_4), (.int .i64 p1_5), (.int .i64 p1_6)] 60) fun r3 h1 =>
  Ld h1 (Addr.add (⟨r3, 0, none⟩) 0) (.int .i64) fun (x6 : Int) =>
  cond (x6 == ((5 : Int)))
  (Wk h1 fun h2 => R (.int .i64 ((1 : Int))) h2)
  (Ld h1 (Addr.add (⟨r3, 0, none⟩) 0) (.int .i64) fun (x10 : Int) =>
  cond (x10 == ((3 : Int)))
  (Ld h1 (Addr.add (⟨r3, 0, none⟩) 5) (.int .i64) fun (x14 : Int) =>
  cond (decide (x14 ≥ ((0 : Int))))
  (Ld h1 (Addr.add (⟨r3, 0, none⟩) 5) (.int .i64) fun (x19 : Int) =>
  cond (decide (x19 < (((p0.n : Nat) : Int))))
  (Ld h1 (Addr.add (⟨r3, 0, none⟩) 5) (.int .i64) fun (x27 : Int) =>
  Ix p0 x27 1 fun a28 =>
  Ld h1 a28 .bool fun (x29 : Bool) =>
  cond x29
  (Wk h1 fun h3 => R (.int .i64 ((1 : Int))) h3)
  (Wk h1 fun h4 => R (.int .i64 ((0 : Int))) h4))
  (Wk h1 fun h5 => R (.int .i64 ((0 : Int))) h5))
  (Wk h1 fun h6 => R (.int .i64 ((0 : Int))) h6))
  (Wk h1 fun h7 => R (.int .i64 ((0 : Int))) h7))
theorem S52_eq (p0 : Sl) (p1_0 : Int) (p1_1 : Int) (p1_2 : Sl) (p1_3 : Int) (p1_4 : Int) (p1_5 : Int) (p1_6 : Int) (h : V) (R : Value → V → Prop) : ABody Try.prog an52 Try.f52 [(.slice p0.a p0.n p0.c), (.agg ⟨[(.int .i64 p1_0), (.int .i64 p1_1), (.slice p1_2.a p1_2.n p1_2.c), (.int .i64 p1_3), (.int .i64 p1_4), (.int .i64 p1_5), (.int .i64 p1_6)]⟩)] h R = S52 p0 p1_0 p1_1 p1_2 p1_3 p1_4 p1_5 p1_6 h R := by kernel_rfl
theorem S52_ok (p0 : Sl) (p1_0 : Int) (p1_1 : Int) (p1_2 : Sl) (p1_3 : Int) (p1_4 : Int) (p1_5 : Int) (p1_6 : Int) (h : V) (R : Value → V → Prop) (hk : S52 p0 p1_0 p1_1 p1_2 p1_3 p1_4 p1_5 p1_6 h R) : ACalls Try.prog 52 [(.slice p0.a p0.n p0.c), (.agg ⟨[(.int .i64 p1_0), (.int .i64 p1_1), (.slice p1_2.a p1_2.n p1_2.c), (.int .i64 p1_3), (.int .i64 p1_4), (.int .i64 p1_5), (.int .i64 p1_6)]⟩)] h R :=
  ABody_sound mixed Try.func52 Try.call52 (by kernel_rfl) (by kernel_rfl) (an := an52) (by rw [S52_eq]; exact hk)

/- (*palings/taint.solver).ins -/
def an35 : An := (.two .nil (.two .nil (.two .nil (.one (.two .nil (.two .nil (.two .nil (.two .nil (.cut [(31, (.one .bool))] (.two .nil (.two .nil .nil)) (.two (.perm [0, 1, 2, 3, 4, 5, 6, 7, 8, 9, 10, 11, 12, 13, 14, 15, 16, 17, 18, 19, 20, 21] [19]) (.two .nil (.two (.perm [0, 1, 2, 3, 4, 5, 6, 7, 8, 9, 10, 11] [10]) (.two .nil (.two (.perm [0, 1, 2, 3, 4, 5, 6, 7, 8, 9, 10, 11, 12, 13, 14, 15, 16, 17, 18, 19, 20, 21, 22, 23] [22]) (.two .nil (.two (.two (.two (.perm [0, 1, 2, 3, 4, 5, 6, 7, 8, 11, 9, 10] []) (.one (.loop [(109, (.one (.int .i64)))] (.two .nil (.two (.two .nil .nil) (.two (.one (.two .nil (.perm [0, 1, 2, 3, 4, 5, 6, 7, 8, 9, 10, 11, 12, 13, 14, 15, 16, 17, 18, 19] [18]))) .nil)))))) (.perm [0, 1, 2, 3, 4, 5, 6, 7, 8, 9, 10, 11, 12, 13] [])) .nil))))))))))))))))
def S35 (p0 : Option Addr) (p1 : Int) (p2_0 : Int) (p2_1 : Int) (p2_2 : Sl) (p2_3 : Int) (p2_4 : Int) (p2_5 : Int) (p2_6 : Int) (h : V) (R : Value → V → Prop) : Prop :=
  New h (.cells #[(.int .i64 p2_0), (.int .i64 p2_1), (.slice p2_2.a p2_2.n p2_2.c), (.int .i64 p2_3), (.int .i64 p2_4), (.int .i64 p2_5), (.int .i64 p2_6)] 60) fun r5 h1 =>
  Ld h1 (Addr.add (⟨r5, 0, none⟩) 2) .sl fun (x12 : Sl) =>
  CallK Try.prog 51 [(.pointer p0), (.int .i64 p1), (.slice x12.a x12.n x12.c)] h1 (.un (.one (.int .i64))) fun (x13 : Int) h2 =>
  Ld h2 (Addr.add (⟨r5, 0, none⟩) 0) (.int .i64) fun (x15 : Int) =>
  cond (x15 == ((1 : Int)))
  (Ld h2 (Addr.add (⟨r5, 0, none⟩) 1) (.int .i64) fun (x21 : Int) =>
  CallK Try.prog 36 [(.pointer p0), (.int .i64 p1), (.int .i64 x21), (.int .i64 ((0 : Int)))] h2 (.tup []) fun (_ : (Unit)) h3 =>
  Wk h3 fun h4 => R (.tuple ⟨[]⟩) h4)
  (cond (x15 == ((2 : Int)))
  (Ld h2 (Addr.add (⟨r5, 0, none⟩) 1) (.int .i64) fun (x28 : Int) =>
  CallK Try.prog 36 [(.pointer p0), (.int .i64 p1), (.int .i64 x28), (.int .i64 x13)] h2 (.tup []) fun (_ : (Unit)) h5 =>
  Wk h5 fun h6 => R (.tuple ⟨[]⟩) h6)
  (Cut (σ := (Bool × Unit)) (fun s h7 =>
  cond s.1
  (Ld h7 (Addr.add (⟨r5, 0, none⟩) 1) (.int .i64) fun (x37 : Int) =>
  OA p0 fun a39 =>
  Ld h7 (Addr.add (Addr.add a39 3) 1) .sl fun (x42 : Sl) =>
  Ld h7 (Addr.add (⟨r5, 0, none⟩) 5) (.int .i64) fun (x44 : Int) =>
  Ix x42 x44 1 fun a45 =>
  Ld h7 a45 (.int .i64) fun (x46 : Int) =>
  OA p0 fun a49 =>
  Ld h7 (Addr.add a49 7) .sl fun (x51 : Sl) =>
  LdA h7 (⟨r5, 0, none⟩) [(.int .i64), (.int .i64), .sl, (.int .i64), (.int .i64), (.int .i64), (.int .i64)] fun (x52 : ((Int) × (Int) × (Sl) × (Int) × (Int) × (Int) × (Int) × Unit)) =>
  CallK Try.prog 52 [(.slice x51.a x51.n x51.c), (.agg ⟨[(.int .i64 x52.1), (.int .i64 x52.2.1), (.slice x52.2.2.1.a x52.2.2.1.n x52.2.2.1.c), (.int .i64 x52.2.2.2.1), (.int .i64 x52.2.2.2.2.1), (.int .i64 x52.2.2.2.2.2.1), (.int .i64 x52.2.2.2.2.2.2.1)]⟩)] h7 (.un (.one (.int .i64))) fun (x53 : Int) h8 =>
  Le h7 h8 ∧
  CallK Try.prog 36 [(.pointer p0), (.int .i64 p1), (.int .i64 x37), (.int .i64 (if x53 > (if x13 > x46 then x13 else x46) then x53 else (if x13 > x46 then x13 else x46)))] h8 (.tup []) fun (_ : (Unit)) h9 =>
  Wk h9 fun h10 => R (.tuple ⟨[]⟩) h10)
  (cond (x15 == ((4 : Int)))
  (OA p0 fun a60 =>
  Ld h7 (Addr.add (Addr.add a60 3) 1) .sl fun (x63 : Sl) =>
  Ld h7 (Addr.add (⟨r5, 0, none⟩) 5) (.int .i64) fun (x65 : Int) =>
  Ix x63 x65 1 fun a66 =>
  CallK Try.prog 38 [(.int .i64 x13)] h7 (.un (.one (.int .i64))) fun (x68 : Int) h11 =>
  Le h7 h11 ∧
  CallK Try.prog 37 [(.pointer p0), (.pointer (some a66)), (.int .i64 x68)] h11 (.tup []) fun (_ : (Unit)) h12 =>
  Wk h12 fun h13 => R (.tuple ⟨[]⟩) h13)
  (cond (x15 == ((6 : Int)))
  (OA p0 fun a74 =>
  Ld h7 (Addr.add (Addr.add a74 3) 1) .sl fun (x77 : Sl) =>
  Ld h7 (Addr.add (⟨r5, 0, none⟩) 5) (.int .i64) fun (x79 : Int) =>
  Ix x77 x79 1 fun a80 =>
  OA p0 fun a82 =>
  Ld h7 (Addr.add (Addr.add a82 3) 0) .sl fun (x85 : Sl) =>
  Ix x85 p1 1 fun a87 =>
  Ld h7 a87 .mp fun (x88 : Option Nat) =>
  Ld h7 (Addr.add (⟨r5, 0, none⟩) 2) .sl fun (x90 : Sl) =>
  Ix x90 ((1 : Int)) 1 fun a91 =>
  Ld h7 a91 (.int .i64) fun (x92 : Int) =>
  Look h7 x88 (.int .i64) (.int .i64 x92) (.one (.int .i64)) ((0 : Int)) fun (x93 : Int) _ =>
  CallK Try.prog 38 [(.int .i64 x93)] h7 (.un (.one (.int .i64))) fun (x94 : Int) h14 =>
  Le h7 h14 ∧
  CallK Try.prog 37 [(.pointer p0), (.pointer (some a80)), (.int .i64 x94)] h14 (.tup []) fun (_ : (Unit)) h15 =>
  Wk h15 fun h16 => R (.tuple ⟨[]⟩) h16)
  (cond (x15 == ((7 : Int)))
  (OA p0 fun a99 =>
  Ld h7 (Addr.add (Addr.add a99 0) 1) .sl fun (x102 : Sl) =>
  Ld h7 (Addr.add (⟨r5, 0, none⟩) 6) (.int .i64) fun (x104 : Int) =>
  Ix x102 x104 2 fun a105 =>
  LdA h7 a105 [.str, .sl] fun (x106 : ((ByteArray) × (Sl) × Unit)) =>
  CallK Try.prog 21 [(.agg ⟨[(.string x106.1), (.slice x106.2.1.a x106.2.1.n x106.2.1.c)]⟩)] h7 (.un (.one .sl)) fun (x107 : Sl) h17 =>
  Lp (σ := (Int × Unit)) (fun K s_1 h18 =>
  cond (decide (s_1.1 < (((x107.n : Nat) : Int))))
  (Ix x107 s_1.1 1 fun a112 =>
  Ld h18 a112 (.int .i64) fun (x113 : Int) =>
  Ld h18 (Addr.add (⟨r5, 0, none⟩) 6) (.int .i64) fun (x116 : Int) =>
  OA p0 fun a119 =>
  Ld h18 (Addr.add (Addr.add a119 3) 0) .sl fun (x122 : Sl) =>
  Ix x122 p1 1 fun a124 =>
  Ld h18 a124 .mp fun (x125 : Option Nat) =>
  Ld h18 (Addr.add (⟨r5, 0, none⟩) 2) .sl fun (x127 : Sl) =>
  Ix x127 s_1.1 1 fun a129 =>
  Ld h18 a129 (.int .i64) fun (x130 : Int) =>
  Look h18 x125 (.int .i64) (.int .i64 x130) (.one (.int .i64)) ((0 : Int)) fun (x131 : Int) _ =>
  CallK Try.prog 38 [(.int .i64 x131)] h18 (.un (.one (.int .i64))) fun (x132 : Int) h19 =>
  Le h18 h19 ∧
  CallK Try.prog 36 [(.pointer p0), (.int .i64 x116), (.int .i64 x113), (.int .i64 x132)] h19 (.tup []) fun (_ : (Unit)) h20 =>
  Wk h20 fun h21 => K (IntKind.wrap .i64 (s_1.1 + ((1 : Int))), ()) h21)
  (Ld h18 (Addr.add (⟨r5, 0, none⟩) 1) (.int .i64) fun (x138 : Int) =>
  OA p0 fun a140 =>
  Ld h18 (Addr.add (Addr.add a140 3) 2) .sl fun (x143 : Sl) =>
  Ld h18 (Addr.add (⟨r5, 0, none⟩) 6) (.int .i64) fun (x145 : Int) =>
  Ix x143 x145 1 fun a146 =>
  Ld h18 a146 (.int .i64) fun (x147 : Int) =>
  CallK Try.prog 36 [(.pointer p0), (.int .i64 p1), (.int .i64 x138), (.int .i64 x147)] h18 (.tup []) fun (_ : (Unit)) h22 =>
  Wk h22 fun h23 => R (.tuple ⟨[]⟩) h23))
  ((0 : Int), ()) h17)
  (Wk h7 fun h24 => R (.tuple ⟨[]⟩) h24))))) fun J =>
  cond (x15 == ((3 : Int)))
  (Wk h2 fun h25 => J (x15 == ((3 : Int)), ()) h25)
  (Wk h2 fun h26 => J (x15 == ((5 : Int)), ()) h26)))
theorem S35_eq (p0 : Option Addr) (p1 : Int) (p2_0 : Int) (p2_1 : Int) (p2_2 : Sl) (p2_3 : Int) (p2_4 : Int) (p2_5 : Int) (p2_6 : Int) (h : V) (R : Value → V → Prop) : ABody Try.prog an35 Try.f35 [(.pointer p0), (.int .i64 p1), (.agg ⟨[(.int .i64 p2_0), (.int .i64 p2_1), (.slice p2_2.a p2_2.n p2_2.c), (.int .i64 p2_3), (.int .i64 p2_4), (.int .i64 p2_5), (.int .i64 p2_6)]⟩)] h R = S35 p0 p1 p2_0 p2_1 p2_2 p2_3 p2_4 p2_5 p2_6 h R := by kernel_rfl
theorem S35_ok (p0 : Option Addr) (p1 : Int) (p2_0 : Int) (p2_1 : Int) (p2_2 : Sl) (p2_3 : Int) (p2_4 : Int) (p2_5 : Int) (p2_6 : Int) (h : V) (R : Value → V → Prop) (hk : S35 p0 p1 p2_0 p2_1 p2_2 p2_3 p2_4 p2_5 p2_6 h R) : ACalls Try.prog 35 [(.pointer p0), (.int .i64 p1), (.agg ⟨[(.int .i64 p2_0), (.int .i64 p2_1), (.slice p2_2.a p2_2.n p2_2.c), (.int .i64 p2_3), (.int .i64 p2_4), (.int .i64 p2_5), (.int .i64 p2_6)]⟩)] h R :=
  ABody_sound mixed Try.func35 Try.call35 (by kernel_rfl) (by kernel_rfl) (an := an35) (by rw [S35_eq]; exact hk)

/- (*palings/taint.solver).block -/
def an20 : An := (.two .nil (.two (.two .nil (.one (.loop [(15, (.one (.int .i64)))] (.two .nil (.two (.two .nil .nil) (.two (.one (.two .nil .nil)) .nil)))))) (.two (.two .nil (.one (.loop [(28, (.one (.int .i64)))] (.two .nil (.two (.two .nil .nil) (.two (.one (.two .nil (.two (.perm [0, 1, 2, 3, 4, 5, 6, 7, 8, 9, 10, 11, 12, 13, 14, 15] []) (.one (.loop [(47, (.one (.int .i64)))] (.two .nil (.two (.two .nil .nil) (.two (.one (.two .nil (.perm [0, 1, 2, 3, 4, 5, 6, 7, 8, 9, 10, 11, 12, 13, 14, 15, 16, 17] []))) .nil)))))))) .nil)))))) (.two .nil (.two (.perm [0, 1, 2, 3, 4, 5, 6, 7, 8, 9, 10, 11, 12, 13, 14, 15, 16, 17, 18, 19, 20, 21] [20]) .nil)))))
def S20 (p0 : Option Addr) (p1 : Int) (p2_0 : Sl) (p2_1 : Sl) (p2_2 : Int) (p2_3 : Int) (p2_4 : Sl) (p2_5 : Int) (h : V) (R : Value → V → Prop) : Prop :=
  New h (.cells #[(.slice p2_0.a p2_0.n p2_0.c), (.slice p2_1.a p2_1.n p2_1.c), (.int .i64 p2_2), (.int .i64 p2_3), (.slice p2_4.a p2_4.n p2_4.c), (.int .i64 p2_5)] 55) fun r5 h1 =>
  Ld h1 (Addr.add (⟨r5, 0, none⟩) 1) .sl fun (x13 : Sl) =>
  Lp (σ := (Int × Unit)) (fun K s h2 =>
  cond (decide (s.1 < (((x13.n : Nat) : Int))))
  (Ix x13 s.1 7 fun a17 =>
  LdA h2 a17 [(.int .i64), (.int .i64), .sl, (.int .i64), (.int .i64), (.int .i64), (.int .i64)] fun (x18 : ((Int) × (Int) × (Sl) × (Int) × (Int) × (Int) × (Int) × Unit)) =>
  New h2 (.cells #[(.int .i64 ((0 : Int))), (.int .i64 ((0 : Int))), (.slice none 0 0), (.int .i64 ((0 : Int))), (.int .i64 ((0 : Int))), (.int .i64 ((0 : Int))), (.int .i64 ((0 : Int)))] 60) fun r7 h3 =>
  StL h3 (⟨r7, 0, none⟩) 0 [(.int .i64 x18.1), (.int .i64 x18.2.1), (.slice x18.2.2.1.a x18.2.2.1.n x18.2.2.1.c), (.int .i64 x18.2.2.2.1), (.int .i64 x18.2.2.2.2.1), (.int .i64 x18.2.2.2.2.2.1), (.int .i64 x18.2.2.2.2.2.2.1)] fun h4 =>
  LdA h4 (⟨r7, 0, none⟩) [(.int .i64), (.int .i64), .sl, (.int .i64), (.int .i64), (.int .i64), (.int .i64)] fun (x21 : ((Int) × (Int) × (Sl) × (Int) × (Int) × (Int) × (Int) × Unit)) =>
  CallK Try.prog 35 [(.pointer p0), (.int .i64 p1), (.agg ⟨[(.int .i64 x21.1), (.int .i64 x21.2.1), (.slice x21.2.2.1.a x21.2.2.1.n x21.2.2.1.c), (.int .i64 x21.2.2.2.1), (.int .i64 x21.2.2.2.2.1), (.int .i64 x21.2.2.2.2.2.1), (.int .i64 x21.2.2.2.2.2.2.1)]⟩)] h4 (.tup []) fun (_ : (Unit)) h5 =>
  Wk h5 fun h6 => K (IntKind.wrap .i64 (s.1 + ((1 : Int))), ()) h6)
  (Ld h2 (Addr.add (Addr.add (⟨r5, 0, none⟩) 2) 2) .sl fun (x26 : Sl) =>
  Lp (σ := (Int × Unit)) (fun K_1 s_1 h7 =>
  cond (decide (s_1.1 < (((x26.n : Nat) : Int))))
  (Ix x26 s_1.1 2 fun a30 =>
  LdA h7 a30 [(.int .i64), .sl] fun (x31 : ((Int) × (Sl) × Unit)) =>
  New h7 (.cells #[(.int .i64 ((0 : Int))), (.slice none 0 0)] 74) fun r9 h8 =>
  StL h8 (⟨r9, 0, none⟩) 0 [(.int .i64 x31.1), (.slice x31.2.1.a x31.2.1.n x31.2.1.c)] fun h9 =>
  OA p0 fun a33 =>
  Ld h9 (Addr.add (Addr.add a33 0) 1) .sl fun (x36 : Sl) =>
  Ix x36 p1 2 fun a38 =>
  Ld h9 (Addr.add a38 1) .sl fun (x40 : Sl) =>
  Ld h9 (Addr.add (⟨r9, 0, none⟩) 0) (.int .i64) fun (x42 : Int) =>
  Ix x40 x42 6 fun a43 =>
  Ld h9 (Addr.add a43 0) .sl fun (x45 : Sl) =>
  Lp (σ := (Int × Unit)) (fun K_2 s_2 h10 =>
  cond (decide (s_2.1 < (((x45.n : Nat) : Int))))
  (Ix x45 s_2.1 1 fun a50 =>
  Ld h10 a50 (.int .i64) fun (x51 : Int) =>
  OA p0 fun a56 =>
  Ld h10 (Addr.add (Addr.add a56 3) 0) .sl fun (x59 : Sl) =>
  Ix x59 p1 1 fun a61 =>
  Ld h10 a61 .mp fun (x62 : Option Nat) =>
  Ld h10 (Addr.add (⟨r9, 0, none⟩) 1) .sl fun (x64 : Sl) =>
  Ix x64 s_2.1 1 fun a66 =>
  Ld h10 a66 (.int .i64) fun (x67 : Int) =>
  Look h10 x62 (.int .i64) (.int .i64 x67) (.one (.int .i64)) ((0 : Int)) fun (x68 : Int) _ =>
  CallK Try.prog 36 [(.pointer p0), (.int .i64 p1), (.int .i64 x51), (.int .i64 x68)] h10 (.tup []) fun (_ : (Unit)) h11 =>
  Wk h11 fun h12 => K_2 (IntKind.wrap .i64 (s_2.1 + ((1 : Int))), ()) h12)
  (Wk h10 fun h13 => K_1 (IntKind.wrap .i64 (s_1.1 + ((1 : Int))), ()) h13))
  ((0 : Int), ()) h9)
  (Ld h7 (Addr.add (Addr.add (⟨r5, 0, none⟩) 2) 0) (.int .i64) fun (x74 : Int) =>
  cond (x74 == ((3 : Int)))
  (OA p0 fun a78 =>
  Ld h7 (Addr.add (Addr.add a78 3) 2) .sl fun (x81 : Sl) =>
  Ix x81 p1 1 fun a83 =>
  OA p0 fun a85 =>
  Ld h7 (Addr.add (Addr.add a85 3) 0) .sl fun (x88 : Sl) =>
  Ix x88 p1 1 fun a90 =>
  Ld h7 a90 .mp fun (x91 : Option Nat) =>
  Ld h7 (Addr.add (Addr.add (⟨r5, 0, none⟩) 2) 1) (.int .i64) fun (x94 : Int) =>
  Look h7 x91 (.int .i64) (.int .i64 x94) (.one (.int .i64)) ((0 : Int)) fun (x95 : Int) _ =>
  CallK Try.prog 38 [(.int .i64 x95)] h7 (.un (.one (.int .i64))) fun (x96 : Int) h14 =>
  Le h7 h14 ∧
  CallK Try.prog 37 [(.pointer p0), (.pointer (some a83)), (.int .i64 x96)] h14 (.tup []) fun (_ : (Unit)) h15 =>
  Wk h15 fun h16 => R (.tuple ⟨[]⟩) h16)
  (Wk h7 fun h17 => R (.tuple ⟨[]⟩) h17)))
  ((0 : Int), ()) h2))
  ((0 : Int), ()) h1
theorem S20_eq (p0 : Option Addr) (p1 : Int) (p2_0 : Sl) (p2_1 : Sl) (p2_2 : Int) (p2_3 : Int) (p2_4 : Sl) (p2_5 : Int) (h : V) (R : Value → V → Prop) : ABody Try.prog an20 Try.f20 [(.pointer p0), (.int .i64 p1), (.agg ⟨[(.slice p2_0.a p2_0.n p2_0.c), (.slice p2_1.a p2_1.n p2_1.c), (.int .i64 p2_2), (.int .i64 p2_3), (.slice p2_4.a p2_4.n p2_4.c), (.int .i64 p2_5)]⟩)] h R = S20 p0 p1 p2_0 p2_1 p2_2 p2_3 p2_4 p2_5 h R := by kernel_rfl
theorem S20_ok (p0 : Option Addr) (p1 : Int) (p2_0 : Sl) (p2_1 : Sl) (p2_2 : Int) (p2_3 : Int) (p2_4 : Sl) (p2_5 : Int) (h : V) (R : Value → V → Prop) (hk : S20 p0 p1 p2_0 p2_1 p2_2 p2_3 p2_4 p2_5 h R) : ACalls Try.prog 20 [(.pointer p0), (.int .i64 p1), (.agg ⟨[(.slice p2_0.a p2_0.n p2_0.c), (.slice p2_1.a p2_1.n p2_1.c), (.int .i64 p2_2), (.int .i64 p2_3), (.slice p2_4.a p2_4.n p2_4.c), (.int .i64 p2_5)]⟩)] h R :=
  ABody_sound mixed Try.func20 Try.call20 (by kernel_rfl) (by kernel_rfl) (an := an20) (by rw [S20_eq]; exact hk)

/- palings/taint.Of -/
def an9 : An := (.two .nil (.two (.two .nil (.two (.two .nil .nil) .nil)) (.two (.perm [0, 1, 2, 3, 4, 5] [2]) (.two (.two .nil (.one (.loop [(30, (.one (.int .i64)))] (.two .nil (.two (.two .nil .nil) (.two (.one (.two .nil (.two .nil (.two .nil (.cut [] (.two .nil (.two (.two .nil (.one (.loop [] (.two .nil (.two (.two .nil .nil) (.one (.two .nil .nil))))))) .nil)) .nil))))) .nil)))))) (.two .nil (.two (.two .nil (.one (.loop [(87, (.one (.int .i64)))] (.two .nil (.two (.two .nil .nil) (.two (.one (.two .nil (.two .nil (.cut [(13, (.one (.int .i64)))] (.two .nil (.two .nil .nil)) .nil)))) .nil)))))) (.two (.two .nil (.one (.loop [] (.two (.two .nil (.two .nil .nil)) (.one (.two .nil (.two .nil (.one (.loop [(120, (.one (.int .i64)))] (.two .nil (.two (.two .nil .nil) (.two (.one (.two .nil (.two .nil (.one (.loop [(128, (.one (.int .i64)))] (.two .nil (.two (.two .nil .nil) (.two (.one (.two .nil (.two .nil (.two .nil .nil)))) .nil)))))))) .nil)))))))))))) (.two .nil .nil))))))))
def S9 (p0_0 : Sl) (p0_1 : Sl) (p0_2 : Int) (p1 : Sl) (h : V) (R : Value → V → Prop) : Prop :=
  New h (.cells #[(.slice p0_0.a p0_0.n p0_0.c), (.slice p0_1.a p0_1.n p0_1.c), (.int .i64 p0_2)] 25) fun r2 h1 =>
  New h1 (.cells #[(.slice none 0 0), (.slice none 0 0), (.slice none 0 0), (.slice none 0 0)] 33) fun r4 h2 =>
  LdA h2 (⟨r2, 0, none⟩) [.sl, .sl, (.int .i64)] fun (x18 : ((Sl) × (Sl) × (Int) × Unit)) =>
  CallK Try.prog 10 [(.agg ⟨[(.slice x18.1.a x18.1.n x18.1.c), (.slice x18.2.1.a x18.2.1.n x18.2.1.c), (.int .i64 x18.2.2.1)]⟩)] h2 (.un (.one (.int .i64))) fun (x19 : Int) h3 =>
  cond (x19 != ((0 : Int)))
  (StL h3 (⟨r4, 0, none⟩) 0 [(.slice none 0 0), (.slice none 0 0), (.slice none 0 0), (.slice none 0 0)] fun h4 =>
  LdA h4 (⟨r4, 0, none⟩) [.sl, .sl, .sl, .sl] fun (y : ((Sl) × (Sl) × (Sl) × (Sl) × Unit)) =>
  Wk h4 fun h5 => R (.tuple ⟨[(.agg ⟨[(.slice y.1.a y.1.n y.1.c), (.slice y.2.1.a y.2.1.n y.2.1.c), (.slice y.2.2.1.a y.2.2.1.n y.2.2.1.c), (.slice y.2.2.2.1.a y.2.2.2.1.n y.2.2.2.1.c)]⟩), (.int .i64 ((40 : Int)))]⟩) h5)
  (LdA h3 (⟨r2, 0, none⟩) [.sl, .sl, (.int .i64)] fun (x22 : ((Sl) × (Sl) × (Int) × Unit)) =>
  LdA h3 (⟨r2, 0, none⟩) [.sl, .sl, (.int .i64)] fun (x23 : ((Sl) × (Sl) × (Int) × Unit)) =>
  CallK Try.prog 18 [(.agg ⟨[(.slice x23.1.a x23.1.n x23.1.c), (.slice x23.2.1.a x23.2.1.n x23.2.1.c), (.int .i64 x23.2.2.1)]⟩)] h3 (.un (.one .sl)) fun (x24 : Sl) h6 =>
  Le h3 h6 ∧
  New h6 (.cells #[(.slice x22.1.a x22.1.n x22.1.c), (.slice x22.2.1.a x22.2.1.n x22.2.1.c), (.int .i64 x22.2.2.1), (.slice none 0 0), (.slice none 0 0), (.slice none 0 0), (.slice none 0 0), (.slice x24.a x24.n x24.c), (.bool false)] 78) fun r26 h7 =>
  Ld h7 (Addr.add (⟨r2, 0, none⟩) 1) .sl fun (x28 : Sl) =>
  Lp (σ := (Int × Unit)) (fun K s h8 =>
  cond (decide (s.1 < (((x28.n : Nat) : Int))))
  (Ld h8 (Addr.add (Addr.add (⟨r26, 0, none⟩) 3) 0) .sl fun (x38 : Sl) =>
  New h8 (.map #[] 0) fun r39 h9 =>
  New h9 (.cells #[(.map ((some r39)))] 56) fun r40 h10 =>
  App h10 x38 ⟨(some ⟨r40, 0, none⟩), 1, 1⟩ 56 1 8 [(.map none)] fun s41 h11 =>
  StL h11 (Addr.add (Addr.add (⟨r26, 0, none⟩) 3) 0) 0 [(.slice s41.a s41.n s41.c)] fun h12 =>
  New h12 (.map #[] 0) fun r45 h13 =>
  Cut (σ := (Unit)) (fun _ h14 =>
  Ld h14 (Addr.add (Addr.add (⟨r26, 0, none⟩) 3) 3) .sl fun (x68 : Sl) =>
  New h14 (.cells #[(.map ((some r45)))] 29) fun r70 h15 =>
  App h15 x68 ⟨(some ⟨r70, 0, none⟩), 1, 1⟩ 29 1 8 [(.map none)] fun s71 h16 =>
  StL h16 (Addr.add (Addr.add (⟨r26, 0, none⟩) 3) 3) 0 [(.slice s71.a s71.n s71.c)] fun h17 =>
  Wk h17 fun h18 => K (IntKind.wrap .i64 (s.1 + ((1 : Int))), ()) h18) fun J =>
  cond (decide (s.1 < (((p1.n : Nat) : Int))))
  (Ix p1 s.1 1 fun a52 =>
  Ld h13 a52 .mp fun (x53 : Option Nat) =>
  Rng h13 x53 fun r54 h19 =>
  Lp (σ := (Unit)) (fun K_1 _ h20 =>
  Nxt h20 r54 (fun _ _ h21 =>
  Ent h21 r54 fun k57 v57 =>
  unK (.int .i64) k57 fun (x58 : Int) =>
  unK .bool v57 fun (x59 : Bool) =>
  MUpd h21 ((some r45)) (.int .i64) (.int .i64 x58) (.bool x59) fun h22 =>
  Wk h22 fun h23 => K_1 (()) h23)
  (Wk h20 fun h24 => J (()) h24))
  (()) h19)
  (Wk h13 fun h25 => J (()) h25))
  (Ld h8 (Addr.add (⟨r2, 0, none⟩) 1) .sl fun (x78 : Sl) =>
  MkSl h8 (((x78.n : Nat) : Int)) (((x78.n : Nat) : Int)) [(.int .i64 ((0 : Int)))] 42 8 fun s80 h26 =>
  StL h26 (Addr.add (Addr.add (⟨r26, 0, none⟩) 3) 2) 0 [(.slice s80.a s80.n s80.c)] fun h27 =>
  Ld h27 (Addr.add (⟨r2, 0, none⟩) 0) .sl fun (x85 : Sl) =>
  Lp (σ := (Int × Unit)) (fun K_2 s_3 h28 =>
  cond (decide (s_3.1 < (((x85.n : Nat) : Int))))
  (Ix x85 s_3.1 3 fun a89 =>
  LdA h28 a89 [.str, (.int .i64), (.int .i64)] fun (x90 : ((ByteArray) × (Int) × (Int) × Unit)) =>
  New h28 (.cells #[(.string (⟨#[]⟩)), (.int .i64 ((0 : Int))), (.int .i64 ((0 : Int)))] 66) fun r12 h29 =>
  StL h29 (⟨r12, 0, none⟩) 0 [(.string x90.1), (.int .i64 x90.2.1), (.int .i64 x90.2.2.1)] fun h30 =>
  Cut (σ := (Int × Unit)) (fun s_4 h31 =>
  Ld h31 (Addr.add (Addr.add (⟨r26, 0, none⟩) 3) 1) .sl fun (x99 : Sl) =>
  New h31 (.cells #[(.int .i64 s_4.1)] 42) fun r101 h32 =>
  App h32 x99 ⟨(some ⟨r101, 0, none⟩), 1, 1⟩ 42 1 8 [(.int .i64 ((0 : Int)))] fun s102 h33 =>
  StL h33 (Addr.add (Addr.add (⟨r26, 0, none⟩) 3) 1) 0 [(.slice s102.a s102.n s102.c)] fun h34 =>
  Wk h34 fun h35 => K_2 (IntKind.wrap .i64 (s_3.1 + ((1 : Int))), ()) h35) fun J_1 =>
  Ld h30 (Addr.add (⟨r12, 0, none⟩) 1) (.int .i64) fun (x92 : Int) =>
  cond (x92 == ((2 : Int)))
  (Wk h30 fun h36 => J_1 ((2 : Int), ()) h36)
  (Wk h30 fun h37 => J_1 ((0 : Int), ()) h37))
  (StL h28 (Addr.add (⟨r26, 0, none⟩) 8) 0 [(.bool true)] fun h38 =>
  Lp (σ := (Unit)) (fun K_3 _ h39 =>
  Ld h39 (Addr.add (⟨r26, 0, none⟩) 8) .bool fun (x113 : Bool) =>
  cond x113
  (StL h39 (Addr.add (⟨r26, 0, none⟩) 8) 0 [(.bool false)] fun h40 =>
  Ld h40 (Addr.add (⟨r2, 0, none⟩) 1) .sl fun (x118 : Sl) =>
  Lp (σ := (Int × Unit)) (fun K_4 s_6 h41 =>
  cond (decide (s_6.1 < (((x118.n : Nat) : Int))))
  (Ix x118 s_6.1 2 fun a123 =>
  LdA h41 a123 [.str, .sl] fun (x124 : ((ByteArray) × (Sl) × Unit)) =>
  New h41 (.cells #[(.string (⟨#[]⟩)), (.slice none 0 0)] 46) fun r15 h42 =>
  StL h42 (⟨r15, 0, none⟩) 0 [(.string x124.1), (.slice x124.2.1.a x124.2.1.n x124.2.1.c)] fun h43 =>
  LdA h43 (⟨r15, 0, none⟩) [.str, .sl] fun (x125 : ((ByteArray) × (Sl) × Unit)) =>
  CallK Try.prog 19 [(.agg ⟨[(.string x125.1), (.slice x125.2.1.a x125.2.1.n x125.2.1.c)]⟩)] h43 (.un (.one .sl)) fun (x126 : Sl) h44 =>
  Lp (σ := (Int × Unit)) (fun K_5 s_7 h45 =>
  cond (decide (s_7.1 < (((x126.n : Nat) : Int))))
  (Ix x126 s_7.1 1 fun a131 =>
  Ld h45 a131 .bool fun (x132 : Bool) =>
  cond x132
  (Ld h45 (Addr.add (⟨r15, 0, none⟩) 1) .sl fun (x137 : Sl) =>
  Ix x137 s_7.1 6 fun a139 =>
  LdA h45 a139 [.sl, .sl, (.int .i64), (.int .i64), .sl, (.int .i64)] fun (x140 : ((Sl) × (Sl) × (Int) × (Int) × (Sl) × (Int) × Unit)) =>
  CallK Try.prog 20 [(.pointer (some (⟨r26, 0, none⟩))), (.int .i64 s_6.1), (.agg ⟨[(.slice x140.1.a x140.1.n x140.1.c), (.slice x140.2.1.a x140.2.1.n x140.2.1.c), (.int .i64 x140.2.2.1), (.int .i64 x140.2.2.2.1), (.slice x140.2.2.2.2.1.a x140.2.2.2.2.1.n x140.2.2.2.2.1.c), (.int .i64 x140.2.2.2.2.2.1)]⟩)] h45 (.tup []) fun (_ : (Unit)) h46 =>
  Wk h46 fun h47 => K_5 (IntKind.wrap .i64 (s_7.1 + ((1 : Int))), ()) h47)
  (Wk h45 fun h48 => K_5 (IntKind.wrap .i64 (s_7.1 + ((1 : Int))), ()) h48))
  (Wk h45 fun h49 => K_4 (IntKind.wrap .i64 (s_6.1 + ((1 : Int))), ()) h49))
  ((0 : Int), ()) h44)
  (Wk h41 fun h50 => K_3 (()) h50))
  ((0 : Int), ()) h40)
  (LdA h39 (Addr.add (⟨r26, 0, none⟩) 3) [.sl, .sl, .sl, .sl] fun (x147 : ((Sl) × (Sl) × (Sl) × (Sl) × Unit)) =>
  StL h39 (⟨r4, 0, none⟩) 0 [(.slice x147.1.a x147.1.n x147.1.c), (.slice x147.2.1.a x147.2.1.n x147.2.1.c), (.slice x147.2.2.1.a x147.2.2.1.n x147.2.2.1.c), (.slice x147.2.2.2.1.a x147.2.2.2.1.n x147.2.2.2.1.c)] fun h51 =>
  LdA h51 (⟨r4, 0, none⟩) [.sl, .sl, .sl, .sl] fun (y_1 : ((Sl) × (Sl) × (Sl) × (Sl) × Unit)) =>
  Wk h51 fun h52 => R (.tuple ⟨[(.agg ⟨[(.slice y_1.1.a y_1.1.n y_1.1.c), (.slice y_1.2.1.a y_1.2.1.n y_1.2.1.c), (.slice y_1.2.2.1.a y_1.2.2.1.n y_1.2.2.1.c), (.slice y_1.2.2.2.1.a y_1.2.2.2.1.n y_1.2.2.2.1.c)]⟩), (.int .i64 ((0 : Int)))]⟩) h52))
  (()) h38))
  ((0 : Int), ()) h27))
  ((0 : Int), ()) h7)
theorem S9_eq (p0_0 : Sl) (p0_1 : Sl) (p0_2 : Int) (p1 : Sl) (h : V) (R : Value → V → Prop) : ABody Try.prog an9 Try.f9 [(.agg ⟨[(.slice p0_0.a p0_0.n p0_0.c), (.slice p0_1.a p0_1.n p0_1.c), (.int .i64 p0_2)]⟩), (.slice p1.a p1.n p1.c)] h R = S9 p0_0 p0_1 p0_2 p1 h R := by kernel_rfl
theorem S9_ok (p0_0 : Sl) (p0_1 : Sl) (p0_2 : Int) (p1 : Sl) (h : V) (R : Value → V → Prop) (hk : S9 p0_0 p0_1 p0_2 p1 h R) : ACalls Try.prog 9 [(.agg ⟨[(.slice p0_0.a p0_0.n p0_0.c), (.slice p0_1.a p0_1.n p0_1.c), (.int .i64 p0_2)]⟩), (.slice p1.a p1.n p1.c)] h R :=
  ABody_sound mixed Try.func9 Try.call9 (by kernel_rfl) (by kernel_rfl) (an := an9) (by rw [S9_eq]; exact hk)

end Go.Proofs.Ytaefmhephoilmaa
