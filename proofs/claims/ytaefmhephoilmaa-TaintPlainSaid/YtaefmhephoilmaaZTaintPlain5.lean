/- TaintPlain: the row. -/
import Derived.Test.YtaefmhephoilmaaZTaintPlain4
import Derived.Test.YtaefmhephoilmaaProg
import Derived.KernelRfl
import Derived.Test.YtaefmhephoilmaaRows
import Derived.WalkKit
import Derived.ProofKit
import Derived.OpenShut
import Derived.ChangeOld
import Derived.Below
namespace Go.Proofs.Ytaefmhephoilmaa
open Go Go.VL
set_option maxRecDepth 100000
/- palings/palingslaw12.TaintLeast.1 -/
def an12 : An := (.two .nil (.two (.two .nil (.two (.two .nil .nil) .nil)) (.two (.two .nil (.two (.two .nil .nil) .nil)) (.two .nil .nil))))
def S12 (p0 : Bool) (p1 : Bool) (h : V) (R : Value → V → Prop) : Prop :=
  cond p1
  (Wk h fun h1 => R (.int .i64 ((2 : Int))) h1)
  (cond p0
  (Wk h fun h2 => R (.int .i64 ((1 : Int))) h2)
  (Wk h fun h3 => R (.int .i64 ((0 : Int))) h3))
theorem S12_eq (p0 : Bool) (p1 : Bool) (h : V) (R : Value → V → Prop) : ABody Try.prog an12 Try.f12 [(.bool p0), (.bool p1)] h R = S12 p0 p1 h R := by kernel_rfl
theorem S12_ok (p0 : Bool) (p1 : Bool) (h : V) (R : Value → V → Prop) (hk : S12 p0 p1 h R) : ACalls Try.prog 12 [(.bool p0), (.bool p1)] h R :=
  ABody_sound mixed Try.func12 Try.call12 (by kernel_rfl) (by kernel_rfl) (an := an12) (by rw [S12_eq]; exact hk)

/- palings/palingslaw12.TaintSinks.1 -/
def an15 : An := (.two .nil (.two (.perm [0, 1, 2, 3, 4, 5, 6, 7, 8, 9, 10, 11, 12, 13, 14, 15] []) .nil))
def S15 (p0 : Int) (p1 : Int) (c0 : Addr) (c1 : Addr) (c2 : Addr) (c3 : Addr) (h : V) (R : Value → V → Prop) : Prop :=
  Ld h (Addr.add c0 0) .sl fun (x9 : Sl) =>
  Ld h c1 (.int .i64) fun (x10 : Int) =>
  Ix x9 x10 1 fun a11 =>
  Ld h a11 .mp fun (x12 : Option Nat) =>
  Look h x12 (.int .i64) (.int .i64 p1) (.one (.int .i64)) ((0 : Int)) fun (x14 : Int) _ =>
  cond (decide (x14 > ((0 : Int))))
  (Ld h c2 .sl fun (x16 : Sl) =>
  Ld h c1 (.int .i64) fun (x17 : Int) =>
  Ld h c3 (.int .i64) fun (x18 : Int) =>
  Ld h (Addr.add c0 0) .sl fun (x22 : Sl) =>
  Ld h c1 (.int .i64) fun (x23 : Int) =>
  Ix x22 x23 1 fun a24 =>
  Ld h a24 .mp fun (x25 : Option Nat) =>
  Look h x25 (.int .i64) (.int .i64 p1) (.one (.int .i64)) ((0 : Int)) fun (x27 : Int) _ =>
  New h (.cells #[(.int .i64 x17), (.int .i64 x18), (.int .i64 p0), (.int .i64 p1), (.int .i64 x27)] 69) fun r29 h1 =>
  App h1 x16 ⟨(some ⟨r29, 0, none⟩), 1, 1⟩ 69 5 40 [(.int .i64 ((0 : Int))), (.int .i64 ((0 : Int))), (.int .i64 ((0 : Int))), (.int .i64 ((0 : Int))), (.int .i64 ((0 : Int)))] fun s30 h2 =>
  StL h2 c2 0 [(.slice s30.a s30.n s30.c)] fun h3 =>
  Wk h3 fun h4 => R (.tuple ⟨[]⟩) h4)
  (Wk h fun h5 => R (.tuple ⟨[]⟩) h5)
theorem S15_eq (p0 : Int) (p1 : Int) (c0 : Addr) (c1 : Addr) (c2 : Addr) (c3 : Addr) (h : V) (R : Value → V → Prop) : ABody Try.prog an15 Try.f15 [(.int .i64 p0), (.int .i64 p1), (.pointer (some c0)), (.pointer (some c1)), (.pointer (some c2)), (.pointer (some c3))] h R = S15 p0 p1 c0 c1 c2 c3 h R := by kernel_rfl
theorem S15_ok (p0 : Int) (p1 : Int) (c0 : Addr) (c1 : Addr) (c2 : Addr) (c3 : Addr) (h : V) (R : Value → V → Prop) (hk : S15 p0 p1 c0 c1 c2 c3 h R) : ACalls Try.prog 15 [(.int .i64 p0), (.int .i64 p1), (.pointer (some c0)), (.pointer (some c1)), (.pointer (some c2)), (.pointer (some c3))] h R :=
  ABody_sound mixed Try.func15 Try.call15 (by kernel_rfl) (by kernel_rfl) (an := an15) (by rw [S15_eq]; exact hk)

/- palings/palingslaw12.TaintLeast -/
def an3 : An := (.two .nil (.two (.two .nil (.two (.two .nil .nil) .nil)) (.cut [] (.two .nil (.two (.two .nil .nil) .nil)) (.two (.two .nil (.one (.loop [(33, (.one (.int .i64)))] (.two .nil (.two (.two .nil .nil) (.two (.one (.two .nil (.two .nil (.two (.two .nil .nil) .nil)))) .nil)))))) (.two .nil (.two (.two .nil (.two (.two .nil .nil) .nil)) (.cut [] (.two .nil (.two (.two .nil .nil) .nil)) (.two .nil (.two .nil (.two .nil (.two (.two .nil (.one (.loop [(105, (.one (.int .i64)))] (.two .nil (.two (.two .nil .nil) (.two (.one (.two .nil (.two (.two .nil (.one (.loop [(113, (.one (.int .i64)))] (.two .nil (.two (.two .nil .nil) (.two (.one (.two .nil (.two (.two .nil (.one (.loop [(120, (.one (.int .i64)))] (.two .nil (.two (.two .nil .nil) (.two (.one (.two .nil (.two (.perm [0, 1, 2, 3, 4, 5, 6, 7, 8, 9, 10, 11, 12, 13, 14, 15, 16, 17, 18, 19, 20, 21, 22, 23] [22]) (.two (.two .nil .nil) .nil)))) .nil)))))) (.two .nil (.one (.loop [(152, (.one (.int .i64)))] (.two .nil (.two (.two .nil .nil) (.two (.one (.two .nil (.two (.perm [0, 1, 2, 3, 4, 5, 6, 7, 8, 9, 10, 11, 12, 13, 14, 15, 16, 17, 18, 19, 20, 21, 22, 23, 24, 25, 26, 27, 28, 29, 30, 31] [29]) (.two (.two .nil .nil) .nil)))) .nil))))))))) .nil)))))) (.two (.perm [0, 1, 2, 3, 4, 5, 6, 7, 8, 9, 10, 11, 12] [11]) (.two (.two .nil .nil) .nil))))) .nil)))))) (.two (.two .nil (.one (.loop [(207, (.one (.int .i64)))] (.two .nil (.two (.two .nil .nil) (.two (.one (.two .nil (.two (.perm [0, 1, 2, 3, 4, 5, 6, 7, 8, 9, 10, 11, 12] [11]) (.two (.two .nil .nil) .nil)))) .nil)))))) (.two .nil .nil)))))))))))))
def S3 (p0_0 : Sl) (p0_1 : Sl) (p0_2 : Int) (p1 : Sl) (h : V) (R : Value → V → Prop) : Prop :=
  New h (.cells #[(.slice p0_0.a p0_0.n p0_0.c), (.slice p0_1.a p0_1.n p0_1.c), (.int .i64 p0_2)] 25) fun r2 h1 =>
  CallK Try.prog 7 [] h1 (.un (.one .bool)) fun (x21 : Bool) h2 =>
  cond (!x21)
  (Wk h2 fun h3 => R (.bool false) h3)
  (Cut (σ := (Unit)) (fun _ h4 =>
  Lp (σ := (Int × Unit)) (fun K s_1 h5 =>
  cond (decide (s_1.1 < (((p1.n : Nat) : Int))))
  (Ix p1 s_1.1 1 fun a35 =>
  Ld h5 a35 .mp fun (x36 : Option Nat) =>
  LenM h5 x36 fun x38 =>
  cond (decide (x38 > ((60 : Int))))
  (Wk h5 fun h6 => R (.bool true) h6)
  (Wk h5 fun h7 => K (IntKind.wrap .i64 (s_1.1 + ((1 : Int))), ()) h7))
  (LdA h5 (⟨r2, 0, none⟩) [.sl, .sl, (.int .i64)] fun (x42 : ((Sl) × (Sl) × (Int) × Unit)) =>
  CallK Try.prog 9 [(.agg ⟨[(.slice x42.1.a x42.1.n x42.1.c), (.slice x42.2.1.a x42.2.1.n x42.2.1.c), (.int .i64 x42.2.2.1)]⟩), (.slice p1.a p1.n p1.c)] h5 (.tup [(.agg [.sl, .sl, .sl, .sl]), (.one (.int .i64))]) fun (x44 : (((Sl) × (Sl) × (Sl) × (Sl) × Unit) × Int × Unit)) h8 =>
  New h8 (.cells #[(.slice none 0 0), (.slice none 0 0), (.slice none 0 0), (.slice none 0 0)] 33) fun r7 h9 =>
  StL h9 (⟨r7, 0, none⟩) 0 [(.slice x44.1.1.a x44.1.1.n x44.1.1.c), (.slice x44.1.2.1.a x44.1.2.1.n x44.1.2.1.c), (.slice x44.1.2.2.1.a x44.1.2.2.1.n x44.1.2.2.1.c), (.slice x44.1.2.2.2.1.a x44.1.2.2.2.1.n x44.1.2.2.2.1.c)] fun h10 =>
  LdA h10 (⟨r2, 0, none⟩) [.sl, .sl, (.int .i64)] fun (x47 : ((Sl) × (Sl) × (Int) × Unit)) =>
  CallK Try.prog 10 [(.agg ⟨[(.slice x47.1.a x47.1.n x47.1.c), (.slice x47.2.1.a x47.2.1.n x47.2.1.c), (.int .i64 x47.2.2.1)]⟩)] h10 (.un (.one (.int .i64))) fun (x48 : Int) h11 =>
  cond (x48 != ((0 : Int)))
  (cond (x44.2.1 == ((40 : Int)))
  (Ld h11 (Addr.add (⟨r7, 0, none⟩) 0) .sl fun (x54 : Sl) =>
  Wk h11 fun h12 => R (.bool ((((x54.n : Nat) : Int)) == ((0 : Int)))) h12)
  (Wk h11 fun h13 => R (.bool false) h13))
  (Cut (σ := (Unit)) (fun _ h14 =>
  LdA h14 (⟨r2, 0, none⟩) [.sl, .sl, (.int .i64)] fun (x96 : ((Sl) × (Sl) × (Int) × Unit)) =>
  CallK Try.prog 11 [(.agg ⟨[(.slice x96.1.a x96.1.n x96.1.c), (.slice x96.2.1.a x96.2.1.n x96.2.1.c), (.int .i64 x96.2.2.1)]⟩), (.slice p1.a p1.n p1.c), (.int .i64 ((1 : Int)))] h14 (.un (.agg [.sl, .sl, .sl])) fun (x98 : ((Sl) × (Sl) × (Sl) × Unit)) h15 =>
  New h15 (.cells #[(.slice none 0 0), (.slice none 0 0), (.slice none 0 0)] 40) fun r9 h16 =>
  StL h16 (⟨r9, 0, none⟩) 0 [(.slice x98.1.a x98.1.n x98.1.c), (.slice x98.2.1.a x98.2.1.n x98.2.1.c), (.slice x98.2.2.1.a x98.2.2.1.n x98.2.2.1.c)] fun h17 =>
  LdA h17 (⟨r2, 0, none⟩) [.sl, .sl, (.int .i64)] fun (x99 : ((Sl) × (Sl) × (Int) × Unit)) =>
  CallK Try.prog 11 [(.agg ⟨[(.slice x99.1.a x99.1.n x99.1.c), (.slice x99.2.1.a x99.2.1.n x99.2.1.c), (.int .i64 x99.2.2.1)]⟩), (.slice p1.a p1.n p1.c), (.int .i64 ((2 : Int)))] h17 (.un (.agg [.sl, .sl, .sl])) fun (x101 : ((Sl) × (Sl) × (Sl) × Unit)) h18 =>
  New h18 (.cells #[(.slice none 0 0), (.slice none 0 0), (.slice none 0 0)] 40) fun r10 h19 =>
  StL h19 (⟨r10, 0, none⟩) 0 [(.slice x101.1.a x101.1.n x101.1.c), (.slice x101.2.1.a x101.2.1.n x101.2.1.c), (.slice x101.2.2.1.a x101.2.2.1.n x101.2.2.1.c)] fun h20 =>
  Ld h20 (Addr.add (⟨r2, 0, none⟩) 1) .sl fun (x103 : Sl) =>
  Lp (σ := (Int × Unit)) (fun K_1 s_3 h21 =>
  cond (decide (s_3.1 < (((x103.n : Nat) : Int))))
  (Ix x103 s_3.1 2 fun a108 =>
  LdA h21 a108 [.str, .sl] fun (x109 : ((ByteArray) × (Sl) × Unit)) =>
  New h21 (.cells #[(.string (⟨#[]⟩)), (.slice none 0 0)] 46) fun r13 h22 =>
  StL h22 (⟨r13, 0, none⟩) 0 [(.string x109.1), (.slice x109.2.1.a x109.2.1.n x109.2.1.c)] fun h23 =>
  Ld h23 (Addr.add (⟨r13, 0, none⟩) 1) .sl fun (x111 : Sl) =>
  Lp (σ := (Int × Unit)) (fun K_2 s_4 h24 =>
  cond (decide (s_4.1 < (((x111.n : Nat) : Int))))
  (Ix x111 s_4.1 6 fun a115 =>
  LdA h24 a115 [.sl, .sl, (.int .i64), (.int .i64), .sl, (.int .i64)] fun (x116 : ((Sl) × (Sl) × (Int) × (Int) × (Sl) × (Int) × Unit)) =>
  New h24 (.cells #[(.slice none 0 0), (.slice none 0 0), (.int .i64 ((0 : Int))), (.int .i64 ((0 : Int))), (.slice none 0 0), (.int .i64 ((0 : Int)))] 55) fun r15 h25 =>
  StL h25 (⟨r15, 0, none⟩) 0 [(.slice x116.1.a x116.1.n x116.1.c), (.slice x116.2.1.a x116.2.1.n x116.2.1.c), (.int .i64 x116.2.2.1), (.int .i64 x116.2.2.2.1), (.slice x116.2.2.2.2.1.a x116.2.2.2.2.1.n x116.2.2.2.2.1.c), (.int .i64 x116.2.2.2.2.2.1)] fun h26 =>
  Ld h26 (Addr.add (⟨r15, 0, none⟩) 0) .sl fun (x118 : Sl) =>
  Lp (σ := (Int × Unit)) (fun K_3 s_5 h27 =>
  cond (decide (s_5.1 < (((x118.n : Nat) : Int))))
  (Ix x118 s_5.1 1 fun a122 =>
  Ld h27 a122 (.int .i64) fun (x123 : Int) =>
  Ld h27 (Addr.add (⟨r7, 0, none⟩) 0) .sl fun (x125 : Sl) =>
  Ix x125 s_3.1 1 fun a127 =>
  Ld h27 a127 .mp fun (x128 : Option Nat) =>
  Look h27 x128 (.int .i64) (.int .i64 x123) (.one (.int .i64)) ((0 : Int)) fun (x130 : Int) _ =>
  Ld h27 (Addr.add (⟨r9, 0, none⟩) 0) .sl fun (x133 : Sl) =>
  Ix x133 s_3.1 1 fun a135 =>
  Ld h27 a135 .mp fun (x136 : Option Nat) =>
  Look h27 x136 (.int .i64) (.int .i64 x123) (.one .bool) false fun (x138 : Bool) _ =>
  Ld h27 (Addr.add (⟨r10, 0, none⟩) 0) .sl fun (x140 : Sl) =>
  Ix x140 s_3.1 1 fun a142 =>
  Ld h27 a142 .mp fun (x143 : Option Nat) =>
  Look h27 x143 (.int .i64) (.int .i64 x123) (.one .bool) false fun (x145 : Bool) _ =>
  CallV Try.prog (.func (.func 12) ⟨[]⟩ ⟨[]⟩) [(.bool x138), (.bool x145)] h27 (.un (.one (.int .i64))) fun (x146 : Int) h28 =>
  Le h27 h28 ∧
  cond (x130 != x146)
  (Wk h28 fun h29 => R (.bool false) h29)
  (Wk h28 fun h30 => K_3 (IntKind.wrap .i64 (s_5.1 + ((1 : Int))), ()) h30))
  (Ld h27 (Addr.add (⟨r15, 0, none⟩) 1) .sl fun (x150 : Sl) =>
  Lp (σ := (Int × Unit)) (fun K_4 s_6 h31 =>
  cond (decide (s_6.1 < (((x150.n : Nat) : Int))))
  (Ix x150 s_6.1 7 fun a154 =>
  LdA h31 a154 [(.int .i64), (.int .i64), .sl, (.int .i64), (.int .i64), (.int .i64), (.int .i64)] fun (x155 : ((Int) × (Int) × (Sl) × (Int) × (Int) × (Int) × (Int) × Unit)) =>
  New h31 (.cells #[(.int .i64 ((0 : Int))), (.int .i64 ((0 : Int))), (.slice none 0 0), (.int .i64 ((0 : Int))), (.int .i64 ((0 : Int))), (.int .i64 ((0 : Int))), (.int .i64 ((0 : Int)))] 60) fun r19 h32 =>
  StL h32 (⟨r19, 0, none⟩) 0 [(.int .i64 x155.1), (.int .i64 x155.2.1), (.slice x155.2.2.1.a x155.2.2.1.n x155.2.2.1.c), (.int .i64 x155.2.2.2.1), (.int .i64 x155.2.2.2.2.1), (.int .i64 x155.2.2.2.2.2.1), (.int .i64 x155.2.2.2.2.2.2.1)] fun h33 =>
  Ld h33 (Addr.add (⟨r19, 0, none⟩) 1) (.int .i64) fun (x157 : Int) =>
  cond (x157 != ((0 : Int)))
  (Ld h33 (Addr.add (⟨r7, 0, none⟩) 0) .sl fun (x161 : Sl) =>
  Ix x161 s_3.1 1 fun a163 =>
  Ld h33 a163 .mp fun (x164 : Option Nat) =>
  Ld h33 (Addr.add (⟨r19, 0, none⟩) 1) (.int .i64) fun (x166 : Int) =>
  Look h33 x164 (.int .i64) (.int .i64 x166) (.one (.int .i64)) ((0 : Int)) fun (x167 : Int) _ =>
  Ld h33 (Addr.add (⟨r9, 0, none⟩) 0) .sl fun (x170 : Sl) =>
  Ix x170 s_3.1 1 fun a172 =>
  Ld h33 a172 .mp fun (x173 : Option Nat) =>
  Ld h33 (Addr.add (⟨r19, 0, none⟩) 1) (.int .i64) fun (x175 : Int) =>
  Look h33 x173 (.int .i64) (.int .i64 x175) (.one .bool) false fun (x176 : Bool) _ =>
  Ld h33 (Addr.add (⟨r10, 0, none⟩) 0) .sl fun (x178 : Sl) =>
  Ix x178 s_3.1 1 fun a180 =>
  Ld h33 a180 .mp fun (x181 : Option Nat) =>
  Ld h33 (Addr.add (⟨r19, 0, none⟩) 1) (.int .i64) fun (x183 : Int) =>
  Look h33 x181 (.int .i64) (.int .i64 x183) (.one .bool) false fun (x184 : Bool) _ =>
  CallV Try.prog (.func (.func 12) ⟨[]⟩ ⟨[]⟩) [(.bool x176), (.bool x184)] h33 (.un (.one (.int .i64))) fun (x185 : Int) h34 =>
  Le h33 h34 ∧
  cond (x167 != x185)
  (Wk h34 fun h35 => R (.bool false) h35)
  (Wk h34 fun h36 => K_4 (IntKind.wrap .i64 (s_6.1 + ((1 : Int))), ()) h36))
  (Wk h33 fun h37 => K_4 (IntKind.wrap .i64 (s_6.1 + ((1 : Int))), ()) h37))
  (Wk h31 fun h38 => K_2 (IntKind.wrap .i64 (s_4.1 + ((1 : Int))), ()) h38))
  ((0 : Int), ()) h27))
  ((0 : Int), ()) h26)
  (Ld h24 (Addr.add (⟨r7, 0, none⟩) 2) .sl fun (x191 : Sl) =>
  Ix x191 s_3.1 1 fun a193 =>
  Ld h24 a193 (.int .i64) fun (x194 : Int) =>
  Ld h24 (Addr.add (⟨r10, 0, none⟩) 2) .sl fun (x197 : Sl) =>
  Ix x197 s_3.1 1 fun a199 =>
  Ld h24 a199 .bool fun (x200 : Bool) =>
  CallV Try.prog (.func (.func 12) ⟨[]⟩ ⟨[]⟩) [(.bool false), (.bool x200)] h24 (.un (.one (.int .i64))) fun (x201 : Int) h39 =>
  Le h24 h39 ∧
  cond (x194 != x201)
  (Wk h39 fun h40 => R (.bool false) h40)
  (Wk h39 fun h41 => K_1 (IntKind.wrap .i64 (s_3.1 + ((1 : Int))), ()) h41)))
  ((0 : Int), ()) h23)
  (Ld h21 (Addr.add (⟨r2, 0, none⟩) 0) .sl fun (x205 : Sl) =>
  Lp (σ := (Int × Unit)) (fun K_5 s_7 h42 =>
  cond (decide (s_7.1 < (((x205.n : Nat) : Int))))
  (Ld h42 (Addr.add (⟨r7, 0, none⟩) 1) .sl fun (x211 : Sl) =>
  Ix x211 s_7.1 1 fun a213 =>
  Ld h42 a213 (.int .i64) fun (x214 : Int) =>
  Ld h42 (Addr.add (⟨r10, 0, none⟩) 1) .sl fun (x217 : Sl) =>
  Ix x217 s_7.1 1 fun a219 =>
  Ld h42 a219 .bool fun (x220 : Bool) =>
  CallV Try.prog (.func (.func 12) ⟨[]⟩ ⟨[]⟩) [(.bool false), (.bool x220)] h42 (.un (.one (.int .i64))) fun (x221 : Int) h43 =>
  Le h42 h43 ∧
  cond (x214 != x221)
  (Wk h43 fun h44 => R (.bool false) h44)
  (Wk h43 fun h45 => K_5 (IntKind.wrap .i64 (s_7.1 + ((1 : Int))), ()) h45))
  (Wk h42 fun h46 => R (.bool true) h46))
  ((0 : Int), ()) h21))
  ((0 : Int), ()) h20) fun J_1 =>
  cond (x44.2.1 != ((0 : Int)))
  (Wk h11 fun h47 => R (.bool false) h47)
  (Ld h11 (Addr.add (⟨r7, 0, none⟩) 0) .sl fun (x62 : Sl) =>
  Ld h11 (Addr.add (⟨r2, 0, none⟩) 1) .sl fun (x65 : Sl) =>
  cond ((((x62.n : Nat) : Int)) != (((x65.n : Nat) : Int)))
  (Wk h11 fun h48 => R (.bool false) h48)
  (Ld h11 (Addr.add (⟨r7, 0, none⟩) 2) .sl fun (x71 : Sl) =>
  Ld h11 (Addr.add (⟨r2, 0, none⟩) 1) .sl fun (x74 : Sl) =>
  cond ((((x71.n : Nat) : Int)) != (((x74.n : Nat) : Int)))
  (Wk h11 fun h49 => R (.bool false) h49)
  (Ld h11 (Addr.add (⟨r7, 0, none⟩) 1) .sl fun (x80 : Sl) =>
  Ld h11 (Addr.add (⟨r2, 0, none⟩) 0) .sl fun (x83 : Sl) =>
  cond ((((x80.n : Nat) : Int)) != (((x83.n : Nat) : Int)))
  (Wk h11 fun h50 => R (.bool false) h50)
  (Ld h11 (Addr.add (⟨r7, 0, none⟩) 3) .sl fun (x89 : Sl) =>
  Ld h11 (Addr.add (⟨r2, 0, none⟩) 1) .sl fun (x92 : Sl) =>
  cond ((((x89.n : Nat) : Int)) != (((x92.n : Nat) : Int)))
  (Wk h11 fun h51 => R (.bool false) h51)
  (Wk h11 fun h52 => J_1 (()) h52))))))))
  ((0 : Int), ()) h4) fun J =>
  LdA h2 (⟨r2, 0, none⟩) [.sl, .sl, (.int .i64)] fun (x23 : ((Sl) × (Sl) × (Int) × Unit)) =>
  CallK Try.prog 8 [(.agg ⟨[(.slice x23.1.a x23.1.n x23.1.c), (.slice x23.2.1.a x23.2.1.n x23.2.1.c), (.int .i64 x23.2.2.1)]⟩)] h2 (.un (.one .bool)) fun (x24 : Bool) h53 =>
  cond (!x24)
  (Wk h53 fun h54 => R (.bool true) h54)
  (cond (decide ((((p1.n : Nat) : Int)) > ((6 : Int))))
  (Wk h53 fun h55 => R (.bool true) h55)
  (Wk h53 fun h56 => J (()) h56)))
theorem S3_eq (p0_0 : Sl) (p0_1 : Sl) (p0_2 : Int) (p1 : Sl) (h : V) (R : Value → V → Prop) : ABody Try.prog an3 Try.f3 [(.agg ⟨[(.slice p0_0.a p0_0.n p0_0.c), (.slice p0_1.a p0_1.n p0_1.c), (.int .i64 p0_2)]⟩), (.slice p1.a p1.n p1.c)] h R = S3 p0_0 p0_1 p0_2 p1 h R := by kernel_rfl
theorem S3_ok (p0_0 : Sl) (p0_1 : Sl) (p0_2 : Int) (p1 : Sl) (h : V) (R : Value → V → Prop) (hk : S3 p0_0 p0_1 p0_2 p1 h R) : ACalls Try.prog 3 [(.agg ⟨[(.slice p0_0.a p0_0.n p0_0.c), (.slice p0_1.a p0_1.n p0_1.c), (.int .i64 p0_2)]⟩), (.slice p1.a p1.n p1.c)] h R :=
  ABody_sound mixed Try.func3 Try.call3 (by kernel_rfl) (by kernel_rfl) (an := an3) (by rw [S3_eq]; exact hk)

/- palings/palingslaw12.TaintCuts -/
def an4 : An := (.two .nil (.two (.two .nil (.two (.two .nil .nil) .nil)) (.cut [] (.two .nil (.two (.two .nil .nil) .nil)) (.two (.two .nil (.one (.loop [(40, (.one (.int .i64)))] (.two .nil (.two (.two .nil .nil) (.two (.one (.two .nil (.two .nil (.two (.two .nil .nil) .nil)))) .nil)))))) (.two .nil (.two .nil (.two .nil (.two (.two .nil (.one (.loop [(11, (.one .sl)), (63, (.one (.int .i64)))] (.two .nil (.two (.two .nil .nil) (.two (.one (.two .nil (.two .nil (.cut [] (.two .nil (.one (.loop [(15, (.one (.int .i64)))] (.two (.two .nil (.two .nil .nil)) (.two (.one .nil) .nil))))) (.two (.two .nil (.two (.two .nil .nil) .nil)) .nil))))) .nil)))))) (.two .nil (.cut [] (.two .nil (.two (.two .nil .nil) .nil)) (.two (.two .nil (.one (.loop [(107, (.one (.int .i64)))] (.two .nil (.two (.two .nil .nil) (.two (.one (.two .nil (.two .nil (.one (.loop [(19, (.one (.int .i64)))] (.two (.two .nil (.two .nil .nil)) (.two (.one (.two .nil (.two .nil (.two .nil (.two .nil (.two (.two .nil .nil) .nil)))))) .nil))))))) .nil)))))) (.two .nil .nil))))))))))))
def S4 (p0_0 : Sl) (p0_1 : Sl) (p0_2 : Int) (p1 : Sl) (h : V) (R : Value → V → Prop) : Prop :=
  New h (.cells #[(.slice p0_0.a p0_0.n p0_0.c), (.slice p0_1.a p0_1.n p0_1.c), (.int .i64 p0_2)] 25) fun r2 h1 =>
  CallK Try.prog 7 [] h1 (.un (.one .bool)) fun (x23 : Bool) h2 =>
  cond (!x23)
  (Wk h2 fun h3 => R (.bool false) h3)
  (Cut (σ := (Unit)) (fun _ h4 =>
  Lp (σ := (Int × Unit)) (fun K s_1 h5 =>
  cond (decide (s_1.1 < (((p1.n : Nat) : Int))))
  (Ix p1 s_1.1 1 fun a42 =>
  Ld h5 a42 .mp fun (x43 : Option Nat) =>
  LenM h5 x43 fun x45 =>
  cond (decide (x45 > ((60 : Int))))
  (Wk h5 fun h6 => R (.bool true) h6)
  (Wk h5 fun h7 => K (IntKind.wrap .i64 (s_1.1 + ((1 : Int))), ()) h7))
  (LdA h5 (⟨r2, 0, none⟩) [.sl, .sl, (.int .i64)] fun (x49 : ((Sl) × (Sl) × (Int) × Unit)) =>
  CallK Try.prog 9 [(.agg ⟨[(.slice x49.1.a x49.1.n x49.1.c), (.slice x49.2.1.a x49.2.1.n x49.2.1.c), (.int .i64 x49.2.2.1)]⟩), (.slice none 0 0)] h5 (.tup [(.agg [.sl, .sl, .sl, .sl]), (.one (.int .i64))]) fun (x50 : (((Sl) × (Sl) × (Sl) × (Sl) × Unit) × Int × Unit)) h8 =>
  New h8 (.cells #[(.slice none 0 0), (.slice none 0 0), (.slice none 0 0), (.slice none 0 0)] 33) fun r7 h9 =>
  StL h9 (⟨r7, 0, none⟩) 0 [(.slice x50.1.1.a x50.1.1.n x50.1.1.c), (.slice x50.1.2.1.a x50.1.2.1.n x50.1.2.1.c), (.slice x50.1.2.2.1.a x50.1.2.2.1.n x50.1.2.2.1.c), (.slice x50.1.2.2.2.1.a x50.1.2.2.2.1.n x50.1.2.2.2.1.c)] fun h10 =>
  LdA h10 (⟨r2, 0, none⟩) [.sl, .sl, (.int .i64)] fun (x54 : ((Sl) × (Sl) × (Int) × Unit)) =>
  CallK Try.prog 9 [(.agg ⟨[(.slice x54.1.a x54.1.n x54.1.c), (.slice x54.2.1.a x54.2.1.n x54.2.1.c), (.int .i64 x54.2.2.1)]⟩), (.slice p1.a p1.n p1.c)] h10 (.tup [(.agg [.sl, .sl, .sl, .sl]), (.one (.int .i64))]) fun (x56 : (((Sl) × (Sl) × (Sl) × (Sl) × Unit) × Int × Unit)) h11 =>
  New h11 (.cells #[(.slice none 0 0), (.slice none 0 0), (.slice none 0 0), (.slice none 0 0)] 33) fun r9 h12 =>
  StL h12 (⟨r9, 0, none⟩) 0 [(.slice x56.1.1.a x56.1.1.n x56.1.1.c), (.slice x56.1.2.1.a x56.1.2.1.n x56.1.2.1.c), (.slice x56.1.2.2.1.a x56.1.2.2.1.n x56.1.2.2.1.c), (.slice x56.1.2.2.2.1.a x56.1.2.2.2.1.n x56.1.2.2.2.1.c)] fun h13 =>
  New h13 (.cells #[] 29) fun r59 h14 =>
  Ld h14 (Addr.add (⟨r2, 0, none⟩) 1) .sl fun (x61 : Sl) =>
  Lp (σ := (Sl × Int × Unit)) (fun K_1 s_2 h15 =>
  cond (decide (s_2.2.1 < (((x61.n : Nat) : Int))))
  (Ix x61 s_2.2.1 2 fun a65 =>
  LdA h15 a65 [.str, .sl] fun (x66 : ((ByteArray) × (Sl) × Unit)) =>
  New h15 (.cells #[(.string (⟨#[]⟩)), (.slice none 0 0)] 46) fun r13 h16 =>
  StL h16 (⟨r13, 0, none⟩) 0 [(.string x66.1), (.slice x66.2.1.a x66.2.1.n x66.2.1.c)] fun h17 =>
  New h17 (.map #[] 0) fun r67 h18 =>
  Cut (σ := (Unit)) (fun _ h19 =>
  LdA h19 (⟨r13, 0, none⟩) [.str, .sl] fun (x80 : ((ByteArray) × (Sl) × Unit)) =>
  CallK Try.prog 13 [(.agg ⟨[(.string x80.1), (.slice x80.2.1.a x80.2.1.n x80.2.1.c)]⟩)] h19 (.un (.one (.int .i64))) fun (x81 : Int) h20 =>
  cond (decide (x81 ≥ ((1000 : Int))))
  (Wk h20 fun h21 => R (.bool true) h21)
  (New h20 (.cells #[(.map ((some r67)))] 29) fun r85 h22 =>
  App h22 s_2.1 ⟨(some ⟨r85, 0, none⟩), 1, 1⟩ 29 1 8 [(.map none)] fun s86 h23 =>
  Wk h23 fun h24 => K_1 (s86, IntKind.wrap .i64 (s_2.2.1 + ((1 : Int))), ()) h24)) fun J_1 =>
  Lp (σ := (Int × Unit)) (fun K_2 s_4 h25 =>
  LdA h25 (⟨r13, 0, none⟩) [.str, .sl] fun (x69 : ((ByteArray) × (Sl) × Unit)) =>
  CallK Try.prog 13 [(.agg ⟨[(.string x69.1), (.slice x69.2.1.a x69.2.1.n x69.2.1.c)]⟩)] h25 (.un (.one (.int .i64))) fun (x70 : Int) h26 =>
  cond (decide (s_4.1 ≤ x70))
  (cond (decide (s_4.1 < ((1000 : Int))))
  (MUpd h26 ((some r67)) (.int .i64) (.int .i64 s_4.1) (.bool true) fun h27 =>
  Wk h27 fun h28 => K_2 (IntKind.wrap .i64 (s_4.1 + ((1 : Int))), ()) h28)
  (Wk h26 fun h29 => J_1 (()) h29))
  (Wk h26 fun h30 => J_1 (()) h30))
  ((1 : Int), ()) h18)
  (LdA h15 (⟨r2, 0, none⟩) [.sl, .sl, (.int .i64)] fun (x89 : ((Sl) × (Sl) × (Int) × Unit)) =>
  CallK Try.prog 9 [(.agg ⟨[(.slice x89.1.a x89.1.n x89.1.c), (.slice x89.2.1.a x89.2.1.n x89.2.1.c), (.int .i64 x89.2.2.1)]⟩), (.slice s_2.1.a s_2.1.n s_2.1.c)] h15 (.tup [(.agg [.sl, .sl, .sl, .sl]), (.one (.int .i64))]) fun (x91 : (((Sl) × (Sl) × (Sl) × (Sl) × Unit) × Int × Unit)) h31 =>
  New h31 (.cells #[(.slice none 0 0), (.slice none 0 0), (.slice none 0 0), (.slice none 0 0)] 33) fun r16 h32 =>
  StL h32 (⟨r16, 0, none⟩) 0 [(.slice x91.1.1.a x91.1.1.n x91.1.1.c), (.slice x91.1.2.1.a x91.1.2.1.n x91.1.2.1.c), (.slice x91.1.2.2.1.a x91.1.2.2.1.n x91.1.2.2.1.c), (.slice x91.1.2.2.2.1.a x91.1.2.2.2.1.n x91.1.2.2.2.1.c)] fun h33 =>
  Cut (σ := (Unit)) (fun _ h34 =>
  Ld h34 (Addr.add (⟨r2, 0, none⟩) 1) .sl fun (x105 : Sl) =>
  Lp (σ := (Int × Unit)) (fun K_3 s_6 h35 =>
  cond (decide (s_6.1 < (((x105.n : Nat) : Int))))
  (Lp (σ := (Int × Unit)) (fun K_4 s_7 h36 =>
  Ld h36 (Addr.add (⟨r2, 0, none⟩) 1) .sl fun (x112 : Sl) =>
  Ix x112 s_6.1 2 fun a114 =>
  LdA h36 a114 [.str, .sl] fun (x115 : ((ByteArray) × (Sl) × Unit)) =>
  CallK Try.prog 13 [(.agg ⟨[(.string x115.1), (.slice x115.2.1.a x115.2.1.n x115.2.1.c)]⟩)] h36 (.un (.one (.int .i64))) fun (x116 : Int) h37 =>
  cond (decide (s_7.1 ≤ x116))
  (Ld h37 (Addr.add (⟨r7, 0, none⟩) 0) .sl fun (x121 : Sl) =>
  Ix x121 s_6.1 1 fun a123 =>
  Ld h37 a123 .mp fun (x124 : Option Nat) =>
  Look h37 x124 (.int .i64) (.int .i64 s_7.1) (.one (.int .i64)) ((0 : Int)) fun (x126 : Int) _ =>
  Ld h37 (Addr.add (⟨r9, 0, none⟩) 0) .sl fun (x128 : Sl) =>
  Ix x128 s_6.1 1 fun a130 =>
  Ld h37 a130 .mp fun (x131 : Option Nat) =>
  Look h37 x131 (.int .i64) (.int .i64 s_7.1) (.one (.int .i64)) ((0 : Int)) fun (x133 : Int) _ =>
  Ld h37 (Addr.add (⟨r16, 0, none⟩) 0) .sl fun (x135 : Sl) =>
  Ix x135 s_6.1 1 fun a137 =>
  Ld h37 a137 .mp fun (x138 : Option Nat) =>
  Look h37 x138 (.int .i64) (.int .i64 s_7.1) (.one (.int .i64)) ((0 : Int)) fun (x140 : Int) _ =>
  cond (decide (x133 > x126))
  (Wk h37 fun h38 => R (.bool false) h38)
  (cond (decide (x140 > x133))
  (Wk h37 fun h39 => R (.bool false) h39)
  (cond (x140 == ((1 : Int)))
  (Wk h37 fun h40 => R (.bool false) h40)
  (cond (!((x126 == ((2 : Int))) == (x140 == ((2 : Int)))))
  (Wk h37 fun h41 => R (.bool false) h41)
  (cond (!((x133 == ((2 : Int))) == (x140 == ((2 : Int)))))
  (Wk h37 fun h42 => R (.bool false) h42)
  (Wk h37 fun h43 => K_4 (IntKind.wrap .i64 (s_7.1 + ((1 : Int))), ()) h43))))))
  (Wk h37 fun h44 => K_3 (IntKind.wrap .i64 (s_6.1 + ((1 : Int))), ()) h44))
  ((1 : Int), ()) h35)
  (Wk h35 fun h45 => R (.bool true) h45))
  ((0 : Int), ()) h34) fun J_2 =>
  cond (x50.2.1 != ((0 : Int)))
  (Wk h33 fun h46 => R (.bool false) h46)
  (cond (x56.2.1 != ((0 : Int)))
  (Wk h33 fun h47 => R (.bool false) h47)
  (cond (x91.2.1 != ((0 : Int)))
  (Wk h33 fun h48 => R (.bool false) h48)
  (Wk h33 fun h49 => J_2 (()) h49)))))
  (⟨(some ⟨r59, 0, none⟩), 0, 0⟩, (0 : Int), ()) h14))
  ((0 : Int), ()) h4) fun J =>
  LdA h2 (⟨r2, 0, none⟩) [.sl, .sl, (.int .i64)] fun (x25 : ((Sl) × (Sl) × (Int) × Unit)) =>
  CallK Try.prog 8 [(.agg ⟨[(.slice x25.1.a x25.1.n x25.1.c), (.slice x25.2.1.a x25.2.1.n x25.2.1.c), (.int .i64 x25.2.2.1)]⟩)] h2 (.un (.one .bool)) fun (x26 : Bool) h50 =>
  cond (!x26)
  (Wk h50 fun h51 => R (.bool true) h51)
  (LdA h50 (⟨r2, 0, none⟩) [.sl, .sl, (.int .i64)] fun (x29 : ((Sl) × (Sl) × (Int) × Unit)) =>
  CallK Try.prog 10 [(.agg ⟨[(.slice x29.1.a x29.1.n x29.1.c), (.slice x29.2.1.a x29.2.1.n x29.2.1.c), (.int .i64 x29.2.2.1)]⟩)] h50 (.un (.one (.int .i64))) fun (x30 : Int) h52 =>
  cond (x30 != ((0 : Int)))
  (Wk h52 fun h53 => R (.bool true) h53)
  (cond (decide ((((p1.n : Nat) : Int)) > ((6 : Int))))
  (Wk h52 fun h54 => R (.bool true) h54)
  (Wk h52 fun h55 => J (()) h55))))
theorem S4_eq (p0_0 : Sl) (p0_1 : Sl) (p0_2 : Int) (p1 : Sl) (h : V) (R : Value → V → Prop) : ABody Try.prog an4 Try.f4 [(.agg ⟨[(.slice p0_0.a p0_0.n p0_0.c), (.slice p0_1.a p0_1.n p0_1.c), (.int .i64 p0_2)]⟩), (.slice p1.a p1.n p1.c)] h R = S4 p0_0 p0_1 p0_2 p1 h R := by kernel_rfl
theorem S4_ok (p0_0 : Sl) (p0_1 : Sl) (p0_2 : Int) (p1 : Sl) (h : V) (R : Value → V → Prop) (hk : S4 p0_0 p0_1 p0_2 p1 h R) : ACalls Try.prog 4 [(.agg ⟨[(.slice p0_0.a p0_0.n p0_0.c), (.slice p0_1.a p0_1.n p0_1.c), (.int .i64 p0_2)]⟩), (.slice p1.a p1.n p1.c)] h R :=
  ABody_sound mixed Try.func4 Try.call4 (by kernel_rfl) (by kernel_rfl) (an := an4) (by rw [S4_eq]; exact hk)

/- palings/palingslaw12.TaintPlain -/
def an5 : An := (.two .nil (.two (.two .nil (.two (.two .nil .nil) .nil)) (.cut [] (.two .nil (.two (.two .nil .nil) .nil)) (.two .nil (.two (.two .nil (.one (.loop [(34, (.one (.int .i64)))] (.two .nil (.two (.two .nil .nil) (.two (.one (.two .nil .nil)) .nil)))))) (.two .nil (.two (.two .nil (.two (.two .nil .nil) .nil)) (.two .nil (.two (.two .nil (.one (.loop [(7, (.one .bool)), (53, (.one (.int .i64)))] (.two .nil (.two (.two .nil .nil) (.two (.one (.two .nil (.two .nil (.one (.loop [(7, (.one .bool)), (60, (.one (.int .i64)))] (.two .nil (.two (.two .nil .nil) (.two (.one (.two .nil (.two .nil (.one (.loop [(7, (.one .bool)), (67, (.one (.int .i64)))] (.two .nil (.two (.two .nil .nil) (.two (.one (.two .nil .nil)) .nil)))))))) .nil)))))))) .nil)))))) (.two (.two .nil (.one (.loop [(88, (.one (.int .i64)))] (.two .nil (.two (.two .nil .nil) (.two (.one (.two .nil (.two (.two .nil (.one (.loop [] (.two .nil (.two (.two .nil .nil) (.one (.two .nil (.two .nil (.two (.two .nil .nil) .nil))))))))) (.two .nil (.two (.two .nil .nil) .nil))))) .nil)))))) (.two (.two .nil (.one (.loop [(121, (.one (.int .i64)))] (.two .nil (.two (.two .nil .nil) (.two (.one (.two .nil (.two .nil (.two (.two .nil .nil) .nil)))) .nil)))))) (.two .nil .nil))))))))))))
def S5 (p0_0 : Sl) (p0_1 : Sl) (p0_2 : Int) (h : V) (R : Value → V → Prop) : Prop :=
  New h (.cells #[(.slice p0_0.a p0_0.n p0_0.c), (.slice p0_1.a p0_1.n p0_1.c), (.int .i64 p0_2)] 25) fun r1 h1 =>
  CallK Try.prog 7 [] h1 (.un (.one .bool)) fun (x19 : Bool) h2 =>
  cond (!x19)
  (Wk h2 fun h3 => R (.bool false) h3)
  (Cut (σ := (Unit)) (fun _ h4 =>
  LdA h4 (⟨r1, 0, none⟩) [.sl, .sl, (.int .i64)] fun (x29 : ((Sl) × (Sl) × (Int) × Unit)) =>
  CallK Try.prog 14 [(.agg ⟨[(.slice x29.1.a x29.1.n x29.1.c), (.slice x29.2.1.a x29.2.1.n x29.2.1.c), (.int .i64 x29.2.2.1)]⟩)] h4 (.un (.agg [.sl, .sl, (.int .i64)])) fun (x30 : ((Sl) × (Sl) × (Int) × Unit)) h5 =>
  New h5 (.cells #[(.slice none 0 0), (.slice none 0 0), (.int .i64 ((0 : Int)))] 25) fun r3 h6 =>
  StL h6 (⟨r3, 0, none⟩) 0 [(.slice x30.1.a x30.1.n x30.1.c), (.slice x30.2.1.a x30.2.1.n x30.2.1.c), (.int .i64 x30.2.2.1)] fun h7 =>
  Ld h7 (Addr.add (⟨r3, 0, none⟩) 0) .sl fun (x32 : Sl) =>
  Lp (σ := (Int × Unit)) (fun K s_1 h8 =>
  cond (decide (s_1.1 < (((x32.n : Nat) : Int))))
  (Ld h8 (Addr.add (⟨r3, 0, none⟩) 0) .sl fun (x38 : Sl) =>
  Ix x38 s_1.1 3 fun a40 =>
  StL h8 (Addr.add a40 1) 0 [(.int .i64 ((1 : Int)))] fun h9 =>
  Wk h9 fun h10 => K (IntKind.wrap .i64 (s_1.1 + ((1 : Int))), ()) h10)
  (LdA h8 (⟨r3, 0, none⟩) [.sl, .sl, (.int .i64)] fun (x44 : ((Sl) × (Sl) × (Int) × Unit)) =>
  CallK Try.prog 9 [(.agg ⟨[(.slice x44.1.a x44.1.n x44.1.c), (.slice x44.2.1.a x44.2.1.n x44.2.1.c), (.int .i64 x44.2.2.1)]⟩), (.slice none 0 0)] h8 (.tup [(.agg [.sl, .sl, .sl, .sl]), (.one (.int .i64))]) fun (x45 : (((Sl) × (Sl) × (Sl) × (Sl) × Unit) × Int × Unit)) h11 =>
  New h11 (.cells #[(.slice none 0 0), (.slice none 0 0), (.slice none 0 0), (.slice none 0 0)] 33) fun r5 h12 =>
  StL h12 (⟨r5, 0, none⟩) 0 [(.slice x45.1.1.a x45.1.1.n x45.1.1.c), (.slice x45.1.2.1.a x45.1.2.1.n x45.1.2.1.c), (.slice x45.1.2.2.1.a x45.1.2.2.1.n x45.1.2.2.1.c), (.slice x45.1.2.2.2.1.a x45.1.2.2.2.1.n x45.1.2.2.2.1.c)] fun h13 =>
  cond (x45.2.1 != ((0 : Int)))
  (Wk h13 fun h14 => R (.bool false) h14)
  (Ld h13 (Addr.add (⟨r3, 0, none⟩) 1) .sl fun (x51 : Sl) =>
  Lp (σ := (Bool × Int × Unit)) (fun K_1 s_2 h15 =>
  cond (decide (s_2.2.1 < (((x51.n : Nat) : Int))))
  (Ix x51 s_2.2.1 2 fun a55 =>
  LdA h15 a55 [.str, .sl] fun (x56 : ((ByteArray) × (Sl) × Unit)) =>
  New h15 (.cells #[(.string (⟨#[]⟩)), (.slice none 0 0)] 46) fun r9 h16 =>
  StL h16 (⟨r9, 0, none⟩) 0 [(.string x56.1), (.slice x56.2.1.a x56.2.1.n x56.2.1.c)] fun h17 =>
  Ld h17 (Addr.add (⟨r9, 0, none⟩) 1) .sl fun (x58 : Sl) =>
  Lp (σ := (Bool × Int × Unit)) (fun K_2 s_3 h18 =>
  cond (decide (s_3.2.1 < (((x58.n : Nat) : Int))))
  (Ix x58 s_3.2.1 6 fun a62 =>
  LdA h18 a62 [.sl, .sl, (.int .i64), (.int .i64), .sl, (.int .i64)] fun (x63 : ((Sl) × (Sl) × (Int) × (Int) × (Sl) × (Int) × Unit)) =>
  New h18 (.cells #[(.slice none 0 0), (.slice none 0 0), (.int .i64 ((0 : Int))), (.int .i64 ((0 : Int))), (.slice none 0 0), (.int .i64 ((0 : Int)))] 55) fun r11 h19 =>
  StL h19 (⟨r11, 0, none⟩) 0 [(.slice x63.1.a x63.1.n x63.1.c), (.slice x63.2.1.a x63.2.1.n x63.2.1.c), (.int .i64 x63.2.2.1), (.int .i64 x63.2.2.2.1), (.slice x63.2.2.2.2.1.a x63.2.2.2.2.1.n x63.2.2.2.2.1.c), (.int .i64 x63.2.2.2.2.2.1)] fun h20 =>
  Ld h20 (Addr.add (⟨r11, 0, none⟩) 1) .sl fun (x65 : Sl) =>
  Lp (σ := (Bool × Int × Unit)) (fun K_3 s_4 h21 =>
  cond (decide (s_4.2.1 < (((x65.n : Nat) : Int))))
  (Ix x65 s_4.2.1 7 fun a69 =>
  LdA h21 a69 [(.int .i64), (.int .i64), .sl, (.int .i64), (.int .i64), (.int .i64), (.int .i64)] fun (x70 : ((Int) × (Int) × (Sl) × (Int) × (Int) × (Int) × (Int) × Unit)) =>
  New h21 (.cells #[(.int .i64 ((0 : Int))), (.int .i64 ((0 : Int))), (.slice none 0 0), (.int .i64 ((0 : Int))), (.int .i64 ((0 : Int))), (.int .i64 ((0 : Int))), (.int .i64 ((0 : Int)))] 60) fun r13 h22 =>
  StL h22 (⟨r13, 0, none⟩) 0 [(.int .i64 x70.1), (.int .i64 x70.2.1), (.slice x70.2.2.1.a x70.2.2.1.n x70.2.2.1.c), (.int .i64 x70.2.2.2.1), (.int .i64 x70.2.2.2.2.1), (.int .i64 x70.2.2.2.2.2.1), (.int .i64 x70.2.2.2.2.2.2.1)] fun h23 =>
  cond s_4.1
  (Wk h23 fun h24 => K_3 (true, IntKind.wrap .i64 (s_4.2.1 + ((1 : Int))), ()) h24)
  (Ld h23 (Addr.add (⟨r13, 0, none⟩) 0) (.int .i64) fun (x74 : Int) =>
  cond (x74 == ((5 : Int)))
  (Wk h23 fun h25 => K_3 (true, IntKind.wrap .i64 (s_4.2.1 + ((1 : Int))), ()) h25)
  (Ld h23 (Addr.add (⟨r13, 0, none⟩) 0) (.int .i64) fun (x79 : Int) =>
  Wk h23 fun h26 => K_3 (x79 == ((3 : Int)), IntKind.wrap .i64 (s_4.2.1 + ((1 : Int))), ()) h26)))
  (Wk h21 fun h27 => K_2 (s_4.1, IntKind.wrap .i64 (s_3.2.1 + ((1 : Int))), ()) h27))
  (s_3.1, (0 : Int), ()) h20)
  (Wk h18 fun h28 => K_1 (s_3.1, IntKind.wrap .i64 (s_2.2.1 + ((1 : Int))), ()) h28))
  (s_2.1, (0 : Int), ()) h17)
  (Ld h15 (Addr.add (⟨r3, 0, none⟩) 1) .sl fun (x86 : Sl) =>
  Lp (σ := (Int × Unit)) (fun K_4 s_5 h29 =>
  cond (decide (s_5.1 < (((x86.n : Nat) : Int))))
  (Ld h29 (Addr.add (⟨r5, 0, none⟩) 0) .sl fun (x92 : Sl) =>
  Ix x92 s_5.1 1 fun a94 =>
  Ld h29 a94 .mp fun (x95 : Option Nat) =>
  Rng h29 x95 fun r96 h30 =>
  Lp (σ := (Unit)) (fun K_5 _ h31 =>
  Nxt h31 r96 (fun _ _ h32 =>
  Ent h32 r96 fun _ v99 =>
  unK (.int .i64) v99 fun (x100 : Int) =>
  cond (x100 == ((2 : Int)))
  (Wk h32 fun h33 => R (.bool false) h33)
  (cond (x100 == ((1 : Int)))
  (cond (!s_2.1)
  (Wk h32 fun h34 => R (.bool false) h34)
  (Wk h32 fun h35 => K_5 (()) h35))
  (Wk h32 fun h36 => K_5 (()) h36)))
  (Ld h31 (Addr.add (⟨r5, 0, none⟩) 2) .sl fun (x112 : Sl) =>
  Ix x112 s_5.1 1 fun a114 =>
  Ld h31 a114 (.int .i64) fun (x115 : Int) =>
  cond (x115 != ((0 : Int)))
  (Wk h31 fun h37 => R (.bool false) h37)
  (Wk h31 fun h38 => K_4 (IntKind.wrap .i64 (s_5.1 + ((1 : Int))), ()) h38)))
  (()) h30)
  (Ld h29 (Addr.add (⟨r5, 0, none⟩) 1) .sl fun (x119 : Sl) =>
  Lp (σ := (Int × Unit)) (fun K_6 s_7 h39 =>
  cond (decide (s_7.1 < (((x119.n : Nat) : Int))))
  (Ix x119 s_7.1 1 fun a123 =>
  Ld h39 a123 (.int .i64) fun (x124 : Int) =>
  cond (x124 != ((0 : Int)))
  (Wk h39 fun h40 => R (.bool false) h40)
  (Wk h39 fun h41 => K_6 (IntKind.wrap .i64 (s_7.1 + ((1 : Int))), ()) h41))
  (Wk h39 fun h42 => R (.bool true) h42))
  ((0 : Int), ()) h29))
  ((0 : Int), ()) h15))
  (false, (0 : Int), ()) h13)))
  ((0 : Int), ()) h7) fun J =>
  LdA h2 (⟨r1, 0, none⟩) [.sl, .sl, (.int .i64)] fun (x21 : ((Sl) × (Sl) × (Int) × Unit)) =>
  CallK Try.prog 8 [(.agg ⟨[(.slice x21.1.a x21.1.n x21.1.c), (.slice x21.2.1.a x21.2.1.n x21.2.1.c), (.int .i64 x21.2.2.1)]⟩)] h2 (.un (.one .bool)) fun (x22 : Bool) h43 =>
  cond (!x22)
  (Wk h43 fun h44 => R (.bool true) h44)
  (LdA h43 (⟨r1, 0, none⟩) [.sl, .sl, (.int .i64)] fun (x25 : ((Sl) × (Sl) × (Int) × Unit)) =>
  CallK Try.prog 10 [(.agg ⟨[(.slice x25.1.a x25.1.n x25.1.c), (.slice x25.2.1.a x25.2.1.n x25.2.1.c), (.int .i64 x25.2.2.1)]⟩)] h43 (.un (.one (.int .i64))) fun (x26 : Int) h45 =>
  cond (x26 != ((0 : Int)))
  (Wk h45 fun h46 => R (.bool true) h46)
  (Wk h45 fun h47 => J (()) h47)))
theorem S5_eq (p0_0 : Sl) (p0_1 : Sl) (p0_2 : Int) (h : V) (R : Value → V → Prop) : ABody Try.prog an5 Try.f5 [(.agg ⟨[(.slice p0_0.a p0_0.n p0_0.c), (.slice p0_1.a p0_1.n p0_1.c), (.int .i64 p0_2)]⟩)] h R = S5 p0_0 p0_1 p0_2 h R := by kernel_rfl
theorem S5_ok (p0_0 : Sl) (p0_1 : Sl) (p0_2 : Int) (h : V) (R : Value → V → Prop) (hk : S5 p0_0 p0_1 p0_2 h R) : ACalls Try.prog 5 [(.agg ⟨[(.slice p0_0.a p0_0.n p0_0.c), (.slice p0_1.a p0_1.n p0_1.c), (.int .i64 p0_2)]⟩)] h R :=
  ABody_sound mixed Try.func5 Try.call5 (by kernel_rfl) (by kernel_rfl) (an := an5) (by rw [S5_eq]; exact hk)

/- palings/palingslaw12.TaintSinks -/
def an6 : An := (.two .nil (.two (.two .nil (.two (.two .nil .nil) .nil)) (.cut [] (.two .nil (.two (.two .nil .nil) .nil)) (.two (.two .nil (.one (.loop [(37, (.one (.int .i64)))] (.two .nil (.two (.two .nil .nil) (.two (.one (.two .nil (.two .nil (.two (.two .nil .nil) .nil)))) .nil)))))) (.two .nil (.two (.two .nil (.two (.two .nil .nil) .nil)) (.two .nil (.two (.two .nil (.one (.loop [(57, (.one (.int .i64)))] (.two .nil (.two (.two .nil .nil) (.two (.one (.two .nil (.two .nil (.one (.loop [(65, (.one (.int .i64)))] (.two .nil (.two (.two .nil .nil) (.two (.one (.two .nil (.two .nil (.two (.two .nil (.one (.loop [(74, (.one (.int .i64)))] (.two .nil (.two (.two .nil .nil) (.two (.one (.two .nil (.two .nil (.one (.cut [(81, (.one .bool))] .nil (.two (.cut [] (.two (.perm [0, 1, 2, 3, 4, 5, 6, 7, 8, 9, 10, 11, 12] []) (.two (.two .nil .nil) .nil)) .nil) (.cut [(110, (.one .bool))] .nil (.two (.cut [] (.two (.perm [0, 1, 2, 3, 4, 5, 6, 7, 8, 9, 10, 11, 12, 13, 14, 15, 16, 17, 18, 19, 20, 21, 22] []) (.two (.two .nil .nil) .nil)) (.two .nil .nil)) (.two .nil (.two (.two .nil .nil) .nil)))))))))) .nil)))))) (.two .nil (.two .nil .nil)))))) .nil)))))))) .nil)))))) (.two .nil (.two (.two .nil (.two (.two .nil .nil) .nil)) (.two (.two .nil (.one (.loop [(190, (.one (.int .i64)))] (.two .nil (.two (.two .nil .nil) (.two (.one (.two .nil (.two (.perm [0, 1, 2, 3, 4, 5, 6, 7, 8] []) (.two (.two .nil .nil) .nil)))) .nil)))))) (.two .nil .nil))))))))))))
def S6 (p0_0 : Sl) (p0_1 : Sl) (p0_2 : Int) (p1 : Sl) (h : V) (R : Value → V → Prop) : Prop :=
  New h (.cells #[(.slice p0_0.a p0_0.n p0_0.c), (.slice p0_1.a p0_1.n p0_1.c), (.int .i64 p0_2)] 25) fun r2 h1 =>
  CallK Try.prog 7 [] h1 (.un (.one .bool)) fun (x20 : Bool) h2 =>
  cond (!x20)
  (Wk h2 fun h3 => R (.bool false) h3)
  (Cut (σ := (Unit)) (fun _ h4 =>
  Lp (σ := (Int × Unit)) (fun K s_1 h5 =>
  cond (decide (s_1.1 < (((p1.n : Nat) : Int))))
  (Ix p1 s_1.1 1 fun a39 =>
  Ld h5 a39 .mp fun (x40 : Option Nat) =>
  LenM h5 x40 fun x42 =>
  cond (decide (x42 > ((60 : Int))))
  (Wk h5 fun h6 => R (.bool true) h6)
  (Wk h5 fun h7 => K (IntKind.wrap .i64 (s_1.1 + ((1 : Int))), ()) h7))
  (LdA h5 (⟨r2, 0, none⟩) [.sl, .sl, (.int .i64)] fun (x46 : ((Sl) × (Sl) × (Int) × Unit)) =>
  CallK Try.prog 9 [(.agg ⟨[(.slice x46.1.a x46.1.n x46.1.c), (.slice x46.2.1.a x46.2.1.n x46.2.1.c), (.int .i64 x46.2.2.1)]⟩), (.slice p1.a p1.n p1.c)] h5 (.tup [(.agg [.sl, .sl, .sl, .sl]), (.one (.int .i64))]) fun (x48 : (((Sl) × (Sl) × (Sl) × (Sl) × Unit) × Int × Unit)) h8 =>
  New h8 (.cells #[(.slice none 0 0), (.slice none 0 0), (.slice none 0 0), (.slice none 0 0)] 33) fun r7 h9 =>
  StL h9 (⟨r7, 0, none⟩) 0 [(.slice x48.1.1.a x48.1.1.n x48.1.1.c), (.slice x48.1.2.1.a x48.1.2.1.n x48.1.2.1.c), (.slice x48.1.2.2.1.a x48.1.2.2.1.n x48.1.2.2.1.c), (.slice x48.1.2.2.2.1.a x48.1.2.2.2.1.n x48.1.2.2.2.1.c)] fun h10 =>
  cond (x48.2.1 != ((0 : Int)))
  (Wk h10 fun h11 => R (.bool false) h11)
  (New h10 (.cells #[] 69) fun r53 h12 =>
  New h12 (.cells #[(.slice none 0 0)] 67) fun r9 h13 =>
  StL h13 (⟨r9, 0, none⟩) 0 [(.slice ((some ⟨r53, 0, none⟩)) 0 0)] fun h14 =>
  Ld h14 (Addr.add (⟨r2, 0, none⟩) 1) .sl fun (x55 : Sl) =>
  Lp (σ := (Int × Unit)) (fun K_1 s_2 h15 =>
  cond (decide (s_2.1 < (((x55.n : Nat) : Int))))
  (Ix x55 s_2.1 2 fun a60 =>
  LdA h15 a60 [.str, .sl] fun (x61 : ((ByteArray) × (Sl) × Unit)) =>
  New h15 (.cells #[(.int .i64 ((0 : Int)))] 3) fun r10 h16 =>
  New h16 (.cells #[(.string (⟨#[]⟩)), (.slice none 0 0)] 46) fun r11 h17 =>
  StL h17 (⟨r10, 0, none⟩) 0 [(.int .i64 s_2.1)] fun h18 =>
  StL h18 (⟨r11, 0, none⟩) 0 [(.string x61.1), (.slice x61.2.1.a x61.2.1.n x61.2.1.c)] fun h19 =>
  Ld h19 (Addr.add (⟨r11, 0, none⟩) 1) .sl fun (x63 : Sl) =>
  Lp (σ := (Int × Unit)) (fun K_2 s_3 h20 =>
  cond (decide (s_3.1 < (((x63.n : Nat) : Int))))
  (Ix x63 s_3.1 6 fun a68 =>
  LdA h20 a68 [.sl, .sl, (.int .i64), (.int .i64), .sl, (.int .i64)] fun (x69 : ((Sl) × (Sl) × (Int) × (Int) × (Sl) × (Int) × Unit)) =>
  New h20 (.cells #[(.int .i64 ((0 : Int)))] 3) fun r12 h21 =>
  New h21 (.cells #[(.slice none 0 0), (.slice none 0 0), (.int .i64 ((0 : Int))), (.int .i64 ((0 : Int))), (.slice none 0 0), (.int .i64 ((0 : Int)))] 55) fun r13 h22 =>
  StL h22 (⟨r12, 0, none⟩) 0 [(.int .i64 s_3.1)] fun h23 =>
  StL h23 (⟨r13, 0, none⟩) 0 [(.slice x69.1.a x69.1.n x69.1.c), (.slice x69.2.1.a x69.2.1.n x69.2.1.c), (.int .i64 x69.2.2.1), (.int .i64 x69.2.2.2.1), (.slice x69.2.2.2.2.1.a x69.2.2.2.2.1.n x69.2.2.2.2.1.c), (.int .i64 x69.2.2.2.2.2.1)] fun h24 =>
  Ld h24 (Addr.add (⟨r13, 0, none⟩) 1) .sl fun (x72 : Sl) =>
  Lp (σ := (Int × Unit)) (fun K_3 s_4 h25 =>
  cond (decide (s_4.1 < (((x72.n : Nat) : Int))))
  (Ix x72 s_4.1 7 fun a77 =>
  LdA h25 a77 [(.int .i64), (.int .i64), .sl, (.int .i64), (.int .i64), (.int .i64), (.int .i64)] fun (x78 : ((Int) × (Int) × (Sl) × (Int) × (Int) × (Int) × (Int) × Unit)) =>
  New h25 (.cells #[(.int .i64 ((0 : Int))), (.int .i64 ((0 : Int))), (.slice none 0 0), (.int .i64 ((0 : Int))), (.int .i64 ((0 : Int))), (.int .i64 ((0 : Int))), (.int .i64 ((0 : Int)))] 60) fun r16 h26 =>
  StL h26 (⟨r16, 0, none⟩) 0 [(.int .i64 x78.1), (.int .i64 x78.2.1), (.slice x78.2.2.1.a x78.2.2.1.n x78.2.2.1.c), (.int .i64 x78.2.2.2.1), (.int .i64 x78.2.2.2.2.1), (.int .i64 x78.2.2.2.2.2.1), (.int .i64 x78.2.2.2.2.2.2.1)] fun h27 =>
  LdA h27 (⟨r16, 0, none⟩) [(.int .i64), (.int .i64), .sl, (.int .i64), (.int .i64), (.int .i64), (.int .i64)] fun (x79 : ((Int) × (Int) × (Sl) × (Int) × (Int) × (Int) × (Int) × Unit)) =>
  CallK Try.prog 16 [(.agg ⟨[(.int .i64 x79.1), (.int .i64 x79.2.1), (.slice x79.2.2.1.a x79.2.2.1.n x79.2.2.1.c), (.int .i64 x79.2.2.2.1), (.int .i64 x79.2.2.2.2.1), (.int .i64 x79.2.2.2.2.2.1), (.int .i64 x79.2.2.2.2.2.2.1)]⟩)] h27 (.un (.one .sl)) fun (x80 : Sl) h28 =>
  Cut (σ := (Bool × Unit)) (fun s_5 h29 =>
  cond s_5.1
  (Cut (σ := (Unit)) (fun _ h30 =>
  Ld h30 (Addr.add (⟨r16, 0, none⟩) 2) .sl fun (x106 : Sl) =>
  Ix x106 ((0 : Int)) 1 fun a107 =>
  Ld h30 a107 (.int .i64) fun (x108 : Int) =>
  CallV Try.prog (.func (.func 15) ⟨[]⟩ ⟨[(.pointer (some (⟨r7, 0, none⟩))), (.pointer (some (⟨r10, 0, none⟩))), (.pointer (some (⟨r9, 0, none⟩))), (.pointer (some (⟨r12, 0, none⟩)))]⟩) [(.int .i64 s_4.1), (.int .i64 x108)] h30 (.tup []) fun (_ : (Unit)) h31 =>
  Wk h31 fun h32 => K_3 (IntKind.wrap .i64 (s_4.1 + ((1 : Int))), ()) h32) fun J_2 =>
  cond ((((x80.n : Nat) : Int)) != ((1 : Int)))
  (Wk h29 fun h33 => R (.bool false) h33)
  (Ix x80 ((0 : Int)) 1 fun a95 =>
  Ld h29 a95 (.int .i64) fun (x96 : Int) =>
  Ld h29 (Addr.add (⟨r16, 0, none⟩) 2) .sl fun (x98 : Sl) =>
  Ix x98 ((0 : Int)) 1 fun a99 =>
  Ld h29 a99 (.int .i64) fun (x100 : Int) =>
  cond (x96 != x100)
  (Wk h29 fun h34 => R (.bool false) h34)
  (Wk h29 fun h35 => J_2 (()) h35)))
  (Cut (σ := (Bool × Unit)) (fun s_7 h36 =>
  cond s_7.1
  (Cut (σ := (Unit)) (fun _ h37 =>
  Ld h37 (Addr.add (⟨r16, 0, none⟩) 2) .sl fun (x150 : Sl) =>
  Ix x150 ((0 : Int)) 1 fun a151 =>
  Ld h37 a151 (.int .i64) fun (x152 : Int) =>
  CallV Try.prog (.func (.func 15) ⟨[]⟩ ⟨[(.pointer (some (⟨r7, 0, none⟩))), (.pointer (some (⟨r10, 0, none⟩))), (.pointer (some (⟨r9, 0, none⟩))), (.pointer (some (⟨r12, 0, none⟩)))]⟩) [(.int .i64 s_4.1), (.int .i64 x152)] h37 (.tup []) fun (_ : (Unit)) h38 =>
  Ld h38 (Addr.add (⟨r16, 0, none⟩) 2) .sl fun (x157 : Sl) =>
  Ix x157 ((1 : Int)) 1 fun a158 =>
  Ld h38 a158 (.int .i64) fun (x159 : Int) =>
  CallV Try.prog (.func (.func 15) ⟨[]⟩ ⟨[(.pointer (some (⟨r7, 0, none⟩))), (.pointer (some (⟨r10, 0, none⟩))), (.pointer (some (⟨r9, 0, none⟩))), (.pointer (some (⟨r12, 0, none⟩)))]⟩) [(.int .i64 s_4.1), (.int .i64 x159)] h38 (.tup []) fun (_ : (Unit)) h39 =>
  Wk h39 fun h40 => K_3 (IntKind.wrap .i64 (s_4.1 + ((1 : Int))), ()) h40) fun J_4 =>
  cond ((((x80.n : Nat) : Int)) != ((2 : Int)))
  (Wk h36 fun h41 => R (.bool false) h41)
  (Ix x80 ((0 : Int)) 1 fun a129 =>
  Ld h36 a129 (.int .i64) fun (x130 : Int) =>
  Ld h36 (Addr.add (⟨r16, 0, none⟩) 2) .sl fun (x132 : Sl) =>
  Ix x132 ((0 : Int)) 1 fun a133 =>
  Ld h36 a133 (.int .i64) fun (x134 : Int) =>
  cond (x130 != x134)
  (Wk h36 fun h42 => R (.bool false) h42)
  (Ix x80 ((1 : Int)) 1 fun a139 =>
  Ld h36 a139 (.int .i64) fun (x140 : Int) =>
  Ld h36 (Addr.add (⟨r16, 0, none⟩) 2) .sl fun (x142 : Sl) =>
  Ix x142 ((1 : Int)) 1 fun a143 =>
  Ld h36 a143 (.int .i64) fun (x144 : Int) =>
  cond (x140 != x144)
  (Wk h36 fun h43 => R (.bool false) h43)
  (Wk h36 fun h44 => J_4 (()) h44))))
  (cond ((((x80.n : Nat) : Int)) != ((0 : Int)))
  (Wk h36 fun h45 => R (.bool false) h45)
  (Wk h36 fun h46 => K_3 (IntKind.wrap .i64 (s_4.1 + ((1 : Int))), ()) h46))) fun J_3 =>
  Ld h29 (Addr.add (⟨r16, 0, none⟩) 0) (.int .i64) fun (x112 : Int) =>
  cond (x112 == ((2 : Int)))
  (Ld h29 (Addr.add (⟨r16, 0, none⟩) 4) (.int .i64) fun (x116 : Int) =>
  cond (x116 == ((4 : Int)))
  (Wk h29 fun h47 => J_3 (true, ()) h47)
  (Ld h29 (Addr.add (⟨r16, 0, none⟩) 4) (.int .i64) fun (x120 : Int) =>
  Wk h29 fun h48 => J_3 (x120 == ((5 : Int)), ()) h48))
  (Wk h29 fun h49 => J_3 (false, ()) h49))) fun J_1 =>
  Ld h28 (Addr.add (⟨r16, 0, none⟩) 0) (.int .i64) fun (x83 : Int) =>
  cond (x83 == ((5 : Int)))
  (Wk h28 fun h50 => J_1 (true, ()) h50)
  (Ld h28 (Addr.add (⟨r16, 0, none⟩) 0) (.int .i64) fun (x87 : Int) =>
  Wk h28 fun h51 => J_1 (x87 == ((6 : Int)), ()) h51))
  (Ld h25 (Addr.add (Addr.add (⟨r13, 0, none⟩) 2) 0) (.int .i64) fun (x168 : Int) =>
  cond (x168 == ((2 : Int)))
  (Ld h25 (Addr.add (⟨r13, 0, none⟩) 1) .sl fun (x172 : Sl) =>
  Ld h25 (Addr.add (Addr.add (⟨r13, 0, none⟩) 2) 1) (.int .i64) fun (x176 : Int) =>
  CallV Try.prog (.func (.func 15) ⟨[]⟩ ⟨[(.pointer (some (⟨r7, 0, none⟩))), (.pointer (some (⟨r10, 0, none⟩))), (.pointer (some (⟨r9, 0, none⟩))), (.pointer (some (⟨r12, 0, none⟩)))]⟩) [(.int .i64 (((x172.n : Nat) : Int))), (.int .i64 x176)] h25 (.tup []) fun (_ : (Unit)) h52 =>
  Wk h52 fun h53 => K_2 (IntKind.wrap .i64 (s_3.1 + ((1 : Int))), ()) h53)
  (Wk h25 fun h54 => K_2 (IntKind.wrap .i64 (s_3.1 + ((1 : Int))), ()) h54)))
  ((0 : Int), ()) h24)
  (Wk h20 fun h55 => K_1 (IntKind.wrap .i64 (s_2.1 + ((1 : Int))), ()) h55))
  ((0 : Int), ()) h19)
  (LdA h15 (⟨r2, 0, none⟩) [.sl, .sl, (.int .i64)] fun (x180 : ((Sl) × (Sl) × (Int) × Unit)) =>
  LdA h15 (⟨r7, 0, none⟩) [.sl, .sl, .sl, .sl] fun (x181 : ((Sl) × (Sl) × (Sl) × (Sl) × Unit)) =>
  CallK Try.prog 17 [(.agg ⟨[(.slice x180.1.a x180.1.n x180.1.c), (.slice x180.2.1.a x180.2.1.n x180.2.1.c), (.int .i64 x180.2.2.1)]⟩), (.agg ⟨[(.slice x181.1.a x181.1.n x181.1.c), (.slice x181.2.1.a x181.2.1.n x181.2.1.c), (.slice x181.2.2.1.a x181.2.2.1.n x181.2.2.1.c), (.slice x181.2.2.2.1.a x181.2.2.2.1.n x181.2.2.2.1.c)]⟩)] h15 (.un (.one .sl)) fun (x182 : Sl) h56 =>
  Ld h56 (⟨r9, 0, none⟩) .sl fun (x185 : Sl) =>
  cond ((((x182.n : Nat) : Int)) != (((x185.n : Nat) : Int)))
  (Wk h56 fun h57 => R (.bool false) h57)
  (Lp (σ := (Int × Unit)) (fun K_4 s_9 h58 =>
  cond (decide (s_9.1 < (((x182.n : Nat) : Int))))
  (Ix x182 s_9.1 5 fun a195 =>
  LdA h58 a195 [(.int .i64), (.int .i64), (.int .i64), (.int .i64), (.int .i64)] fun (x196 : ((Int) × (Int) × (Int) × (Int) × (Int) × Unit)) =>
  Ld h58 (⟨r9, 0, none⟩) .sl fun (x197 : Sl) =>
  Ix x197 s_9.1 5 fun a199 =>
  LdA h58 a199 [(.int .i64), (.int .i64), (.int .i64), (.int .i64), (.int .i64)] fun (x200 : ((Int) × (Int) × (Int) × (Int) × (Int) × Unit)) =>
  cond (!((x196.1 == x200.1) && ((x196.2.1 == x200.2.1) && ((x196.2.2.1 == x200.2.2.1) && ((x196.2.2.2.1 == x200.2.2.2.1) && ((x196.2.2.2.2.1 == x200.2.2.2.2.1) && (true)))))))
  (Wk h58 fun h59 => R (.bool false) h59)
  (Wk h58 fun h60 => K_4 (IntKind.wrap .i64 (s_9.1 + ((1 : Int))), ()) h60))
  (Wk h58 fun h61 => R (.bool true) h61))
  ((0 : Int), ()) h56)))
  ((0 : Int), ()) h14)))
  ((0 : Int), ()) h4) fun J =>
  LdA h2 (⟨r2, 0, none⟩) [.sl, .sl, (.int .i64)] fun (x22 : ((Sl) × (Sl) × (Int) × Unit)) =>
  CallK Try.prog 8 [(.agg ⟨[(.slice x22.1.a x22.1.n x22.1.c), (.slice x22.2.1.a x22.2.1.n x22.2.1.c), (.int .i64 x22.2.2.1)]⟩)] h2 (.un (.one .bool)) fun (x23 : Bool) h62 =>
  cond (!x23)
  (Wk h62 fun h63 => R (.bool true) h63)
  (LdA h62 (⟨r2, 0, none⟩) [.sl, .sl, (.int .i64)] fun (x26 : ((Sl) × (Sl) × (Int) × Unit)) =>
  CallK Try.prog 10 [(.agg ⟨[(.slice x26.1.a x26.1.n x26.1.c), (.slice x26.2.1.a x26.2.1.n x26.2.1.c), (.int .i64 x26.2.2.1)]⟩)] h62 (.un (.one (.int .i64))) fun (x27 : Int) h64 =>
  cond (x27 != ((0 : Int)))
  (Wk h64 fun h65 => R (.bool true) h65)
  (cond (decide ((((p1.n : Nat) : Int)) > ((6 : Int))))
  (Wk h64 fun h66 => R (.bool true) h66)
  (Wk h64 fun h67 => J (()) h67))))
theorem S6_eq (p0_0 : Sl) (p0_1 : Sl) (p0_2 : Int) (p1 : Sl) (h : V) (R : Value → V → Prop) : ABody Try.prog an6 Try.f6 [(.agg ⟨[(.slice p0_0.a p0_0.n p0_0.c), (.slice p0_1.a p0_1.n p0_1.c), (.int .i64 p0_2)]⟩), (.slice p1.a p1.n p1.c)] h R = S6 p0_0 p0_1 p0_2 p1 h R := by kernel_rfl
theorem S6_ok (p0_0 : Sl) (p0_1 : Sl) (p0_2 : Int) (p1 : Sl) (h : V) (R : Value → V → Prop) (hk : S6 p0_0 p0_1 p0_2 p1 h R) : ACalls Try.prog 6 [(.agg ⟨[(.slice p0_0.a p0_0.n p0_0.c), (.slice p0_1.a p0_1.n p0_1.c), (.int .i64 p0_2)]⟩), (.slice p1.a p1.n p1.c)] h R :=
  ABody_sound mixed Try.func6 Try.call6 (by kernel_rfl) (by kernel_rfl) (an := an6) (by rw [S6_eq]; exact hk)

end Go.Proofs.Ytaefmhephoilmaa

/- TaintPlain: its walk. -/
namespace Go.Proofs.Ytaefmhephoilmaa
open Go Go.VL

theorem insOfP_succ {p : ProgD} {k : Nat} (hk : k < p.funcs.length) : (p.funcs.take (k + 1)).flatMap insOfF = (p.funcs.take k).flatMap insOfF ++ insOfF p.funcs[k] := by
  rw [List.take_succ_eq_append_getElem hk, List.flatMap_append, List.flatMap_singleton]
theorem insOfF_succ {bs : List BlockD} {k : Nat} (hk : k < bs.length) : (bs.take (k + 1)).flatMap BlockD.ins = (bs.take k).flatMap BlockD.ins ++ bs[k].ins := by
  rw [List.take_succ_eq_append_getElem hk, List.flatMap_append, List.flatMap_singleton]
theorem map_head {α β : Type} (l : List α) (f : α → β) {i : Nat} (h : i < (l.map f).length) (h' : i < l.length) : (l.map f)[i] = f l[i] := List.getElem_map _

set_option maxRecDepth 100000 in
theorem walk5 {h : V} {p : ProgD} {sa sf : Sl} (ha : isArrs h sa p.arrays) (hf : isFuncs h sf p.funcs) :
    ACalls Try.prog 5 [.agg ⟨[sV sa, sV sf, iV p.main]⟩] h (fun v h' => v = .bool true ∧ Le h h') := by
  refine S5_ok _ _ _ _ _ (New_box fun r1 h1 hr1 l1 b1 => c_head fun h2 l2 => ⟨true, rfl, cond_not (fun e => by cases e) (fun _ => ?_)⟩)
  have l02 := l1.trans l2
  have b1' := b1.le l2
  have T : ∀ {hh}, Le h hh → Wk hh fun h' => (Value.bool true = .bool true ∧ Le h h') := fun l => Wk_self ⟨rfl, l⟩
  refine Cut_i (fun _ hh => h2 = hh ∧ FewOk p ∧ CheckOk p) (fun J hJ => ?_) ?_
  · refine ⟨(sa, sf, p.main, ()), b1'.cells, c_Few (ha.le mono_arr l02) (hf.le mono_func l02) fun b hb => ⟨b, rfl, cond_not (fun _ => T l02) (fun hy => ?_)⟩⟩
    have few := hb hy
    refine ⟨(sa, sf, p.main, ()), b1'.cells, c_Check (ha.le mono_arr l02) (hf.le mono_func l02) (few_B few) fun n _ hn => ⟨n, rfl, cond_nei (fun _ => T l02) (fun e => Wk_self (hJ _ _ ⟨rfl, few, hn.1 e⟩))⟩⟩
  rintro _ _ ⟨rfl, few, ok⟩
  refine ⟨(sa, sf, p.main, ()), b1'.cells, c_Clone (ha.le mono_arr l02) (hf.le mono_func l02) few fun xa xf h5 l5 oa hf5 => ⟨(xa, xf, p.main, ()), rfl, ?_⟩⟩
  refine New_box fun r3 h6 hr3 l6 b3 => StL_box (h := h5) b3 rfl l6 hr3 fun h7 l7 b3' f7 => ?_
  have l27 := l5.trans l7
  have r3a : ∀ a, xa.a = some a → a.block ≠ r3 := fun a ha e => by
    obtain ⟨_, arr, hh⟩ := oa.blk ha
    rw [e, hr3] at hh; cases hh
  have na := few.arrays
  have nf := few.funcs
  refine ⟨xa, b3'.cell rfl, ?_⟩
  have oa7 : OwnS h h7 xa 66 3 (p.arrays.flatMap arrV) := (oa.base l02).le l7
  have nxa : xa.n = p.arrays.length := by have := oa7.1; rw [flat_len (sz := 3) (fun _ => rfl : ∀ y, (arrV y).length = 3)] at this; omega
  have l07 := l02.trans l27
  refine Lp_count p.arrays.length (fun k st hh => st = ((k : Int), ()) ∧ Le h hh ∧ Le (V.ex h7 xa) (V.ex hh xa) ∧ ∃ l, OwnS h hh xa 66 3 (l.flatMap arrV) ∧ l.length = p.arrays.length ∧ ∀ j : Nat, l[j]? = (p.arrays[j]?).map fun a => if j < k then openA a else a)
    ⟨rfl, l07, Le.refl _, p.arrays, oa7, rfl, fun j => by cases p.arrays[j]? <;> simp⟩ ?_
  rintro k _ h8 K hk ⟨rfl, l08, l78, l, o8, ll, hl⟩ hK
  have b38 : Box h8 r3 [sV xa, sV xf, iV p.main] 25 := ex_step l78 b3' fun a ha => (r3a a ha).symm
  refine cond_dec (fun hlt => ?_) (fun hge => ?_)
  · have hk' : k < p.arrays.length := by simp only at hlt; omega
    have hkl : k < l.length := by omega
    refine ⟨xa, b38.cell rfl, ?_⟩
    refine OwnS.setN (enc := arrV) (sz := 3) (d := 1) (vs := [iV 1]) (openA l[k]) (fun _ => rfl) o8 l08 hkl rfl (by simp) (by omega) fun h9 l9 o9 f9 => ?_
    refine Wk_self (hK _ _ hk' ⟨by rw [wnat hk' (by omega)], l9, l78.trans (V.ex_set f9), _, o9, by simp [ll], fun j => ?_⟩)
    by_cases e : k = j
    · subst e
      have := hl k
      rw [List.getElem?_eq_getElem hkl, List.getElem?_eq_getElem hk'] at this
      have e2 : l[k] = p.arrays[k] := by simpa using this
      rw [List.getElem?_set_self hkl, List.getElem?_eq_getElem hk', e2]
      simp
    · rw [List.getElem?_set_ne e, hl j]
      cases p.arrays[j]? with
      | none => rfl
      | some a =>
        have : (j < k) ↔ (j < k + 1) := by omega
        simp only [this]
  have : k = p.arrays.length := by simp only at hge; omega
  subst this
  have el : l = (openP p).arrays := by
    apply List.ext_getElem?
    intro j
    rw [hl j]
    show _ = (p.arrays.map openA)[j]?
    rw [List.getElem?_map]
    cases hx : p.arrays[j]? with
    | none => rfl
    | some a =>
      have := (List.getElem?_eq_some_iff.1 hx).1
      simp [this]
  subst el
  have ia : isArrs h8 xa (openP p).arrays := o8.slN (fun _ => rfl) (by omega)
  have fa : isFuncs (V.ex h8 xa) xf p.funcs := hf5.le mono_func ((V.ex_mono l7).trans l78)
  have fa8 : isFuncs h8 xf (openP p).funcs := fa.le mono_func (V.ex_le _ _)
  refine ⟨(xa, xf, p.main, ()), b38.cells, ?_⟩
  refine c_Of (p := openP p) (cutIn := []) (pc := ⟨none, 0, 0⟩) ia fa8 (isSl_nil _ _ _) (few_open few) (fun hn => absurd (ok_open ok) hn) fun _ h11 vs ar rs cs L l11 lab hL => ⟨((vs, ar, rs, cs, ()), 0, ()), rfl, ?_⟩
  obtain ⟨L2, L1, Lr, La⟩ := no_secret hL
  refine New_box fun r5 h12 hr5 l12 b5 => StL_box (h := h11) b5 rfl l12 hr5 fun h13 l13 b5' f13 => cond_nei (fun h => absurd rfl h) fun _ => ?_
  have l813 := l11.trans l13
  have l013 := l08.trans l813
  have b313 := b38.le l813
  have f13' := fa8.le mono_func l813
  have hv := lab.vals.le mono_vals l13
  have hr := lab.rets.le mono_int l13
  have hr' := lab.arrs.le mono_int l13
  refine ⟨xf, b313.cell rfl, ?_⟩
  refine Lp_count p.funcs.length (fun k st hh => st = (memB ((p.funcs.take k).flatMap insOfF), (k : Int), ()) ∧ Le h13 hh) ⟨rfl, Le.refl _⟩ ?_
  rintro k _ h15 K hk ⟨rfl, l15⟩ hK
  refine cond_dec (fun hlt => ?_) (fun hge => ?_)
  · have hk' : k < p.funcs.length := by have := f13'.len; simp only at hlt; have e : (openP p).funcs.length = p.funcs.length := rfl; omega
    refine elem_func f13' l15 hk' rfl rfl fun sb hsb r9 h17 l17 l17' hr9 b9 => ⟨sb, b9.cell rfl, ?_⟩
    have hsb : isBlocks h13 sb p.funcs[k].blocks := hsb
    refine Lp_count p.funcs[k].blocks.length (fun n st hh => st = (memB ((p.funcs.take k).flatMap insOfF ++ (p.funcs[k].blocks.take n).flatMap BlockD.ins), (n : Int), ()) ∧ Le h13 hh) ⟨by simp, l17⟩ ?_
    rintro n _ h18 K1 hn ⟨rfl, l18⟩ hK1
    refine cond_dec (fun hlt => ?_) (fun hge => ?_)
    · have hn' : n < p.funcs[k].blocks.length := by have := hsb.len; simp only at hlt; omega
      refine elem_block hsb l18 hn' rfl rfl fun pp ii ww hpp hii hww r11 h20 l20 l20' hr11 b11 => ⟨ii, b11.cell rfl, ?_⟩
      refine Lp_count p.funcs[k].blocks[n].ins.length (fun j st hh => st = (memB (((p.funcs.take k).flatMap insOfF ++ (p.funcs[k].blocks.take n).flatMap BlockD.ins) ++ p.funcs[k].blocks[n].ins.take j), (j : Int), ()) ∧ Le h13 hh) ⟨by simp, l20⟩ ?_
      rintro j _ h21 K2 hj ⟨rfl, l21⟩ hK2
      refine cond_dec (fun hlt => ?_) (fun hge => ?_)
      · have hj' : j < p.funcs[k].blocks[n].ins.length := by have := hii.len; simp only at hlt; omega
        refine elem_ins hii l21 hj' rfl rfl fun q hq r13 h23 l23 l23' hr13 b13 => ?_
        have et : memB (((p.funcs.take k).flatMap insOfF ++ (p.funcs[k].blocks.take n).flatMap BlockD.ins) ++ p.funcs[k].blocks[n].ins.take (j + 1)) = (memB (((p.funcs.take k).flatMap insOfF ++ (p.funcs[k].blocks.take n).flatMap BlockD.ins) ++ p.funcs[k].blocks[n].ins.take j) || decide (p.funcs[k].blocks[n].ins[j].op = 5 ∨ p.funcs[k].blocks[n].ins[j].op = 3)) := by
          rw [List.take_succ_eq_append_getElem hj', ← List.append_assoc, memB_one]
        refine cond_b (fun hm => ?_) (fun hm => ?_)
        · exact Wk_self (hK2 _ _ hj' ⟨by rw [wnat hj' hii.bd, et, show memB _ = true from hm]; rfl, l23⟩)
        · have hm : memB _ = false := hm
          refine ⟨_, b13.cell rfl, cond_eqi (fun e => ?_) (fun e => ⟨_, b13.cell rfl, ?_⟩)⟩
          · have e : p.funcs[k].blocks[n].ins[j].op = 5 := e
            exact Wk_self (hK2 _ _ hj' ⟨by rw [wnat hj' hii.bd, et, hm]; simp [e], l23⟩)
          · have e : ¬ p.funcs[k].blocks[n].ins[j].op = 5 := e
            refine Wk_self (hK2 _ _ hj' ⟨?_, l23⟩)
            rw [wnat hj' hii.bd, et, hm]
            simp [e]; rfl
      · have : j = p.funcs[k].blocks[n].ins.length := by have := hii.len; simp only at hge; omega
        subst this
        refine Wk_self (hK1 _ _ hn' ⟨?_, l21⟩)
        rw [wnat hn' hsb.bd, insOfF_succ hn', ← List.append_assoc, List.take_of_length_le (Nat.le_refl _)]
    · have : n = p.funcs[k].blocks.length := by have := hsb.len; simp only at hge; omega
      subst this
      refine Wk_self (hK _ _ hk' ⟨?_, l18⟩)
      rw [wnat hk' (by omega), insOfP_succ hk', List.take_of_length_le (Nat.le_refl _)]
      rfl
  have : k = p.funcs.length := by have := f13'.len; simp only at hge; have e : (openP p).funcs.length = p.funcs.length := rfl; omega
  subst this
  have emem : memB ((p.funcs.take p.funcs.length).flatMap insOfF) = memB (insOfP p) := by rw [List.take_of_length_le (Nat.le_refl _)]; rfl
  refine ⟨xf, (b313.le l15).cell rfl, ?_⟩
  have l015 := l013.trans l15
  refine Lp_count p.funcs.length (fun k st hh => st = ((k : Int), ()) ∧ Le h15 hh) ⟨rfl, Le.refl _⟩ ?_
  rintro k _ h29 K hk ⟨rfl, l29⟩ hK
  have b5k := b5'.le (l15.trans l29)
  refine cond_dec (fun hlt => ?_) (fun hge => ?_)
  · have hk' : k < p.funcs.length := by have := f13'.len; simp only at hlt; have e : (openP p).funcs.length = p.funcs.length := rfl; omega
    have hkv : k < ((List.range (openP p).funcs.length).map fun f v => L (.val f v)).length := by rw [List.length_map, List.length_range]; exact hk'
    refine ⟨vs, b5k.cell rfl, hv.ixn hkv fun a ⟨q, o, m, x1, x2, x3, x4⟩ => ⟨some q, cellq_le (l15.trans l29) x1, ?_⟩⟩
    have x2' := (l15.trans l29) _ _ x2
    refine Rng_map (kd := .int .i64) x2' x3 fun it h30 hit l30 _ hI => ?_
    have x4' : ∀ v, (mget m v).getD 0 = L (.val k v) := fun v => by
      rw [x4 v, map_head _ _ hkv (by rw [List.length_range]; exact hk'), List.getElem_range]
    refine Lp_iter (kd := .int .i64) (m0 := m) (B := fun K' _ _ v hh => unK (.int .i64) v fun (x100 : Int) => cond (x100 == 2) (Wk hh fun h33 => _) (cond (x100 == 1) _ _)) (fun m' left _ hh => m' = m ∧ Le h15 hh) hI ⟨rfl, l29.trans l30⟩ ?_ ?_
    · rintro m' left _ hh h' pr K' hI1 ⟨rfl, lhh⟩ hp hf' hI2 hK'
      have hpm : (pr.1, pr.2) ∈ m' := IterAt.mem hI1 pr hp
      have hval : pr.2 = L (.val k pr.1) := by
        have := x4' pr.1
        rw [(mget_mem x3.nodup).2 hpm] at this
        exact this
      have lh' : Le h15 h' := fun b o hb => by
        rw [hf' b (fun e => by rw [e, l29.nil hit] at hb; cases hb)]; exact lhh _ _ hb
      refine unK_i (cond_eqi (fun e => absurd (hval ▸ e) (L2 k pr.1)) (fun _ => cond_eqi (fun e => ?_) (fun _ => Wk_self (hK' _ _ _ hI2 ⟨rfl, lh'⟩))))
      have e : pr.2 = 1 := e
      refine cond_not (fun hm => ?_) (fun _ => Wk_self (hK' _ _ _ hI2 ⟨rfl, lh'⟩))
      have := L1 k pr.1 (by rw [← hval]; exact e)
      have hm : memB ((p.funcs.take p.funcs.length).flatMap insOfF) = false := hm
      rw [emem, this] at hm; cases hm
    · rintro m' _ hh K' hI1 ⟨rfl, lhh⟩
      have lhh' := l15.trans lhh
      have hkr : k < ((List.range (openP p).funcs.length).map fun i => L (.ret i)).length := by rw [List.length_map, List.length_range]; exact hk'
      refine ⟨rs, (b5'.le lhh').cell rfl, (hr.le mono_int lhh').ixn hkr fun a ha' => ⟨_, ha', ?_⟩⟩
      rw [map_head _ _ hkr (by rw [List.length_range]; exact hk'), List.getElem_range]
      exact cond_nei (fun e => absurd (Lr k) e) (fun _ => Wk_self (hK _ _ hk' ⟨by rw [wnat hk' (by omega)], lhh⟩))
  · refine ⟨ar, b5k.cell rfl, ?_⟩
    have l1529 := l15.trans l29
    refine Lp_count (openP p).arrays.length (fun k st hh => st = ((k : Int), ()) ∧ h29 = hh) ⟨rfl, rfl⟩ ?_
    rintro i _ _ K' hi ⟨rfl, rfl⟩ hK'
    refine cond_dec (fun hlt => ?_) (fun hge => T (l015.trans l29))
    have hi' : i < (openP p).arrays.length := by have := hr'.len; simp only at hlt; simp at this; omega
    have hiv : i < ((List.range (openP p).arrays.length).map fun i => L (.arr i)).length := by rw [List.length_map, List.length_range]; exact hi'
    refine (hr'.le mono_int l1529).ixn hiv fun a ha' => ⟨_, ha', ?_⟩
    rw [map_head _ _ hiv (by rw [List.length_range]; exact hi'), List.getElem_range]
    exact cond_nei (fun e => absurd (La i) e) (fun _ => Wk_self (hK' _ _ hi' ⟨by rw [wnat hi' (by show (p.arrays.map openA).length ≤ _; rw [List.length_map]; omega)], rfl⟩))
end Go.Proofs.Ytaefmhephoilmaa

/- TaintPlain: the row. -/
namespace Go.Proofs.Ytaefmhephoilmaa
open Go Go.VL Go.ChangeShapes Go.WideShapes Go.ChangeAt Go.RowKit

theorem u4b : Try.prog.underlying 4 = some .bool := by kernel_rfl
theorem own : ownKnob Try.prog.godebug = none := by kernel_rfl
theorem laidOut : laidOutB Try.prog = true := by kernel_rfl
set_option maxRecDepth 100000 in
theorem lifted5 (os : Os) (started : os.Started) (H : Type) (enc : TypeId × Value → H) :
    ReturnsInHanded {} Try.checked os 5 .any (Rows.taintPlainSpec.pre6 enc Try.prog Try.f5 Rows.taintPlainRow.domain false) (Rows.taintPlainSpec.post enc Try.prog Try.f5 false true false false) := by
  refine returnsInHanded_of_change (C := Try.checked) own started (by kernel_rfl) Try.func5
    (ChangeSpec.witness6 (enc := enc) (C := Try.checked) false ⟨#[], #[.agg #[.slice none 0 0, .slice none 0 0, .int .i64 0]], []⟩ 8 (by kernel_rfl) (by kernel_rfl) (by kernel_rfl) (by kernel_rfl)) ?_
  intro W base args ds gs before hval0 hW hcnd _
  have hW' := hW
  obtain ⟨p, q, hA0, hV, rfl, hfz, hnd⟩ := hW
  have hA : DataW.TrodAll enc Try.prog W 0 (fun _ => true) true Try.f5.params.toList args.toList ds p := hA0
  have hval : ∀ (j : Nat) t v, Try.f5.params[j]? = some t → args[j]? = some v → Value.okWide Try.prog W .any base t v := hval0
  rw [show Try.f5.params = #[25] from by kernel_rfl] at hA hval
  obtain ⟨v0, vs0, d0, ds0, p0, q0, hargs, rfl, rfl, h0, r0⟩ := trodAll_cons hA
  obtain ⟨rfl, rfl, rfl⟩ := trodAll_nil r0
  obtain rfl : args = #[v0] := by cases args; simp_all
  obtain ⟨rfl, rfl⟩ := trodVars_none hV
  have k0 := h0
  have lt0 : ∀ x ∈ p0, x.block < W.heap.size := by obtain ⟨m, hm⟩ := k0; exact DataW.trod_lt m _ _ _ hm
  obtain ⟨m0, hm0⟩ := h0
  obtain ⟨sa, sf, pr, e0, ha, hf⟩ := rd_prog ⟨m0, _, hm0⟩
  have ev0 : v0 = .agg ⟨[sV sa, sV sf, iV pr.main]⟩ := by
    cases v0 <;> simp [Value.cells] at e0
    rename_i cs
    exact congrArg Value.agg (Array.ext' e0)
  subst ev0
  refine ((walk5 ha hf).2 W (sees_of W)).mono fun e W' ⟨kept, v, h', he, hs, hv, hle⟩ => ?_
  subst he hv
  have bel := below_of kept hs hle
  exact ⟨_, rfl, _, _, _, [], _, [], hW', trodAll_mk1 (shut_bool u4b _), (trodAll_cons_mk (Below.trod laidOut (by kernel_rfl) (of_decide_eq_true (by kernel_rfl)) k0 bel lt0) trodAll_mk0), rfl, bel.frame _, fun h => by cases h⟩
theorem over5 : Rows.taintPlainRow.holds Try.pinned (OpenSpec.ofChange Rows.taintPlainSpec) :=
  OpenClaim.holds_of_wide 5 Try.f5 rfl rfl rfl rfl rfl rfl rfl ⟨rfl, rfl, rfl, rfl, rfl⟩ rfl rfl rfl rfl rfl (by kernel_rfl) Try.func5 (by kernel_rfl)
    (of_decide_eq_true (by kernel_rfl)) (by unfold Func.isWrapper; first | (rw [if_pos (by decide +kernel)]; kernel_rfl) | (rw [if_neg (by decide +kernel)]; exact ⟨rfl, rfl⟩))
    (fun os started H enc _ => lifted5 os started H enc)
theorem proved5 : Rows.TaintPlainSaid := over5
#print axioms proved5
end Go.Proofs.Ytaefmhephoilmaa
