/- What functions of the program ask of a view of memory: printed by shal.py. -/
import Derived.Test.YtaefmhephoilmaaProg
import Derived.Test.YtaefmhephoilmaaSa
import Derived.KernelRfl
namespace Go.Proofs.Ytaefmhephoilmaa
open Go Go.VL
set_option maxRecDepth 100000
/- palings/palingslaw07.Few -/
def an8 : An := (.two .nil (.cut [] (.two .nil (.two (.two .nil .nil) .nil)) (.two (.two .nil (.one (.loop [(24, (.one (.int .i64)))] (.two .nil (.two (.two .nil .nil) (.two (.one (.two .nil (.cut [] (.two .nil (.two (.two .nil .nil) .nil)) (.two .nil (.one (.loop [(41, (.one (.int .i64)))] (.two .nil (.two (.two .nil .nil) (.two (.one (.two .nil (.cut [] (.two .nil (.two (.two .nil .nil) .nil)) (.two (.two .nil (.one (.loop [(65, (.one (.int .i64)))] (.two .nil (.two (.two .nil .nil) (.two (.one (.two .nil (.two .nil (.two (.two .nil .nil) .nil)))) .nil)))))) (.two .nil (.one (.loop [(78, (.one (.int .i64)))] (.two .nil (.two (.two .nil .nil) (.two (.one (.two .nil (.two .nil (.two (.two .nil .nil) .nil)))) .nil)))))))))) .nil))))))))) .nil)))))) (.two .nil .nil))))
def S8 (p0_0 : Sl) (p0_1 : Sl) (p0_2 : Int) (h : V) (R : Value → V → Prop) : Prop :=
  New h (.cells #[(.slice p0_0.a p0_0.n p0_0.c), (.slice p0_1.a p0_1.n p0_1.c), (.int .i64 p0_2)] 25) fun r1 h1 =>
  Cut (σ := (Unit)) (fun _ h2 =>
  Ld h2 (Addr.add (⟨r1, 0, none⟩) 1) .sl fun (x22 : Sl) =>
  Lp (σ := (Int × Unit)) (fun K s_1 h3 =>
  cond (decide (s_1.1 < (((x22.n : Nat) : Int))))
  (Ix x22 s_1.1 2 fun a26 =>
  LdA h3 a26 [.str, .sl] fun (x27 : ((ByteArray) × (Sl) × Unit)) =>
  New h3 (.cells #[(.string (⟨#[]⟩)), (.slice none 0 0)] 46) fun r4 h4 =>
  StL h4 (⟨r4, 0, none⟩) 0 [(.string x27.1), (.slice x27.2.1.a x27.2.1.n x27.2.1.c)] fun h5 =>
  Cut (σ := (Unit)) (fun _ h6 =>
  Ld h6 (Addr.add (⟨r4, 0, none⟩) 1) .sl fun (x39 : Sl) =>
  Lp (σ := (Int × Unit)) (fun K_1 s_3 h7 =>
  cond (decide (s_3.1 < (((x39.n : Nat) : Int))))
  (Ix x39 s_3.1 6 fun a43 =>
  LdA h7 a43 [.sl, .sl, (.int .i64), (.int .i64), .sl, (.int .i64)] fun (x44 : ((Sl) × (Sl) × (Int) × (Int) × (Sl) × (Int) × Unit)) =>
  New h7 (.cells #[(.slice none 0 0), (.slice none 0 0), (.int .i64 ((0 : Int))), (.int .i64 ((0 : Int))), (.slice none 0 0), (.int .i64 ((0 : Int)))] 55) fun r6 h8 =>
  StL h8 (⟨r6, 0, none⟩) 0 [(.slice x44.1.a x44.1.n x44.1.c), (.slice x44.2.1.a x44.2.1.n x44.2.1.c), (.int .i64 x44.2.2.1), (.int .i64 x44.2.2.2.1), (.slice x44.2.2.2.2.1.a x44.2.2.2.2.1.n x44.2.2.2.2.1.c), (.int .i64 x44.2.2.2.2.2.1)] fun h9 =>
  Cut (σ := (Unit)) (fun _ h10 =>
  Ld h10 (Addr.add (⟨r6, 0, none⟩) 1) .sl fun (x63 : Sl) =>
  Lp (σ := (Int × Unit)) (fun K_2 s_5 h11 =>
  cond (decide (s_5.1 < (((x63.n : Nat) : Int))))
  (Ix x63 s_5.1 7 fun a67 =>
  LdA h11 a67 [(.int .i64), (.int .i64), .sl, (.int .i64), (.int .i64), (.int .i64), (.int .i64)] fun (x68 : ((Int) × (Int) × (Sl) × (Int) × (Int) × (Int) × (Int) × Unit)) =>
  New h11 (.cells #[(.int .i64 ((0 : Int))), (.int .i64 ((0 : Int))), (.slice none 0 0), (.int .i64 ((0 : Int))), (.int .i64 ((0 : Int))), (.int .i64 ((0 : Int))), (.int .i64 ((0 : Int)))] 60) fun r8 h12 =>
  StL h12 (⟨r8, 0, none⟩) 0 [(.int .i64 x68.1), (.int .i64 x68.2.1), (.slice x68.2.2.1.a x68.2.2.1.n x68.2.2.1.c), (.int .i64 x68.2.2.2.1), (.int .i64 x68.2.2.2.2.1), (.int .i64 x68.2.2.2.2.2.1), (.int .i64 x68.2.2.2.2.2.2.1)] fun h13 =>
  Ld h13 (Addr.add (⟨r8, 0, none⟩) 2) .sl fun (x70 : Sl) =>
  cond (decide ((((x70.n : Nat) : Int)) > ((20 : Int))))
  (Wk h13 fun h14 => R (.bool false) h14)
  (Wk h13 fun h15 => K_2 (IntKind.wrap .i64 (s_5.1 + ((1 : Int))), ()) h15))
  (Ld h11 (Addr.add (Addr.add (⟨r6, 0, none⟩) 2) 2) .sl fun (x76 : Sl) =>
  Lp (σ := (Int × Unit)) (fun K_3 s_6 h16 =>
  cond (decide (s_6.1 < (((x76.n : Nat) : Int))))
  (Ix x76 s_6.1 2 fun a80 =>
  LdA h16 a80 [(.int .i64), .sl] fun (x81 : ((Int) × (Sl) × Unit)) =>
  New h16 (.cells #[(.int .i64 ((0 : Int))), (.slice none 0 0)] 74) fun r10 h17 =>
  StL h17 (⟨r10, 0, none⟩) 0 [(.int .i64 x81.1), (.slice x81.2.1.a x81.2.1.n x81.2.1.c)] fun h18 =>
  Ld h18 (Addr.add (⟨r10, 0, none⟩) 1) .sl fun (x83 : Sl) =>
  cond (decide ((((x83.n : Nat) : Int)) > ((20 : Int))))
  (Wk h18 fun h19 => R (.bool false) h19)
  (Wk h18 fun h20 => K_3 (IntKind.wrap .i64 (s_6.1 + ((1 : Int))), ()) h20))
  (Wk h16 fun h21 => K_1 (IntKind.wrap .i64 (s_3.1 + ((1 : Int))), ()) h21))
  ((0 : Int), ()) h11))
  ((0 : Int), ()) h10) fun J_2 =>
  Ld h9 (Addr.add (⟨r6, 0, none⟩) 0) .sl fun (x46 : Sl) =>
  cond (decide ((((x46.n : Nat) : Int)) > ((20 : Int))))
  (Wk h9 fun h22 => R (.bool false) h22)
  (Ld h9 (Addr.add (⟨r6, 0, none⟩) 1) .sl fun (x51 : Sl) =>
  cond (decide ((((x51.n : Nat) : Int)) > ((40 : Int))))
  (Wk h9 fun h23 => R (.bool false) h23)
  (Ld h9 (Addr.add (Addr.add (⟨r6, 0, none⟩) 2) 2) .sl fun (x58 : Sl) =>
  cond (decide ((((x58.n : Nat) : Int)) > ((5 : Int))))
  (Wk h9 fun h24 => R (.bool false) h24)
  (Wk h9 fun h25 => J_2 (()) h25))))
  (Wk h7 fun h26 => K (IntKind.wrap .i64 (s_1.1 + ((1 : Int))), ()) h26))
  ((0 : Int), ()) h6) fun J_1 =>
  Ld h5 (Addr.add (⟨r4, 0, none⟩) 1) .sl fun (x29 : Sl) =>
  cond (decide ((((x29.n : Nat) : Int)) > ((30 : Int))))
  (Wk h5 fun h27 => R (.bool false) h27)
  (Ld h5 (Addr.add (⟨r4, 0, none⟩) 0) .str fun (x34 : ByteArray) =>
  cond (decide ((((ByteArray.size x34 : Nat) : Int)) > ((40 : Int))))
  (Wk h5 fun h28 => R (.bool false) h28)
  (Wk h5 fun h29 => J_1 (()) h29)))
  (Wk h3 fun h30 => R (.bool true) h30))
  ((0 : Int), ()) h2) fun J =>
  Ld h1 (Addr.add (⟨r1, 0, none⟩) 0) .sl fun (x12 : Sl) =>
  cond (decide ((((x12.n : Nat) : Int)) > ((10 : Int))))
  (Wk h1 fun h31 => R (.bool false) h31)
  (Ld h1 (Addr.add (⟨r1, 0, none⟩) 1) .sl fun (x17 : Sl) =>
  cond (decide ((((x17.n : Nat) : Int)) > ((5 : Int))))
  (Wk h1 fun h32 => R (.bool false) h32)
  (Wk h1 fun h33 => J (()) h33))
theorem S8_eq (p0_0 : Sl) (p0_1 : Sl) (p0_2 : Int) (h : V) (R : Value → V → Prop) : ABody Try.prog an8 Try.f8 [(.agg ⟨[(.slice p0_0.a p0_0.n p0_0.c), (.slice p0_1.a p0_1.n p0_1.c), (.int .i64 p0_2)]⟩)] h R = S8 p0_0 p0_1 p0_2 h R := by kernel_rfl
theorem S8_ok (p0_0 : Sl) (p0_1 : Sl) (p0_2 : Int) (h : V) (R : Value → V → Prop) (hk : S8 p0_0 p0_1 p0_2 h R) : ACalls Try.prog 8 [(.agg ⟨[(.slice p0_0.a p0_0.n p0_0.c), (.slice p0_1.a p0_1.n p0_1.c), (.int .i64 p0_2)]⟩)] h R :=
  ABody_sound mixed Try.func8 Try.call8 (by kernel_rfl) (by kernel_rfl) (an := an8) (by rw [S8_eq]; exact hk)

/- palings/palingslaw12.head -/
def an7 : An := (.two .nil (.two .nil (.two .nil (.two .nil .nil))))
def S7  (h : V) (R : Value → V → Prop) : Prop :=
  New h (.cells #[(.string (⟨#[115]⟩)), (.int .i64 ((2 : Int))), (.int .i64 ((0 : Int)))] 66) fun r5 h1 =>
  New h1 (.cells #[(.int .i64 ((1 : Int))), (.int .i64 ((1 : Int)))] 3) fun r7 h2 =>
  New h2 (.cells #[(.int .i64 ((3 : Int))), (.int .i64 ((1 : Int))), (.slice none 0 0), (.int .i64 ((0 : Int))), (.int .i64 ((0 : Int))), (.int .i64 ((0 : Int))), (.int .i64 ((0 : Int))), (.int .i64 ((2 : Int))), (.int .i64 ((2 : Int))), (.slice ((some ⟨r7, 0, none⟩)) 2 2), (.int .i64 ((0 : Int))), (.int .i64 ((1 : Int))), (.int .i64 ((0 : Int))), (.int .i64 ((0 : Int)))] 60) fun r9 h3 =>
  New h3 (.cells #[(.slice none 0 0), (.slice ((some ⟨r9, 0, none⟩)) 2 2), (.int .i64 ((3 : Int))), (.int .i64 ((2 : Int))), (.slice none 0 0), (.int .i64 ((0 : Int)))] 55) fun r12 h4 =>
  New h4 (.cells #[(.string (⟨#[]⟩)), (.slice ((some ⟨r12, 0, none⟩)) 1 1)] 46) fun r14 h5 =>
  New h5 (.cells #[(.slice none 0 0), (.slice none 0 0), (.int .i64 ((0 : Int)))] 25) fun r1 h6 =>
  StL h6 (⟨r1, 0, none⟩) 0 [(.slice ((some ⟨r5, 0, none⟩)) 1 1), (.slice ((some ⟨r14, 0, none⟩)) 1 1), (.int .i64 ((0 : Int)))] fun h7 =>
  LdA h7 (⟨r1, 0, none⟩) [.sl, .sl, (.int .i64)] fun (x17 : ((Sl) × (Sl) × (Int) × Unit)) =>
  CallK Try.prog 9 [(.agg ⟨[(.slice x17.1.a x17.1.n x17.1.c), (.slice x17.2.1.a x17.2.1.n x17.2.1.c), (.int .i64 x17.2.2.1)]⟩), (.slice none 0 0)] h7 (.tup [(.agg [.sl, .sl, .sl, .sl]), (.one (.int .i64))]) fun (x18 : (((Sl) × (Sl) × (Sl) × (Sl) × Unit) × Int × Unit)) h8 =>
  New h8 (.cells #[(.slice none 0 0), (.slice none 0 0), (.slice none 0 0), (.slice none 0 0)] 33) fun r2 h9 =>
  StL h9 (⟨r2, 0, none⟩) 0 [(.slice x18.1.1.a x18.1.1.n x18.1.1.c), (.slice x18.1.2.1.a x18.1.2.1.n x18.1.2.1.c), (.slice x18.1.2.2.1.a x18.1.2.2.1.n x18.1.2.2.1.c), (.slice x18.1.2.2.2.1.a x18.1.2.2.2.1.n x18.1.2.2.2.1.c)] fun h10 =>
  cond (x18.2.1 == ((0 : Int)))
  (Ld h10 (Addr.add (⟨r2, 0, none⟩) 0) .sl fun (x25 : Sl) =>
  cond ((((x25.n : Nat) : Int)) == ((1 : Int)))
  (Ld h10 (Addr.add (⟨r2, 0, none⟩) 0) .sl fun (x31 : Sl) =>
  Ix x31 ((0 : Int)) 1 fun a32 =>
  Ld h10 a32 .mp fun (x33 : Option Nat) =>
  Look h10 x33 (.int .i64) (.int .i64 ((1 : Int))) (.one (.int .i64)) ((0 : Int)) fun (x34 : Int) _ =>
  cond (x34 == ((2 : Int)))
  (Ld h10 (Addr.add (⟨r2, 0, none⟩) 0) .sl fun (x39 : Sl) =>
  Ix x39 ((0 : Int)) 1 fun a40 =>
  Ld h10 a40 .mp fun (x41 : Option Nat) =>
  Look h10 x41 (.int .i64) (.int .i64 ((2 : Int))) (.one (.int .i64)) ((0 : Int)) fun (x42 : Int) _ =>
  cond (x42 == ((2 : Int)))
  (Ld h10 (Addr.add (⟨r2, 0, none⟩) 2) .sl fun (x47 : Sl) =>
  cond ((((x47.n : Nat) : Int)) == ((1 : Int)))
  (Ld h10 (Addr.add (⟨r2, 0, none⟩) 2) .sl fun (x53 : Sl) =>
  Ix x53 ((0 : Int)) 1 fun a54 =>
  Ld h10 a54 (.int .i64) fun (x55 : Int) =>
  cond (x55 == ((2 : Int)))
  (Ld h10 (Addr.add (⟨r2, 0, none⟩) 1) .sl fun (x60 : Sl) =>
  Wk h10 fun h11 => R (.bool ((((x60.n : Nat) : Int)) == ((1 : Int)))) h11)
  (Wk h10 fun h12 => R (.bool false) h12))
  (Wk h10 fun h13 => R (.bool false) h13))
  (Wk h10 fun h14 => R (.bool false) h14))
  (Wk h10 fun h15 => R (.bool false) h15))
  (Wk h10 fun h16 => R (.bool false) h16))
  (Wk h10 fun h17 => R (.bool false) h17)
theorem S7_eq  (h : V) (R : Value → V → Prop) : ABody Try.prog an7 Try.f7 [] h R = S7  h R := by kernel_rfl
theorem S7_ok  (h : V) (R : Value → V → Prop) (hk : S7  h R) : ACalls Try.prog 7 [] h R :=
  ABody_sound mixed Try.func7 Try.call7 (by kernel_rfl) (by kernel_rfl) (an := an7) (by rw [S7_eq]; exact hk)

end Go.Proofs.Ytaefmhephoilmaa
