/- TaintLeast: the row. -/
import Derived.Test.YtaefmhephoilmaaZTaintLeast4
import Derived.Test.YtaefmhephoilmaaProg
import Derived.KernelRfl
import Derived.Test.YtaefmhephoilmaaRows
import Derived.WalkKit
import Derived.ProofKit
import Derived.OpenShut
import Derived.ChangeOld
import Derived.Below
namespace Go.Proofs.Ytaefmhephoilmaa
open Go Go.VL
set_option maxRecDepth 100000
def FromIns (r3 r7 r18 r19 r20 r27 r34 : Nat) (s58 : Sl) (s : Bool × Int × Unit) (s_12 : Bool × Bool × Int × Unit) (s_11 : Int × Unit) (K_9 : Int × Unit → V → Prop) (h64 : V) : Prop :=
  Ld h64 (Addr.add (⟨r34, 0, none⟩) 0) (.int .i64) fun (x224 : Int) =>
  cond (x224 == ((2 : Int)))
  (Ld h64 (Addr.add (⟨r34, 0, none⟩) 1) (.int .i64) fun (x229 : Int) =>
  CallV Try.prog (.func (.func 30) ⟨[]⟩ ⟨[(.pointer (some (⟨r18, 0, none⟩))), (.pointer (some (⟨r20, 0, none⟩))), (.pointer (some (⟨r27, 0, none⟩))), (.pointer (some (⟨r7, 0, none⟩)))]⟩) [(.int .i64 x229), (.bool s_12.1), (.bool s_12.2.1)] h64 (.tup []) fun (_ : (Unit)) h70 =>
  Wk h70 fun h71 => K_9 (IntKind.wrap .i64 (s_11.1 + ((1 : Int))), ()) h71)
  (Cut (σ := (Bool × Unit)) (fun s_14 h72 =>
  cond s_14.1
  (Cut (σ := (Bool × Unit)) (fun s_15 h73 =>
  Ld h73 (Addr.add (⟨r34, 0, none⟩) 1) (.int .i64) fun (x255 : Int) =>
  cond s_12.1
  (cond s_12.2.1
  (CallV Try.prog (.func (.func 30) ⟨[]⟩ ⟨[(.pointer (some (⟨r18, 0, none⟩))), (.pointer (some (⟨r20, 0, none⟩))), (.pointer (some (⟨r27, 0, none⟩))), (.pointer (some (⟨r7, 0, none⟩)))]⟩) [(.int .i64 x255), (.bool true), (.bool true)] h73 (.tup []) fun (_ : (Unit)) h74 =>
  Wk h74 fun h75 => K_9 (IntKind.wrap .i64 (s_11.1 + ((1 : Int))), ()) h75)
  (Ld h73 (Addr.add (⟨r19, 0, none⟩) 1) .sl fun (x271 : Sl) =>
  Ld h73 (Addr.add (⟨r34, 0, none⟩) 5) (.int .i64) fun (x273 : Int) =>
  Ix x271 x273 1 fun a274 =>
  Ld h73 a274 .bool fun (x275 : Bool) =>
  CallV Try.prog (.func (.func 30) ⟨[]⟩ ⟨[(.pointer (some (⟨r18, 0, none⟩))), (.pointer (some (⟨r20, 0, none⟩))), (.pointer (some (⟨r27, 0, none⟩))), (.pointer (some (⟨r7, 0, none⟩)))]⟩) [(.int .i64 x255), (.bool true), (.bool x275)] h73 (.tup []) fun (_ : (Unit)) h76 =>
  Wk h76 fun h77 => K_9 (IntKind.wrap .i64 (s_11.1 + ((1 : Int))), ()) h77))
  (cond s_15.1
  (cond s_12.2.1
  (CallV Try.prog (.func (.func 30) ⟨[]⟩ ⟨[(.pointer (some (⟨r18, 0, none⟩))), (.pointer (some (⟨r20, 0, none⟩))), (.pointer (some (⟨r27, 0, none⟩))), (.pointer (some (⟨r7, 0, none⟩)))]⟩) [(.int .i64 x255), (.bool true), (.bool true)] h73 (.tup []) fun (_ : (Unit)) h78 =>
  Wk h78 fun h79 => K_9 (IntKind.wrap .i64 (s_11.1 + ((1 : Int))), ()) h79)
  (Ld h73 (Addr.add (⟨r19, 0, none⟩) 1) .sl fun (x271_1 : Sl) =>
  Ld h73 (Addr.add (⟨r34, 0, none⟩) 5) (.int .i64) fun (x273_1 : Int) =>
  Ix x271_1 x273_1 1 fun a274_1 =>
  Ld h73 a274_1 .bool fun (x275_1 : Bool) =>
  CallV Try.prog (.func (.func 30) ⟨[]⟩ ⟨[(.pointer (some (⟨r18, 0, none⟩))), (.pointer (some (⟨r20, 0, none⟩))), (.pointer (some (⟨r27, 0, none⟩))), (.pointer (some (⟨r7, 0, none⟩)))]⟩) [(.int .i64 x255), (.bool true), (.bool x275_1)] h73 (.tup []) fun (_ : (Unit)) h80 =>
  Wk h80 fun h81 => K_9 (IntKind.wrap .i64 (s_11.1 + ((1 : Int))), ()) h81))
  (Ld h73 (Addr.add (⟨r7, 0, none⟩) 1) .sl fun (x262 : Sl) =>
  Ld h73 (Addr.add (⟨r34, 0, none⟩) 5) (.int .i64) fun (x264 : Int) =>
  Ix x262 x264 1 fun a265 =>
  Ld h73 a265 .bool fun (x266 : Bool) =>
  cond s_12.2.1
  (CallV Try.prog (.func (.func 30) ⟨[]⟩ ⟨[(.pointer (some (⟨r18, 0, none⟩))), (.pointer (some (⟨r20, 0, none⟩))), (.pointer (some (⟨r27, 0, none⟩))), (.pointer (some (⟨r7, 0, none⟩)))]⟩) [(.int .i64 x255), (.bool x266), (.bool true)] h73 (.tup []) fun (_ : (Unit)) h82 =>
  Wk h82 fun h83 => K_9 (IntKind.wrap .i64 (s_11.1 + ((1 : Int))), ()) h83)
  (Ld h73 (Addr.add (⟨r19, 0, none⟩) 1) .sl fun (x271_2 : Sl) =>
  Ld h73 (Addr.add (⟨r34, 0, none⟩) 5) (.int .i64) fun (x273_2 : Int) =>
  Ix x271_2 x273_2 1 fun a274_2 =>
  Ld h73 a274_2 .bool fun (x275_2 : Bool) =>
  CallV Try.prog (.func (.func 30) ⟨[]⟩ ⟨[(.pointer (some (⟨r18, 0, none⟩))), (.pointer (some (⟨r20, 0, none⟩))), (.pointer (some (⟨r27, 0, none⟩))), (.pointer (some (⟨r7, 0, none⟩)))]⟩) [(.int .i64 x255), (.bool x266), (.bool x275_2)] h73 (.tup []) fun (_ : (Unit)) h84 =>
  Wk h84 fun h85 => K_9 (IntKind.wrap .i64 (s_11.1 + ((1 : Int))), ()) h85)))) fun J_4 =>
  Ld h72 (⟨r18, 0, none⟩) .bool fun (x236 : Bool) =>
  cond (!x236)
  (Ld h72 (Addr.add (⟨r34, 0, none⟩) 0) (.int .i64) fun (x240 : Int) =>
  cond (x240 == ((5 : Int)))
  (Wk h72 fun h86 => J_4 (true, ()) h86)
  (cond s.1
  (Wk h72 fun h87 => J_4 (true, ()) h87)
  (Ld h72 (Addr.add (⟨r34, 0, none⟩) 5) (.int .i64) fun (x248 : Int) =>
  Ix s58 x248 1 fun a249 =>
  Ld h72 a249 .bool fun (x250 : Bool) =>
  Wk h72 fun h88 => J_4 (x250, ()) h88)))
  (Wk h72 fun h89 => J_4 (false, ()) h89))
  (cond (x224 == ((4 : Int)))
  (Ld h72 (Addr.add (⟨r7, 0, none⟩) 1) .sl fun (x281 : Sl) =>
  Ld h72 (Addr.add (⟨r34, 0, none⟩) 5) (.int .i64) fun (x283 : Int) =>
  Ld h72 (Addr.add (⟨r7, 0, none⟩) 1) .sl fun (x285 : Sl) =>
  Ld h72 (Addr.add (⟨r34, 0, none⟩) 5) (.int .i64) fun (x287 : Int) =>
  Ix x285 x287 1 fun a288 =>
  Ld h72 a288 .bool fun (x289 : Bool) =>
  cond x289
  (Ix x281 x283 1 fun a302 =>
  StL h72 a302 0 [(.bool true)] fun h90 =>
  Wk h90 fun h91 => K_9 (IntKind.wrap .i64 (s_11.1 + ((1 : Int))), ()) h91)
  (Ld h72 (Addr.add (⟨r19, 0, none⟩) 0) .sl fun (x292 : Sl) =>
  Ld h72 (⟨r27, 0, none⟩) (.int .i64) fun (x293 : Int) =>
  Ix x292 x293 1 fun a294 =>
  Ld h72 a294 .mp fun (x295 : Option Nat) =>
  Ld h72 (Addr.add (⟨r34, 0, none⟩) 2) .sl fun (x297 : Sl) =>
  Ix x297 ((0 : Int)) 1 fun a298 =>
  Ld h72 a298 (.int .i64) fun (x299 : Int) =>
  Look h72 x295 (.int .i64) (.int .i64 x299) (.one .bool) false fun (x300 : Bool) _ =>
  Ix x281 x283 1 fun a302_1 =>
  StL h72 a302_1 0 [(.bool x300)] fun h92 =>
  Wk h92 fun h93 => K_9 (IntKind.wrap .i64 (s_11.1 + ((1 : Int))), ()) h93))
  (cond (x224 == ((6 : Int)))
  (Ld h72 (Addr.add (⟨r7, 0, none⟩) 1) .sl fun (x306 : Sl) =>
  Ld h72 (Addr.add (⟨r34, 0, none⟩) 5) (.int .i64) fun (x308 : Int) =>
  Ld h72 (Addr.add (⟨r7, 0, none⟩) 1) .sl fun (x310 : Sl) =>
  Ld h72 (Addr.add (⟨r34, 0, none⟩) 5) (.int .i64) fun (x312 : Int) =>
  Ix x310 x312 1 fun a313 =>
  Ld h72 a313 .bool fun (x314 : Bool) =>
  cond x314
  (Ix x306 x308 1 fun a327 =>
  StL h72 a327 0 [(.bool true)] fun h94 =>
  Wk h94 fun h95 => K_9 (IntKind.wrap .i64 (s_11.1 + ((1 : Int))), ()) h95)
  (Ld h72 (Addr.add (⟨r19, 0, none⟩) 0) .sl fun (x317 : Sl) =>
  Ld h72 (⟨r27, 0, none⟩) (.int .i64) fun (x318 : Int) =>
  Ix x317 x318 1 fun a319 =>
  Ld h72 a319 .mp fun (x320 : Option Nat) =>
  Ld h72 (Addr.add (⟨r34, 0, none⟩) 2) .sl fun (x322 : Sl) =>
  Ix x322 ((1 : Int)) 1 fun a323 =>
  Ld h72 a323 (.int .i64) fun (x324 : Int) =>
  Look h72 x320 (.int .i64) (.int .i64 x324) (.one .bool) false fun (x325 : Bool) _ =>
  Ix x306 x308 1 fun a327_1 =>
  StL h72 a327_1 0 [(.bool x325)] fun h96 =>
  Wk h96 fun h97 => K_9 (IntKind.wrap .i64 (s_11.1 + ((1 : Int))), ()) h97))
  (cond (x224 == ((7 : Int)))
  (Ld h72 (Addr.add (⟨r3, 0, none⟩) 1) .sl fun (x331 : Sl) =>
  Ld h72 (Addr.add (⟨r34, 0, none⟩) 6) (.int .i64) fun (x333 : Int) =>
  Ix x331 x333 2 fun a334 =>
  Ld h72 (Addr.add a334 1) .sl fun (x336 : Sl) =>
  Ix x336 ((0 : Int)) 6 fun a337 =>
  Ld h72 (Addr.add a337 0) .sl fun (x339 : Sl) =>
  Lp (σ := (Int × Unit)) (fun K_11 s_16 h98 =>
  cond (decide (s_16.1 < (((x339.n : Nat) : Int))))
  (Ix x339 s_16.1 1 fun a344 =>
  Ld h98 a344 (.int .i64) fun (x345 : Int) =>
  Ld h98 (Addr.add (⟨r7, 0, none⟩) 0) .sl fun (x347 : Sl) =>
  Ld h98 (Addr.add (⟨r34, 0, none⟩) 6) (.int .i64) fun (x349 : Int) =>
  Ix x347 x349 1 fun a350 =>
  Ld h98 a350 .mp fun (x351 : Option Nat) =>
  Ld h98 (Addr.add (⟨r7, 0, none⟩) 0) .sl fun (x354 : Sl) =>
  Ld h98 (Addr.add (⟨r34, 0, none⟩) 6) (.int .i64) fun (x356 : Int) =>
  Ix x354 x356 1 fun a357 =>
  Ld h98 a357 .mp fun (x358 : Option Nat) =>
  Look h98 x358 (.int .i64) (.int .i64 x345) (.one .bool) false fun (x360 : Bool) _ =>
  cond x360
  (MUpd h98 x351 (.int .i64) (.int .i64 x345) (.bool true) fun h99 =>
  Wk h99 fun h100 => K_11 (IntKind.wrap .i64 (s_16.1 + ((1 : Int))), ()) h100)
  (Ld h98 (Addr.add (⟨r19, 0, none⟩) 0) .sl fun (x363 : Sl) =>
  Ld h98 (⟨r27, 0, none⟩) (.int .i64) fun (x364 : Int) =>
  Ix x363 x364 1 fun a365 =>
  Ld h98 a365 .mp fun (x366 : Option Nat) =>
  Ld h98 (Addr.add (⟨r34, 0, none⟩) 2) .sl fun (x368 : Sl) =>
  Ix x368 s_16.1 1 fun a370 =>
  Ld h98 a370 (.int .i64) fun (x371 : Int) =>
  Look h98 x366 (.int .i64) (.int .i64 x371) (.one .bool) false fun (x372 : Bool) _ =>
  MUpd h98 x351 (.int .i64) (.int .i64 x345) (.bool x372) fun h101 =>
  Wk h101 fun h102 => K_11 (IntKind.wrap .i64 (s_16.1 + ((1 : Int))), ()) h102))
  (Ld h98 (Addr.add (⟨r34, 0, none⟩) 1) (.int .i64) fun (x377 : Int) =>
  Ld h98 (Addr.add (⟨r7, 0, none⟩) 2) .sl fun (x379 : Sl) =>
  Ld h98 (Addr.add (⟨r34, 0, none⟩) 6) (.int .i64) fun (x381 : Int) =>
  Ix x379 x381 1 fun a382 =>
  Ld h98 a382 .bool fun (x383 : Bool) =>
  Ld h98 (Addr.add (⟨r19, 0, none⟩) 2) .sl fun (x385 : Sl) =>
  Ld h98 (Addr.add (⟨r34, 0, none⟩) 6) (.int .i64) fun (x387 : Int) =>
  Ix x385 x387 1 fun a388 =>
  Ld h98 a388 .bool fun (x389 : Bool) =>
  CallV Try.prog (.func (.func 30) ⟨[]⟩ ⟨[(.pointer (some (⟨r18, 0, none⟩))), (.pointer (some (⟨r20, 0, none⟩))), (.pointer (some (⟨r27, 0, none⟩))), (.pointer (some (⟨r7, 0, none⟩)))]⟩) [(.int .i64 x377), (.bool x383), (.bool x389)] h98 (.tup []) fun (_ : (Unit)) h103 =>
  Wk h103 fun h104 => K_9 (IntKind.wrap .i64 (s_11.1 + ((1 : Int))), ()) h104))
  ((0 : Int), ()) h72)
  (Wk h72 fun h105 => K_9 (IntKind.wrap .i64 (s_11.1 + ((1 : Int))), ()) h105))))) fun J_3 =>
  cond (x224 == ((3 : Int)))
  (Wk h64 fun h106 => J_3 (x224 == ((3 : Int)), ()) h106)
  (Wk h64 fun h107 => J_3 (x224 == ((5 : Int)), ()) h107))
def FromBlk (r3 r7 r18 r19 r20 r27 r28 r32 : Nat) (s58 : Sl) (s : Bool × Int × Unit) (s_10 : Int × Unit) (K_8 : Int × Unit → V → Prop) (h59 : V) : Prop :=
  Ld h59 (Addr.add (⟨r32, 0, none⟩) 1) .sl fun (x189 : Sl) =>
  Lp (σ := (Int × Unit)) (fun K_9 s_11 h61 =>
  cond (decide (s_11.1 < (((x189.n : Nat) : Int))))
  (Ix x189 s_11.1 7 fun a193 =>
  LdA h61 a193 [(.int .i64), (.int .i64), .sl, (.int .i64), (.int .i64), (.int .i64), (.int .i64)] fun (x194 : ((Int) × (Int) × (Sl) × (Int) × (Int) × (Int) × (Int) × Unit)) =>
  New h61 (.cells #[(.int .i64 ((0 : Int))), (.int .i64 ((0 : Int))), (.slice none 0 0), (.int .i64 ((0 : Int))), (.int .i64 ((0 : Int))), (.int .i64 ((0 : Int))), (.int .i64 ((0 : Int)))] 60) fun r34 h62 =>
  StL h62 (⟨r34, 0, none⟩) 0 [(.int .i64 x194.1), (.int .i64 x194.2.1), (.slice x194.2.2.1.a x194.2.2.1.n x194.2.2.1.c), (.int .i64 x194.2.2.2.1), (.int .i64 x194.2.2.2.2.1), (.int .i64 x194.2.2.2.2.2.1), (.int .i64 x194.2.2.2.2.2.2.1)] fun h63 =>
  Ld h63 (Addr.add (⟨r34, 0, none⟩) 2) .sl fun (x196 : Sl) =>
  Lp (σ := (Bool × Bool × Int × Unit)) (fun K_10 s_12 h64 =>
  cond (decide (s_12.2.2.1 < (((x196.n : Nat) : Int))))
  (Ix x196 s_12.2.2.1 1 fun a200 =>
  Ld h64 a200 (.int .i64) fun (x201 : Int) =>
  Cut (σ := (Bool × Unit)) (fun s_13 h65 =>
  cond s_12.2.1
  (Wk h65 fun h66 => K_10 (s_13.1, true, IntKind.wrap .i64 (s_12.2.2.1 + ((1 : Int))), ()) h66)
  (Ld h65 (Addr.add (⟨r19, 0, none⟩) 0) .sl fun (x215 : Sl) =>
  Ld h65 (⟨r27, 0, none⟩) (.int .i64) fun (x216 : Int) =>
  Ix x215 x216 1 fun a217 =>
  Ld h65 a217 .mp fun (x218 : Option Nat) =>
  Look h65 x218 (.int .i64) (.int .i64 x201) (.one .bool) false fun (x220 : Bool) _ =>
  Wk h65 fun h67 => K_10 (s_13.1, x220, IntKind.wrap .i64 (s_12.2.2.1 + ((1 : Int))), ()) h67)) fun J_2 =>
  cond s_12.1
  (Wk h64 fun h68 => J_2 (true, ()) h68)
  (Ld h64 (Addr.add (⟨r7, 0, none⟩) 0) .sl fun (x205 : Sl) =>
  Ld h64 (⟨r27, 0, none⟩) (.int .i64) fun (x206 : Int) =>
  Ix x205 x206 1 fun a207 =>
  Ld h64 a207 .mp fun (x208 : Option Nat) =>
  Look h64 x208 (.int .i64) (.int .i64 x201) (.one .bool) false fun (x210 : Bool) _ =>
  Wk h64 fun h69 => J_2 (x210, ()) h69))
  (Ld h64 (Addr.add (⟨r34, 0, none⟩) 0) (.int .i64) fun (x224 : Int) =>
  cond (x224 == ((2 : Int)))
  (Ld h64 (Addr.add (⟨r34, 0, none⟩) 1) (.int .i64) fun (x229 : Int) =>
  CallV Try.prog (.func (.func 30) ⟨[]⟩ ⟨[(.pointer (some (⟨r18, 0, none⟩))), (.pointer (some (⟨r20, 0, none⟩))), (.pointer (some (⟨r27, 0, none⟩))), (.pointer (some (⟨r7, 0, none⟩)))]⟩) [(.int .i64 x229), (.bool s_12.1), (.bool s_12.2.1)] h64 (.tup []) fun (_ : (Unit)) h70 =>
  Wk h70 fun h71 => K_9 (IntKind.wrap .i64 (s_11.1 + ((1 : Int))), ()) h71)
  (Cut (σ := (Bool × Unit)) (fun s_14 h72 =>
  cond s_14.1
  (Cut (σ := (Bool × Unit)) (fun s_15 h73 =>
  Ld h73 (Addr.add (⟨r34, 0, none⟩) 1) (.int .i64) fun (x255 : Int) =>
  cond s_12.1
  (cond s_12.2.1
  (CallV Try.prog (.func (.func 30) ⟨[]⟩ ⟨[(.pointer (some (⟨r18, 0, none⟩))), (.pointer (some (⟨r20, 0, none⟩))), (.pointer (some (⟨r27, 0, none⟩))), (.pointer (some (⟨r7, 0, none⟩)))]⟩) [(.int .i64 x255), (.bool true), (.bool true)] h73 (.tup []) fun (_ : (Unit)) h74 =>
  Wk h74 fun h75 => K_9 (IntKind.wrap .i64 (s_11.1 + ((1 : Int))), ()) h75)
  (Ld h73 (Addr.add (⟨r19, 0, none⟩) 1) .sl fun (x271 : Sl) =>
  Ld h73 (Addr.add (⟨r34, 0, none⟩) 5) (.int .i64) fun (x273 : Int) =>
  Ix x271 x273 1 fun a274 =>
  Ld h73 a274 .bool fun (x275 : Bool) =>
  CallV Try.prog (.func (.func 30) ⟨[]⟩ ⟨[(.pointer (some (⟨r18, 0, none⟩))), (.pointer (some (⟨r20, 0, none⟩))), (.pointer (some (⟨r27, 0, none⟩))), (.pointer (some (⟨r7, 0, none⟩)))]⟩) [(.int .i64 x255), (.bool true), (.bool x275)] h73 (.tup []) fun (_ : (Unit)) h76 =>
  Wk h76 fun h77 => K_9 (IntKind.wrap .i64 (s_11.1 + ((1 : Int))), ()) h77))
  (cond s_15.1
  (cond s_12.2.1
  (CallV Try.prog (.func (.func 30) ⟨[]⟩ ⟨[(.pointer (some (⟨r18, 0, none⟩))), (.pointer (some (⟨r20, 0, none⟩))), (.pointer (some (⟨r27, 0, none⟩))), (.pointer (some (⟨r7, 0, none⟩)))]⟩) [(.int .i64 x255), (.bool true), (.bool true)] h73 (.tup []) fun (_ : (Unit)) h78 =>
  Wk h78 fun h79 => K_9 (IntKind.wrap .i64 (s_11.1 + ((1 : Int))), ()) h79)
  (Ld h73 (Addr.add (⟨r19, 0, none⟩) 1) .sl fun (x271_1 : Sl) =>
  Ld h73 (Addr.add (⟨r34, 0, none⟩) 5) (.int .i64) fun (x273_1 : Int) =>
  Ix x271_1 x273_1 1 fun a274_1 =>
  Ld h73 a274_1 .bool fun (x275_1 : Bool) =>
  CallV Try.prog (.func (.func 30) ⟨[]⟩ ⟨[(.pointer (some (⟨r18, 0, none⟩))), (.pointer (some (⟨r20, 0, none⟩))), (.pointer (some (⟨r27, 0, none⟩))), (.pointer (some (⟨r7, 0, none⟩)))]⟩) [(.int .i64 x255), (.bool true), (.bool x275_1)] h73 (.tup []) fun (_ : (Unit)) h80 =>
  Wk h80 fun h81 => K_9 (IntKind.wrap .i64 (s_11.1 + ((1 : Int))), ()) h81))
  (Ld h73 (Addr.add (⟨r7, 0, none⟩) 1) .sl fun (x262 : Sl) =>
  Ld h73 (Addr.add (⟨r34, 0, none⟩) 5) (.int .i64) fun (x264 : Int) =>
  Ix x262 x264 1 fun a265 =>
  Ld h73 a265 .bool fun (x266 : Bool) =>
  cond s_12.2.1
  (CallV Try.prog (.func (.func 30) ⟨[]⟩ ⟨[(.pointer (some (⟨r18, 0, none⟩))), (.pointer (some (⟨r20, 0, none⟩))), (.pointer (some (⟨r27, 0, none⟩))), (.pointer (some (⟨r7, 0, none⟩)))]⟩) [(.int .i64 x255), (.bool x266), (.bool true)] h73 (.tup []) fun (_ : (Unit)) h82 =>
  Wk h82 fun h83 => K_9 (IntKind.wrap .i64 (s_11.1 + ((1 : Int))), ()) h83)
  (Ld h73 (Addr.add (⟨r19, 0, none⟩) 1) .sl fun (x271_2 : Sl) =>
  Ld h73 (Addr.add (⟨r34, 0, none⟩) 5) (.int .i64) fun (x273_2 : Int) =>
  Ix x271_2 x273_2 1 fun a274_2 =>
  Ld h73 a274_2 .bool fun (x275_2 : Bool) =>
  CallV Try.prog (.func (.func 30) ⟨[]⟩ ⟨[(.pointer (some (⟨r18, 0, none⟩))), (.pointer (some (⟨r20, 0, none⟩))), (.pointer (some (⟨r27, 0, none⟩))), (.pointer (some (⟨r7, 0, none⟩)))]⟩) [(.int .i64 x255), (.bool x266), (.bool x275_2)] h73 (.tup []) fun (_ : (Unit)) h84 =>
  Wk h84 fun h85 => K_9 (IntKind.wrap .i64 (s_11.1 + ((1 : Int))), ()) h85)))) fun J_4 =>
  Ld h72 (⟨r18, 0, none⟩) .bool fun (x236 : Bool) =>
  cond (!x236)
  (Ld h72 (Addr.add (⟨r34, 0, none⟩) 0) (.int .i64) fun (x240 : Int) =>
  cond (x240 == ((5 : Int)))
  (Wk h72 fun h86 => J_4 (true, ()) h86)
  (cond s.1
  (Wk h72 fun h87 => J_4 (true, ()) h87)
  (Ld h72 (Addr.add (⟨r34, 0, none⟩) 5) (.int .i64) fun (x248 : Int) =>
  Ix s58 x248 1 fun a249 =>
  Ld h72 a249 .bool fun (x250 : Bool) =>
  Wk h72 fun h88 => J_4 (x250, ()) h88)))
  (Wk h72 fun h89 => J_4 (false, ()) h89))
  (cond (x224 == ((4 : Int)))
  (Ld h72 (Addr.add (⟨r7, 0, none⟩) 1) .sl fun (x281 : Sl) =>
  Ld h72 (Addr.add (⟨r34, 0, none⟩) 5) (.int .i64) fun (x283 : Int) =>
  Ld h72 (Addr.add (⟨r7, 0, none⟩) 1) .sl fun (x285 : Sl) =>
  Ld h72 (Addr.add (⟨r34, 0, none⟩) 5) (.int .i64) fun (x287 : Int) =>
  Ix x285 x287 1 fun a288 =>
  Ld h72 a288 .bool fun (x289 : Bool) =>
  cond x289
  (Ix x281 x283 1 fun a302 =>
  StL h72 a302 0 [(.bool true)] fun h90 =>
  Wk h90 fun h91 => K_9 (IntKind.wrap .i64 (s_11.1 + ((1 : Int))), ()) h91)
  (Ld h72 (Addr.add (⟨r19, 0, none⟩) 0) .sl fun (x292 : Sl) =>
  Ld h72 (⟨r27, 0, none⟩) (.int .i64) fun (x293 : Int) =>
  Ix x292 x293 1 fun a294 =>
  Ld h72 a294 .mp fun (x295 : Option Nat) =>
  Ld h72 (Addr.add (⟨r34, 0, none⟩) 2) .sl fun (x297 : Sl) =>
  Ix x297 ((0 : Int)) 1 fun a298 =>
  Ld h72 a298 (.int .i64) fun (x299 : Int) =>
  Look h72 x295 (.int .i64) (.int .i64 x299) (.one .bool) false fun (x300 : Bool) _ =>
  Ix x281 x283 1 fun a302_1 =>
  StL h72 a302_1 0 [(.bool x300)] fun h92 =>
  Wk h92 fun h93 => K_9 (IntKind.wrap .i64 (s_11.1 + ((1 : Int))), ()) h93))
  (cond (x224 == ((6 : Int)))
  (Ld h72 (Addr.add (⟨r7, 0, none⟩) 1) .sl fun (x306 : Sl) =>
  Ld h72 (Addr.add (⟨r34, 0, none⟩) 5) (.int .i64) fun (x308 : Int) =>
  Ld h72 (Addr.add (⟨r7, 0, none⟩) 1) .sl fun (x310 : Sl) =>
  Ld h72 (Addr.add (⟨r34, 0, none⟩) 5) (.int .i64) fun (x312 : Int) =>
  Ix x310 x312 1 fun a313 =>
  Ld h72 a313 .bool fun (x314 : Bool) =>
  cond x314
  (Ix x306 x308 1 fun a327 =>
  StL h72 a327 0 [(.bool true)] fun h94 =>
  Wk h94 fun h95 => K_9 (IntKind.wrap .i64 (s_11.1 + ((1 : Int))), ()) h95)
  (Ld h72 (Addr.add (⟨r19, 0, none⟩) 0) .sl fun (x317 : Sl) =>
  Ld h72 (⟨r27, 0, none⟩) (.int .i64) fun (x318 : Int) =>
  Ix x317 x318 1 fun a319 =>
  Ld h72 a319 .mp fun (x320 : Option Nat) =>
  Ld h72 (Addr.add (⟨r34, 0, none⟩) 2) .sl fun (x322 : Sl) =>
  Ix x322 ((1 : Int)) 1 fun a323 =>
  Ld h72 a323 (.int .i64) fun (x324 : Int) =>
  Look h72 x320 (.int .i64) (.int .i64 x324) (.one .bool) false fun (x325 : Bool) _ =>
  Ix x306 x308 1 fun a327_1 =>
  StL h72 a327_1 0 [(.bool x325)] fun h96 =>
  Wk h96 fun h97 => K_9 (IntKind.wrap .i64 (s_11.1 + ((1 : Int))), ()) h97))
  (cond (x224 == ((7 : Int)))
  (Ld h72 (Addr.add (⟨r3, 0, none⟩) 1) .sl fun (x331 : Sl) =>
  Ld h72 (Addr.add (⟨r34, 0, none⟩) 6) (.int .i64) fun (x333 : Int) =>
  Ix x331 x333 2 fun a334 =>
  Ld h72 (Addr.add a334 1) .sl fun (x336 : Sl) =>
  Ix x336 ((0 : Int)) 6 fun a337 =>
  Ld h72 (Addr.add a337 0) .sl fun (x339 : Sl) =>
  Lp (σ := (Int × Unit)) (fun K_11 s_16 h98 =>
  cond (decide (s_16.1 < (((x339.n : Nat) : Int))))
  (Ix x339 s_16.1 1 fun a344 =>
  Ld h98 a344 (.int .i64) fun (x345 : Int) =>
  Ld h98 (Addr.add (⟨r7, 0, none⟩) 0) .sl fun (x347 : Sl) =>
  Ld h98 (Addr.add (⟨r34, 0, none⟩) 6) (.int .i64) fun (x349 : Int) =>
  Ix x347 x349 1 fun a350 =>
  Ld h98 a350 .mp fun (x351 : Option Nat) =>
  Ld h98 (Addr.add (⟨r7, 0, none⟩) 0) .sl fun (x354 : Sl) =>
  Ld h98 (Addr.add (⟨r34, 0, none⟩) 6) (.int .i64) fun (x356 : Int) =>
  Ix x354 x356 1 fun a357 =>
  Ld h98 a357 .mp fun (x358 : Option Nat) =>
  Look h98 x358 (.int .i64) (.int .i64 x345) (.one .bool) false fun (x360 : Bool) _ =>
  cond x360
  (MUpd h98 x351 (.int .i64) (.int .i64 x345) (.bool true) fun h99 =>
  Wk h99 fun h100 => K_11 (IntKind.wrap .i64 (s_16.1 + ((1 : Int))), ()) h100)
  (Ld h98 (Addr.add (⟨r19, 0, none⟩) 0) .sl fun (x363 : Sl) =>
  Ld h98 (⟨r27, 0, none⟩) (.int .i64) fun (x364 : Int) =>
  Ix x363 x364 1 fun a365 =>
  Ld h98 a365 .mp fun (x366 : Option Nat) =>
  Ld h98 (Addr.add (⟨r34, 0, none⟩) 2) .sl fun (x368 : Sl) =>
  Ix x368 s_16.1 1 fun a370 =>
  Ld h98 a370 (.int .i64) fun (x371 : Int) =>
  Look h98 x366 (.int .i64) (.int .i64 x371) (.one .bool) false fun (x372 : Bool) _ =>
  MUpd h98 x351 (.int .i64) (.int .i64 x345) (.bool x372) fun h101 =>
  Wk h101 fun h102 => K_11 (IntKind.wrap .i64 (s_16.1 + ((1 : Int))), ()) h102))
  (Ld h98 (Addr.add (⟨r34, 0, none⟩) 1) (.int .i64) fun (x377 : Int) =>
  Ld h98 (Addr.add (⟨r7, 0, none⟩) 2) .sl fun (x379 : Sl) =>
  Ld h98 (Addr.add (⟨r34, 0, none⟩) 6) (.int .i64) fun (x381 : Int) =>
  Ix x379 x381 1 fun a382 =>
  Ld h98 a382 .bool fun (x383 : Bool) =>
  Ld h98 (Addr.add (⟨r19, 0, none⟩) 2) .sl fun (x385 : Sl) =>
  Ld h98 (Addr.add (⟨r34, 0, none⟩) 6) (.int .i64) fun (x387 : Int) =>
  Ix x385 x387 1 fun a388 =>
  Ld h98 a388 .bool fun (x389 : Bool) =>
  CallV Try.prog (.func (.func 30) ⟨[]⟩ ⟨[(.pointer (some (⟨r18, 0, none⟩))), (.pointer (some (⟨r20, 0, none⟩))), (.pointer (some (⟨r27, 0, none⟩))), (.pointer (some (⟨r7, 0, none⟩)))]⟩) [(.int .i64 x377), (.bool x383), (.bool x389)] h98 (.tup []) fun (_ : (Unit)) h103 =>
  Wk h103 fun h104 => K_9 (IntKind.wrap .i64 (s_11.1 + ((1 : Int))), ()) h104))
  ((0 : Int), ()) h72)
  (Wk h72 fun h105 => K_9 (IntKind.wrap .i64 (s_11.1 + ((1 : Int))), ()) h105))))) fun J_3 =>
  cond (x224 == ((3 : Int)))
  (Wk h64 fun h106 => J_3 (x224 == ((3 : Int)), ()) h106)
  (Wk h64 fun h107 => J_3 (x224 == ((5 : Int)), ()) h107))))
  (false, false, (0 : Int), ()) h63)
  (Ld h61 (Addr.add (Addr.add (⟨r32, 0, none⟩) 2) 2) .sl fun (x394 : Sl) =>
  Lp (σ := (Int × Unit)) (fun K_12 s_17 h108 =>
  cond (decide (s_17.1 < (((x394.n : Nat) : Int))))
  (Ix x394 s_17.1 2 fun a398 =>
  LdA h108 a398 [(.int .i64), .sl] fun (x399 : ((Int) × (Sl) × Unit)) =>
  New h108 (.cells #[(.int .i64 ((0 : Int))), (.slice none 0 0)] 74) fun r43 h109 =>
  StL h109 (⟨r43, 0, none⟩) 0 [(.int .i64 x399.1), (.slice x399.2.1.a x399.2.1.n x399.2.1.c)] fun h110 =>
  Ld h110 (Addr.add (⟨r28, 0, none⟩) 1) .sl fun (x401 : Sl) =>
  Ld h110 (Addr.add (⟨r43, 0, none⟩) 0) (.int .i64) fun (x403 : Int) =>
  Ix x401 x403 6 fun a404 =>
  Ld h110 (Addr.add a404 0) .sl fun (x406 : Sl) =>
  Lp (σ := (Int × Unit)) (fun K_13 s_18 h111 =>
  cond (decide (s_18.1 < (((x406.n : Nat) : Int))))
  (Ix x406 s_18.1 1 fun a411 =>
  Ld h111 a411 (.int .i64) fun (x412 : Int) =>
  Ld h111 (Addr.add (⟨r7, 0, none⟩) 0) .sl fun (x416 : Sl) =>
  Ld h111 (⟨r27, 0, none⟩) (.int .i64) fun (x417 : Int) =>
  Ix x416 x417 1 fun a418 =>
  Ld h111 a418 .mp fun (x419 : Option Nat) =>
  Ld h111 (Addr.add (⟨r43, 0, none⟩) 1) .sl fun (x421 : Sl) =>
  Ix x421 s_18.1 1 fun a423 =>
  Ld h111 a423 (.int .i64) fun (x424 : Int) =>
  Look h111 x419 (.int .i64) (.int .i64 x424) (.one .bool) false fun (x425 : Bool) _ =>
  Ld h111 (Addr.add (⟨r19, 0, none⟩) 0) .sl fun (x427 : Sl) =>
  Ld h111 (⟨r27, 0, none⟩) (.int .i64) fun (x428 : Int) =>
  Ix x427 x428 1 fun a429 =>
  Ld h111 a429 .mp fun (x430 : Option Nat) =>
  Ld h111 (Addr.add (⟨r43, 0, none⟩) 1) .sl fun (x432 : Sl) =>
  Ix x432 s_18.1 1 fun a434 =>
  Ld h111 a434 (.int .i64) fun (x435 : Int) =>
  Look h111 x430 (.int .i64) (.int .i64 x435) (.one .bool) false fun (x436 : Bool) _ =>
  CallV Try.prog (.func (.func 30) ⟨[]⟩ ⟨[(.pointer (some (⟨r18, 0, none⟩))), (.pointer (some (⟨r20, 0, none⟩))), (.pointer (some (⟨r27, 0, none⟩))), (.pointer (some (⟨r7, 0, none⟩)))]⟩) [(.int .i64 x412), (.bool x425), (.bool x436)] h111 (.tup []) fun (_ : (Unit)) h112 =>
  Wk h112 fun h113 => K_13 (IntKind.wrap .i64 (s_18.1 + ((1 : Int))), ()) h113)
  (Wk h111 fun h114 => K_12 (IntKind.wrap .i64 (s_17.1 + ((1 : Int))), ()) h114))
  ((0 : Int), ()) h110)
  (Ld h108 (Addr.add (Addr.add (⟨r32, 0, none⟩) 2) 0) (.int .i64) fun (x442 : Int) =>
  cond (x442 == ((3 : Int)))
  (Ld h108 (Addr.add (⟨r7, 0, none⟩) 2) .sl fun (x445 : Sl) =>
  Ld h108 (⟨r27, 0, none⟩) (.int .i64) fun (x446 : Int) =>
  Ld h108 (Addr.add (⟨r7, 0, none⟩) 2) .sl fun (x448 : Sl) =>
  Ld h108 (⟨r27, 0, none⟩) (.int .i64) fun (x449 : Int) =>
  Ix x448 x449 1 fun a450 =>
  Ld h108 a450 .bool fun (x451 : Bool) =>
  cond x451
  (Ix x445 x446 1 fun a463 =>
  StL h108 a463 0 [(.bool true)] fun h115 =>
  Wk h115 fun h116 => K_8 (IntKind.wrap .i64 (s_10.1 + ((1 : Int))), ()) h116)
  (Ld h108 (Addr.add (⟨r19, 0, none⟩) 0) .sl fun (x454 : Sl) =>
  Ld h108 (⟨r27, 0, none⟩) (.int .i64) fun (x455 : Int) =>
  Ix x454 x455 1 fun a456 =>
  Ld h108 a456 .mp fun (x457 : Option Nat) =>
  Ld h108 (Addr.add (Addr.add (⟨r32, 0, none⟩) 2) 1) (.int .i64) fun (x460 : Int) =>
  Look h108 x457 (.int .i64) (.int .i64 x460) (.one .bool) false fun (x461 : Bool) _ =>
  Ix x445 x446 1 fun a463_1 =>
  StL h108 a463_1 0 [(.bool x461)] fun h117 =>
  Wk h117 fun h118 => K_8 (IntKind.wrap .i64 (s_10.1 + ((1 : Int))), ()) h118))
  (Wk h108 fun h119 => K_8 (IntKind.wrap .i64 (s_10.1 + ((1 : Int))), ()) h119)))
  ((0 : Int), ()) h61))
  ((0 : Int), ()) h59
def FromTail (r3 r4 r6 r7 r18 r19 : Nat) (s58 : Sl) (s : Bool × Int × Unit) (R : Value → V → Prop) (h39 : V) : Prop :=
  
  New h39 (.cells #[.nilFunc] 87) fun r20 h40 =>
  StL h40 (⟨r20, 0, none⟩) 0 [(.func (.func 29) ⟨[]⟩ ⟨[(.pointer (some (⟨r4, 0, none⟩)))]⟩)] fun h41 =>
  Ld h41 (Addr.add (⟨r3, 0, none⟩) 1) .sl fun (x128 : Sl) =>
  Lp (σ := (Int × Int × Unit)) (fun K_4 s_6 h42 =>
  cond (decide (s_6.2.1 < (((x128.n : Nat) : Int))))
  (Ix x128 s_6.2.1 2 fun a132 =>
  LdA h42 a132 [.str, .sl] fun (x133 : ((ByteArray) × (Sl) × Unit)) =>
  New h42 (.cells #[(.string (⟨#[]⟩)), (.slice none 0 0)] 46) fun r23 h43 =>
  StL h43 (⟨r23, 0, none⟩) 0 [(.string x133.1), (.slice x133.2.1.a x133.2.1.n x133.2.1.c)] fun h44 =>
  Ld h44 (Addr.add (⟨r23, 0, none⟩) 1) .sl fun (x137 : Sl) =>
  Lp (σ := (Int × Int × Unit)) (fun K_5 s_7 h45 =>
  cond (decide (s_7.2.1 < (((x137.n : Nat) : Int))))
  (Ix x137 s_7.2.1 6 fun a141 =>
  LdA h45 a141 [.sl, .sl, (.int .i64), (.int .i64), .sl, (.int .i64)] fun (x142 : ((Sl) × (Sl) × (Int) × (Int) × (Sl) × (Int) × Unit)) =>
  New h45 (.cells #[(.slice none 0 0), (.slice none 0 0), (.int .i64 ((0 : Int))), (.int .i64 ((0 : Int))), (.slice none 0 0), (.int .i64 ((0 : Int)))] 55) fun r25 h46 =>
  StL h46 (⟨r25, 0, none⟩) 0 [(.slice x142.1.a x142.1.n x142.1.c), (.slice x142.2.1.a x142.2.1.n x142.2.1.c), (.int .i64 x142.2.2.1), (.int .i64 x142.2.2.2.1), (.slice x142.2.2.2.2.1.a x142.2.2.2.2.1.n x142.2.2.2.2.1.c), (.int .i64 x142.2.2.2.2.2.1)] fun h47 =>
  Ld h47 (Addr.add (⟨r25, 0, none⟩) 0) .sl fun (x145 : Sl) =>
  Ld h47 (Addr.add (⟨r25, 0, none⟩) 1) .sl fun (x148 : Sl) =>
  Wk h47 fun h48 => K_5 (IntKind.wrap .i64 (s_7.1 + (IntKind.wrap .i64 ((((x145.n : Nat) : Int)) + (((x148.n : Nat) : Int))))), IntKind.wrap .i64 (s_7.2.1 + ((1 : Int))), ()) h48)
  (Wk h45 fun h49 => K_4 (s_7.1, IntKind.wrap .i64 (s_6.2.1 + ((1 : Int))), ()) h49))
  (IntKind.wrap .i64 (s_6.1 + ((1 : Int))), (0 : Int), ()) h44)
  (Lp (σ := (Int × Unit)) (fun K_6 s_8 h50 =>
  Ld h50 (Addr.add (⟨r3, 0, none⟩) 0) .sl fun (x157 : Sl) =>
  cond (decide (s_8.1 < (IntKind.wrap .i64 ((IntKind.wrap .i64 (s_6.1 + (((x157.n : Nat) : Int)))) + ((2 : Int))))))
  (Ld h50 (Addr.add (⟨r3, 0, none⟩) 1) .sl fun (x165 : Sl) =>
  Lp (σ := (Int × Unit)) (fun K_7 s_9 h51 =>
  cond (decide (s_9.1 < (((x165.n : Nat) : Int))))
  (Ix x165 s_9.1 2 fun a170 =>
  LdA h51 a170 [.str, .sl] fun (x171 : ((ByteArray) × (Sl) × Unit)) =>
  New h51 (.cells #[(.int .i64 ((0 : Int)))] 3) fun r27 h52 =>
  New h52 (.cells #[(.string (⟨#[]⟩)), (.slice none 0 0)] 46) fun r28 h53 =>
  StL h53 (⟨r27, 0, none⟩) 0 [(.int .i64 s_9.1)] fun h54 =>
  StL h54 (⟨r28, 0, none⟩) 0 [(.string x171.1), (.slice x171.2.1.a x171.2.1.n x171.2.1.c)] fun h55 =>
  LdA h55 (⟨r28, 0, none⟩) [.str, .sl] fun (x173 : ((ByteArray) × (Sl) × Unit)) =>
  CallK Try.prog 19 [(.agg ⟨[(.string x173.1), (.slice x173.2.1.a x173.2.1.n x173.2.1.c)]⟩)] h55 (.un (.one .sl)) fun (x174 : Sl) h56 =>
  Ld h56 (Addr.add (⟨r28, 0, none⟩) 1) .sl fun (x176 : Sl) =>
  Lp (σ := (Int × Unit)) (fun K_8 s_10 h57 =>
  cond (decide (s_10.1 < (((x176.n : Nat) : Int))))
  (Ix x176 s_10.1 6 fun a181 =>
  LdA h57 a181 [.sl, .sl, (.int .i64), (.int .i64), .sl, (.int .i64)] fun (x182 : ((Sl) × (Sl) × (Int) × (Int) × (Sl) × (Int) × Unit)) =>
  New h57 (.cells #[(.slice none 0 0), (.slice none 0 0), (.int .i64 ((0 : Int))), (.int .i64 ((0 : Int))), (.slice none 0 0), (.int .i64 ((0 : Int)))] 55) fun r32 h58 =>
  StL h58 (⟨r32, 0, none⟩) 0 [(.slice x182.1.a x182.1.n x182.1.c), (.slice x182.2.1.a x182.2.1.n x182.2.1.c), (.int .i64 x182.2.2.1), (.int .i64 x182.2.2.2.1), (.slice x182.2.2.2.2.1.a x182.2.2.2.2.1.n x182.2.2.2.2.1.c), (.int .i64 x182.2.2.2.2.2.1)] fun h59 =>
  Ix x174 s_10.1 1 fun a185 =>
  Ld h59 a185 .bool fun (x186 : Bool) =>
  cond (!x186)
  (Wk h59 fun h60 => K_8 (IntKind.wrap .i64 (s_10.1 + ((1 : Int))), ()) h60)
  (Ld h59 (Addr.add (⟨r32, 0, none⟩) 1) .sl fun (x189 : Sl) =>
  Lp (σ := (Int × Unit)) (fun K_9 s_11 h61 =>
  cond (decide (s_11.1 < (((x189.n : Nat) : Int))))
  (Ix x189 s_11.1 7 fun a193 =>
  LdA h61 a193 [(.int .i64), (.int .i64), .sl, (.int .i64), (.int .i64), (.int .i64), (.int .i64)] fun (x194 : ((Int) × (Int) × (Sl) × (Int) × (Int) × (Int) × (Int) × Unit)) =>
  New h61 (.cells #[(.int .i64 ((0 : Int))), (.int .i64 ((0 : Int))), (.slice none 0 0), (.int .i64 ((0 : Int))), (.int .i64 ((0 : Int))), (.int .i64 ((0 : Int))), (.int .i64 ((0 : Int)))] 60) fun r34 h62 =>
  StL h62 (⟨r34, 0, none⟩) 0 [(.int .i64 x194.1), (.int .i64 x194.2.1), (.slice x194.2.2.1.a x194.2.2.1.n x194.2.2.1.c), (.int .i64 x194.2.2.2.1), (.int .i64 x194.2.2.2.2.1), (.int .i64 x194.2.2.2.2.2.1), (.int .i64 x194.2.2.2.2.2.2.1)] fun h63 =>
  Ld h63 (Addr.add (⟨r34, 0, none⟩) 2) .sl fun (x196 : Sl) =>
  Lp (σ := (Bool × Bool × Int × Unit)) (fun K_10 s_12 h64 =>
  cond (decide (s_12.2.2.1 < (((x196.n : Nat) : Int))))
  (Ix x196 s_12.2.2.1 1 fun a200 =>
  Ld h64 a200 (.int .i64) fun (x201 : Int) =>
  Cut (σ := (Bool × Unit)) (fun s_13 h65 =>
  cond s_12.2.1
  (Wk h65 fun h66 => K_10 (s_13.1, true, IntKind.wrap .i64 (s_12.2.2.1 + ((1 : Int))), ()) h66)
  (Ld h65 (Addr.add (⟨r19, 0, none⟩) 0) .sl fun (x215 : Sl) =>
  Ld h65 (⟨r27, 0, none⟩) (.int .i64) fun (x216 : Int) =>
  Ix x215 x216 1 fun a217 =>
  Ld h65 a217 .mp fun (x218 : Option Nat) =>
  Look h65 x218 (.int .i64) (.int .i64 x201) (.one .bool) false fun (x220 : Bool) _ =>
  Wk h65 fun h67 => K_10 (s_13.1, x220, IntKind.wrap .i64 (s_12.2.2.1 + ((1 : Int))), ()) h67)) fun J_2 =>
  cond s_12.1
  (Wk h64 fun h68 => J_2 (true, ()) h68)
  (Ld h64 (Addr.add (⟨r7, 0, none⟩) 0) .sl fun (x205 : Sl) =>
  Ld h64 (⟨r27, 0, none⟩) (.int .i64) fun (x206 : Int) =>
  Ix x205 x206 1 fun a207 =>
  Ld h64 a207 .mp fun (x208 : Option Nat) =>
  Look h64 x208 (.int .i64) (.int .i64 x201) (.one .bool) false fun (x210 : Bool) _ =>
  Wk h64 fun h69 => J_2 (x210, ()) h69))
  (Ld h64 (Addr.add (⟨r34, 0, none⟩) 0) (.int .i64) fun (x224 : Int) =>
  cond (x224 == ((2 : Int)))
  (Ld h64 (Addr.add (⟨r34, 0, none⟩) 1) (.int .i64) fun (x229 : Int) =>
  CallV Try.prog (.func (.func 30) ⟨[]⟩ ⟨[(.pointer (some (⟨r18, 0, none⟩))), (.pointer (some (⟨r20, 0, none⟩))), (.pointer (some (⟨r27, 0, none⟩))), (.pointer (some (⟨r7, 0, none⟩)))]⟩) [(.int .i64 x229), (.bool s_12.1), (.bool s_12.2.1)] h64 (.tup []) fun (_ : (Unit)) h70 =>
  Wk h70 fun h71 => K_9 (IntKind.wrap .i64 (s_11.1 + ((1 : Int))), ()) h71)
  (Cut (σ := (Bool × Unit)) (fun s_14 h72 =>
  cond s_14.1
  (Cut (σ := (Bool × Unit)) (fun s_15 h73 =>
  Ld h73 (Addr.add (⟨r34, 0, none⟩) 1) (.int .i64) fun (x255 : Int) =>
  cond s_12.1
  (cond s_12.2.1
  (CallV Try.prog (.func (.func 30) ⟨[]⟩ ⟨[(.pointer (some (⟨r18, 0, none⟩))), (.pointer (some (⟨r20, 0, none⟩))), (.pointer (some (⟨r27, 0, none⟩))), (.pointer (some (⟨r7, 0, none⟩)))]⟩) [(.int .i64 x255), (.bool true), (.bool true)] h73 (.tup []) fun (_ : (Unit)) h74 =>
  Wk h74 fun h75 => K_9 (IntKind.wrap .i64 (s_11.1 + ((1 : Int))), ()) h75)
  (Ld h73 (Addr.add (⟨r19, 0, none⟩) 1) .sl fun (x271 : Sl) =>
  Ld h73 (Addr.add (⟨r34, 0, none⟩) 5) (.int .i64) fun (x273 : Int) =>
  Ix x271 x273 1 fun a274 =>
  Ld h73 a274 .bool fun (x275 : Bool) =>
  CallV Try.prog (.func (.func 30) ⟨[]⟩ ⟨[(.pointer (some (⟨r18, 0, none⟩))), (.pointer (some (⟨r20, 0, none⟩))), (.pointer (some (⟨r27, 0, none⟩))), (.pointer (some (⟨r7, 0, none⟩)))]⟩) [(.int .i64 x255), (.bool true), (.bool x275)] h73 (.tup []) fun (_ : (Unit)) h76 =>
  Wk h76 fun h77 => K_9 (IntKind.wrap .i64 (s_11.1 + ((1 : Int))), ()) h77))
  (cond s_15.1
  (cond s_12.2.1
  (CallV Try.prog (.func (.func 30) ⟨[]⟩ ⟨[(.pointer (some (⟨r18, 0, none⟩))), (.pointer (some (⟨r20, 0, none⟩))), (.pointer (some (⟨r27, 0, none⟩))), (.pointer (some (⟨r7, 0, none⟩)))]⟩) [(.int .i64 x255), (.bool true), (.bool true)] h73 (.tup []) fun (_ : (Unit)) h78 =>
  Wk h78 fun h79 => K_9 (IntKind.wrap .i64 (s_11.1 + ((1 : Int))), ()) h79)
  (Ld h73 (Addr.add (⟨r19, 0, none⟩) 1) .sl fun (x271_1 : Sl) =>
  Ld h73 (Addr.add (⟨r34, 0, none⟩) 5) (.int .i64) fun (x273_1 : Int) =>
  Ix x271_1 x273_1 1 fun a274_1 =>
  Ld h73 a274_1 .bool fun (x275_1 : Bool) =>
  CallV Try.prog (.func (.func 30) ⟨[]⟩ ⟨[(.pointer (some (⟨r18, 0, none⟩))), (.pointer (some (⟨r20, 0, none⟩))), (.pointer (some (⟨r27, 0, none⟩))), (.pointer (some (⟨r7, 0, none⟩)))]⟩) [(.int .i64 x255), (.bool true), (.bool x275_1)] h73 (.tup []) fun (_ : (Unit)) h80 =>
  Wk h80 fun h81 => K_9 (IntKind.wrap .i64 (s_11.1 + ((1 : Int))), ()) h81))
  (Ld h73 (Addr.add (⟨r7, 0, none⟩) 1) .sl fun (x262 : Sl) =>
  Ld h73 (Addr.add (⟨r34, 0, none⟩) 5) (.int .i64) fun (x264 : Int) =>
  Ix x262 x264 1 fun a265 =>
  Ld h73 a265 .bool fun (x266 : Bool) =>
  cond s_12.2.1
  (CallV Try.prog (.func (.func 30) ⟨[]⟩ ⟨[(.pointer (some (⟨r18, 0, none⟩))), (.pointer (some (⟨r20, 0, none⟩))), (.pointer (some (⟨r27, 0, none⟩))), (.pointer (some (⟨r7, 0, none⟩)))]⟩) [(.int .i64 x255), (.bool x266), (.bool true)] h73 (.tup []) fun (_ : (Unit)) h82 =>
  Wk h82 fun h83 => K_9 (IntKind.wrap .i64 (s_11.1 + ((1 : Int))), ()) h83)
  (Ld h73 (Addr.add (⟨r19, 0, none⟩) 1) .sl fun (x271_2 : Sl) =>
  Ld h73 (Addr.add (⟨r34, 0, none⟩) 5) (.int .i64) fun (x273_2 : Int) =>
  Ix x271_2 x273_2 1 fun a274_2 =>
  Ld h73 a274_2 .bool fun (x275_2 : Bool) =>
  CallV Try.prog (.func (.func 30) ⟨[]⟩ ⟨[(.pointer (some (⟨r18, 0, none⟩))), (.pointer (some (⟨r20, 0, none⟩))), (.pointer (some (⟨r27, 0, none⟩))), (.pointer (some (⟨r7, 0, none⟩)))]⟩) [(.int .i64 x255), (.bool x266), (.bool x275_2)] h73 (.tup []) fun (_ : (Unit)) h84 =>
  Wk h84 fun h85 => K_9 (IntKind.wrap .i64 (s_11.1 + ((1 : Int))), ()) h85)))) fun J_4 =>
  Ld h72 (⟨r18, 0, none⟩) .bool fun (x236 : Bool) =>
  cond (!x236)
  (Ld h72 (Addr.add (⟨r34, 0, none⟩) 0) (.int .i64) fun (x240 : Int) =>
  cond (x240 == ((5 : Int)))
  (Wk h72 fun h86 => J_4 (true, ()) h86)
  (cond s.1
  (Wk h72 fun h87 => J_4 (true, ()) h87)
  (Ld h72 (Addr.add (⟨r34, 0, none⟩) 5) (.int .i64) fun (x248 : Int) =>
  Ix s58 x248 1 fun a249 =>
  Ld h72 a249 .bool fun (x250 : Bool) =>
  Wk h72 fun h88 => J_4 (x250, ()) h88)))
  (Wk h72 fun h89 => J_4 (false, ()) h89))
  (cond (x224 == ((4 : Int)))
  (Ld h72 (Addr.add (⟨r7, 0, none⟩) 1) .sl fun (x281 : Sl) =>
  Ld h72 (Addr.add (⟨r34, 0, none⟩) 5) (.int .i64) fun (x283 : Int) =>
  Ld h72 (Addr.add (⟨r7, 0, none⟩) 1) .sl fun (x285 : Sl) =>
  Ld h72 (Addr.add (⟨r34, 0, none⟩) 5) (.int .i64) fun (x287 : Int) =>
  Ix x285 x287 1 fun a288 =>
  Ld h72 a288 .bool fun (x289 : Bool) =>
  cond x289
  (Ix x281 x283 1 fun a302 =>
  StL h72 a302 0 [(.bool true)] fun h90 =>
  Wk h90 fun h91 => K_9 (IntKind.wrap .i64 (s_11.1 + ((1 : Int))), ()) h91)
  (Ld h72 (Addr.add (⟨r19, 0, none⟩) 0) .sl fun (x292 : Sl) =>
  Ld h72 (⟨r27, 0, none⟩) (.int .i64) fun (x293 : Int) =>
  Ix x292 x293 1 fun a294 =>
  Ld h72 a294 .mp fun (x295 : Option Nat) =>
  Ld h72 (Addr.add (⟨r34, 0, none⟩) 2) .sl fun (x297 : Sl) =>
  Ix x297 ((0 : Int)) 1 fun a298 =>
  Ld h72 a298 (.int .i64) fun (x299 : Int) =>
  Look h72 x295 (.int .i64) (.int .i64 x299) (.one .bool) false fun (x300 : Bool) _ =>
  Ix x281 x283 1 fun a302_1 =>
  StL h72 a302_1 0 [(.bool x300)] fun h92 =>
  Wk h92 fun h93 => K_9 (IntKind.wrap .i64 (s_11.1 + ((1 : Int))), ()) h93))
  (cond (x224 == ((6 : Int)))
  (Ld h72 (Addr.add (⟨r7, 0, none⟩) 1) .sl fun (x306 : Sl) =>
  Ld h72 (Addr.add (⟨r34, 0, none⟩) 5) (.int .i64) fun (x308 : Int) =>
  Ld h72 (Addr.add (⟨r7, 0, none⟩) 1) .sl fun (x310 : Sl) =>
  Ld h72 (Addr.add (⟨r34, 0, none⟩) 5) (.int .i64) fun (x312 : Int) =>
  Ix x310 x312 1 fun a313 =>
  Ld h72 a313 .bool fun (x314 : Bool) =>
  cond x314
  (Ix x306 x308 1 fun a327 =>
  StL h72 a327 0 [(.bool true)] fun h94 =>
  Wk h94 fun h95 => K_9 (IntKind.wrap .i64 (s_11.1 + ((1 : Int))), ()) h95)
  (Ld h72 (Addr.add (⟨r19, 0, none⟩) 0) .sl fun (x317 : Sl) =>
  Ld h72 (⟨r27, 0, none⟩) (.int .i64) fun (x318 : Int) =>
  Ix x317 x318 1 fun a319 =>
  Ld h72 a319 .mp fun (x320 : Option Nat) =>
  Ld h72 (Addr.add (⟨r34, 0, none⟩) 2) .sl fun (x322 : Sl) =>
  Ix x322 ((1 : Int)) 1 fun a323 =>
  Ld h72 a323 (.int .i64) fun (x324 : Int) =>
  Look h72 x320 (.int .i64) (.int .i64 x324) (.one .bool) false fun (x325 : Bool) _ =>
  Ix x306 x308 1 fun a327_1 =>
  StL h72 a327_1 0 [(.bool x325)] fun h96 =>
  Wk h96 fun h97 => K_9 (IntKind.wrap .i64 (s_11.1 + ((1 : Int))), ()) h97))
  (cond (x224 == ((7 : Int)))
  (Ld h72 (Addr.add (⟨r3, 0, none⟩) 1) .sl fun (x331 : Sl) =>
  Ld h72 (Addr.add (⟨r34, 0, none⟩) 6) (.int .i64) fun (x333 : Int) =>
  Ix x331 x333 2 fun a334 =>
  Ld h72 (Addr.add a334 1) .sl fun (x336 : Sl) =>
  Ix x336 ((0 : Int)) 6 fun a337 =>
  Ld h72 (Addr.add a337 0) .sl fun (x339 : Sl) =>
  Lp (σ := (Int × Unit)) (fun K_11 s_16 h98 =>
  cond (decide (s_16.1 < (((x339.n : Nat) : Int))))
  (Ix x339 s_16.1 1 fun a344 =>
  Ld h98 a344 (.int .i64) fun (x345 : Int) =>
  Ld h98 (Addr.add (⟨r7, 0, none⟩) 0) .sl fun (x347 : Sl) =>
  Ld h98 (Addr.add (⟨r34, 0, none⟩) 6) (.int .i64) fun (x349 : Int) =>
  Ix x347 x349 1 fun a350 =>
  Ld h98 a350 .mp fun (x351 : Option Nat) =>
  Ld h98 (Addr.add (⟨r7, 0, none⟩) 0) .sl fun (x354 : Sl) =>
  Ld h98 (Addr.add (⟨r34, 0, none⟩) 6) (.int .i64) fun (x356 : Int) =>
  Ix x354 x356 1 fun a357 =>
  Ld h98 a357 .mp fun (x358 : Option Nat) =>
  Look h98 x358 (.int .i64) (.int .i64 x345) (.one .bool) false fun (x360 : Bool) _ =>
  cond x360
  (MUpd h98 x351 (.int .i64) (.int .i64 x345) (.bool true) fun h99 =>
  Wk h99 fun h100 => K_11 (IntKind.wrap .i64 (s_16.1 + ((1 : Int))), ()) h100)
  (Ld h98 (Addr.add (⟨r19, 0, none⟩) 0) .sl fun (x363 : Sl) =>
  Ld h98 (⟨r27, 0, none⟩) (.int .i64) fun (x364 : Int) =>
  Ix x363 x364 1 fun a365 =>
  Ld h98 a365 .mp fun (x366 : Option Nat) =>
  Ld h98 (Addr.add (⟨r34, 0, none⟩) 2) .sl fun (x368 : Sl) =>
  Ix x368 s_16.1 1 fun a370 =>
  Ld h98 a370 (.int .i64) fun (x371 : Int) =>
  Look h98 x366 (.int .i64) (.int .i64 x371) (.one .bool) false fun (x372 : Bool) _ =>
  MUpd h98 x351 (.int .i64) (.int .i64 x345) (.bool x372) fun h101 =>
  Wk h101 fun h102 => K_11 (IntKind.wrap .i64 (s_16.1 + ((1 : Int))), ()) h102))
  (Ld h98 (Addr.add (⟨r34, 0, none⟩) 1) (.int .i64) fun (x377 : Int) =>
  Ld h98 (Addr.add (⟨r7, 0, none⟩) 2) .sl fun (x379 : Sl) =>
  Ld h98 (Addr.add (⟨r34, 0, none⟩) 6) (.int .i64) fun (x381 : Int) =>
  Ix x379 x381 1 fun a382 =>
  Ld h98 a382 .bool fun (x383 : Bool) =>
  Ld h98 (Addr.add (⟨r19, 0, none⟩) 2) .sl fun (x385 : Sl) =>
  Ld h98 (Addr.add (⟨r34, 0, none⟩) 6) (.int .i64) fun (x387 : Int) =>
  Ix x385 x387 1 fun a388 =>
  Ld h98 a388 .bool fun (x389 : Bool) =>
  CallV Try.prog (.func (.func 30) ⟨[]⟩ ⟨[(.pointer (some (⟨r18, 0, none⟩))), (.pointer (some (⟨r20, 0, none⟩))), (.pointer (some (⟨r27, 0, none⟩))), (.pointer (some (⟨r7, 0, none⟩)))]⟩) [(.int .i64 x377), (.bool x383), (.bool x389)] h98 (.tup []) fun (_ : (Unit)) h103 =>
  Wk h103 fun h104 => K_9 (IntKind.wrap .i64 (s_11.1 + ((1 : Int))), ()) h104))
  ((0 : Int), ()) h72)
  (Wk h72 fun h105 => K_9 (IntKind.wrap .i64 (s_11.1 + ((1 : Int))), ()) h105))))) fun J_3 =>
  cond (x224 == ((3 : Int)))
  (Wk h64 fun h106 => J_3 (x224 == ((3 : Int)), ()) h106)
  (Wk h64 fun h107 => J_3 (x224 == ((5 : Int)), ()) h107))))
  (false, false, (0 : Int), ()) h63)
  (Ld h61 (Addr.add (Addr.add (⟨r32, 0, none⟩) 2) 2) .sl fun (x394 : Sl) =>
  Lp (σ := (Int × Unit)) (fun K_12 s_17 h108 =>
  cond (decide (s_17.1 < (((x394.n : Nat) : Int))))
  (Ix x394 s_17.1 2 fun a398 =>
  LdA h108 a398 [(.int .i64), .sl] fun (x399 : ((Int) × (Sl) × Unit)) =>
  New h108 (.cells #[(.int .i64 ((0 : Int))), (.slice none 0 0)] 74) fun r43 h109 =>
  StL h109 (⟨r43, 0, none⟩) 0 [(.int .i64 x399.1), (.slice x399.2.1.a x399.2.1.n x399.2.1.c)] fun h110 =>
  Ld h110 (Addr.add (⟨r28, 0, none⟩) 1) .sl fun (x401 : Sl) =>
  Ld h110 (Addr.add (⟨r43, 0, none⟩) 0) (.int .i64) fun (x403 : Int) =>
  Ix x401 x403 6 fun a404 =>
  Ld h110 (Addr.add a404 0) .sl fun (x406 : Sl) =>
  Lp (σ := (Int × Unit)) (fun K_13 s_18 h111 =>
  cond (decide (s_18.1 < (((x406.n : Nat) : Int))))
  (Ix x406 s_18.1 1 fun a411 =>
  Ld h111 a411 (.int .i64) fun (x412 : Int) =>
  Ld h111 (Addr.add (⟨r7, 0, none⟩) 0) .sl fun (x416 : Sl) =>
  Ld h111 (⟨r27, 0, none⟩) (.int .i64) fun (x417 : Int) =>
  Ix x416 x417 1 fun a418 =>
  Ld h111 a418 .mp fun (x419 : Option Nat) =>
  Ld h111 (Addr.add (⟨r43, 0, none⟩) 1) .sl fun (x421 : Sl) =>
  Ix x421 s_18.1 1 fun a423 =>
  Ld h111 a423 (.int .i64) fun (x424 : Int) =>
  Look h111 x419 (.int .i64) (.int .i64 x424) (.one .bool) false fun (x425 : Bool) _ =>
  Ld h111 (Addr.add (⟨r19, 0, none⟩) 0) .sl fun (x427 : Sl) =>
  Ld h111 (⟨r27, 0, none⟩) (.int .i64) fun (x428 : Int) =>
  Ix x427 x428 1 fun a429 =>
  Ld h111 a429 .mp fun (x430 : Option Nat) =>
  Ld h111 (Addr.add (⟨r43, 0, none⟩) 1) .sl fun (x432 : Sl) =>
  Ix x432 s_18.1 1 fun a434 =>
  Ld h111 a434 (.int .i64) fun (x435 : Int) =>
  Look h111 x430 (.int .i64) (.int .i64 x435) (.one .bool) false fun (x436 : Bool) _ =>
  CallV Try.prog (.func (.func 30) ⟨[]⟩ ⟨[(.pointer (some (⟨r18, 0, none⟩))), (.pointer (some (⟨r20, 0, none⟩))), (.pointer (some (⟨r27, 0, none⟩))), (.pointer (some (⟨r7, 0, none⟩)))]⟩) [(.int .i64 x412), (.bool x425), (.bool x436)] h111 (.tup []) fun (_ : (Unit)) h112 =>
  Wk h112 fun h113 => K_13 (IntKind.wrap .i64 (s_18.1 + ((1 : Int))), ()) h113)
  (Wk h111 fun h114 => K_12 (IntKind.wrap .i64 (s_17.1 + ((1 : Int))), ()) h114))
  ((0 : Int), ()) h110)
  (Ld h108 (Addr.add (Addr.add (⟨r32, 0, none⟩) 2) 0) (.int .i64) fun (x442 : Int) =>
  cond (x442 == ((3 : Int)))
  (Ld h108 (Addr.add (⟨r7, 0, none⟩) 2) .sl fun (x445 : Sl) =>
  Ld h108 (⟨r27, 0, none⟩) (.int .i64) fun (x446 : Int) =>
  Ld h108 (Addr.add (⟨r7, 0, none⟩) 2) .sl fun (x448 : Sl) =>
  Ld h108 (⟨r27, 0, none⟩) (.int .i64) fun (x449 : Int) =>
  Ix x448 x449 1 fun a450 =>
  Ld h108 a450 .bool fun (x451 : Bool) =>
  cond x451
  (Ix x445 x446 1 fun a463 =>
  StL h108 a463 0 [(.bool true)] fun h115 =>
  Wk h115 fun h116 => K_8 (IntKind.wrap .i64 (s_10.1 + ((1 : Int))), ()) h116)
  (Ld h108 (Addr.add (⟨r19, 0, none⟩) 0) .sl fun (x454 : Sl) =>
  Ld h108 (⟨r27, 0, none⟩) (.int .i64) fun (x455 : Int) =>
  Ix x454 x455 1 fun a456 =>
  Ld h108 a456 .mp fun (x457 : Option Nat) =>
  Ld h108 (Addr.add (Addr.add (⟨r32, 0, none⟩) 2) 1) (.int .i64) fun (x460 : Int) =>
  Look h108 x457 (.int .i64) (.int .i64 x460) (.one .bool) false fun (x461 : Bool) _ =>
  Ix x445 x446 1 fun a463_1 =>
  StL h108 a463_1 0 [(.bool x461)] fun h117 =>
  Wk h117 fun h118 => K_8 (IntKind.wrap .i64 (s_10.1 + ((1 : Int))), ()) h118))
  (Wk h108 fun h119 => K_8 (IntKind.wrap .i64 (s_10.1 + ((1 : Int))), ()) h119)))
  ((0 : Int), ()) h61))
  ((0 : Int), ()) h59))
  (Wk h57 fun h120 => K_7 (IntKind.wrap .i64 (s_9.1 + ((1 : Int))), ()) h120))
  ((0 : Int), ()) h56)
  (Wk h51 fun h121 => K_6 (IntKind.wrap .i64 (s_8.1 + ((1 : Int))), ()) h121))
  ((0 : Int), ()) h50)
  (LdA h50 (⟨r7, 0, none⟩) [.sl, .sl, .sl] fun (x466 : ((Sl) × (Sl) × (Sl) × Unit)) =>
  StL h50 (⟨r6, 0, none⟩) 0 [(.slice x466.1.a x466.1.n x466.1.c), (.slice x466.2.1.a x466.2.1.n x466.2.1.c), (.slice x466.2.2.1.a x466.2.2.1.n x466.2.2.1.c)] fun h122 =>
  LdA h122 (⟨r6, 0, none⟩) [.sl, .sl, .sl] fun (y : ((Sl) × (Sl) × (Sl) × Unit)) =>
  Wk h122 fun h123 => R (.agg ⟨[(.slice y.1.a y.1.n y.1.c), (.slice y.2.1.a y.2.1.n y.2.1.c), (.slice y.2.2.1.a y.2.2.1.n y.2.2.1.c)]⟩) h123))
  ((0 : Int), ()) h42))
  ((0 : Int), (0 : Int), ()) h41
end Go.Proofs.Ytaefmhephoilmaa

/- The law's own facts: an instruction. -/
namespace Go.Proofs.Ytaefmhephoilmaa
open Go Go.VL

theorem right_lenF {p : ProgD} {i : InsD} (h : rightD p i = true) (h0 : 0 ≤ (shapeD i.op).1) : (i.args.length : Int) = (shapeD i.op).1 := by
  unfold rightD at h
  by_cases c1 : (shapeD i.op).1 = -2
  · rw [if_pos c1] at h; cases h
  rw [if_neg c1] at h
  by_cases c2 : 0 ≤ (shapeD i.op).1 ∧ (i.args.length : Int) ≠ (shapeD i.op).1
  · rw [if_pos c2] at h; cases h
  exact Classical.byContradiction fun x => c2 ⟨h0, x⟩
theorem params0 (nm : ByteArray) : ∀ (bs : List BlockD) (h : 0 < bs.length), bs[0].params = FuncD.params ⟨nm, bs⟩
  | [], h => by simp at h
  | _ :: _, _ => rfl
theorem markM_bd' (D B : BF) (t : Tgt) : 0 ≤ markM D B t ∧ markM D B t ≤ 2 := by unfold markM; split; omega; split <;> omega
theorem stays_two {x : Int} : (2 ≤ staysD x ↔ 2 ≤ x) ∧ (1 ≤ staysD x ↔ 2 ≤ x) := by unfold staysD; split <;> omega
theorem lv_stays {stay : Bool} {x : Int} : lvB stay ≤ staysD x ↔ 2 ≤ x := by
  unfold lvB
  split
  · exact stays_two.1
  · exact stays_two.2
theorem lv_cut {stay : Bool} {cut : CutF} {f : Nat} {v x : Int} : lvB stay ≤ cutS cut f v (staysD x) ↔ 2 ≤ x := by
  unfold cutS
  split
  · rw [lv_stays, stays_two.1]
  · exact lv_stays
theorem secB_imp {stay : Bool} {D2 B : BF} (hs : stay = true) : secB stay D2 B = B := by unfold secB; rw [if_pos hs]
section
variable {hB hh : V} {p : ProgD} {sa sf pc s58 : Sl} {cutIn : List (Int → Bool)} {r3 r4 r7 r18 r19 r20 r27 r34 : Nat} {xv xa xr zv za zr : Sl} {stay : Bool} {D2 B : BF} {ids : List Nat}
theorem FcC.zval (c : FcC hB p sa sf pc s58 cutIn r3 r4 r7 r18 r19 r20 xv xa xr zv za zr stay D2) {k : Nat} (w : FcW hB hh p xv xa xr ids B) (hk : k < p.funcs.length) {K : Option Nat → Prop} (hK : ∀ q, (∀ (v : Int) (KK : Bool → Bool → Prop), (∀ b, KK (secB stay D2 B (.val k v)) b) → Look hh (some q) (.int .i64) (.int .i64 v) (.one .bool) false KK) → K (some q)) :
    Ix zv (k : Int) 1 fun a => Ld hh a .mp K := (c.zread w).val hk hK
set_option maxRecDepth 100000 in
theorem from_ins {k : Nat} {i : InsD} {q : Sl} {s : Bool × Int × Unit} {s_12 : Bool × Bool × Int × Unit} {s_11 : Int × Unit} {K_9 : Int × Unit → V → Prop} (c : FcC hB p sa sf pc s58 cutIn r3 r4 r7 r18 r19 r20 xv xa xr zv za zr stay D2) (w : FcW hB hh p xv xa xr ids B) (b27 : Box hB r27 [iV (k : Int)] 3) (b34 : Box hB r34 (insV i q) 60) (hq : isInts hB q i.args)
    (ok : CheckOk p) (hk : k < p.funcs.length) (hr : rightD p i = true) (hs : s.1 = anyS (insOfP p)) (hany : s_12.1 = true ↔ ∃ v ∈ i.args, B (.val k v) = true) (hsure : s_12.2.1 = true ↔ ∃ v ∈ i.args, secB stay D2 B (.val k v) = true)
    (hK : ∀ h', FcW hB h' p xv xa xr ids (runB ((insCons p (cutOf cutIn) (writesD p) k i).map (cB stay D2)) B) → K_9 (IntKind.wrap .i64 (s_11.1 + ((1 : Int))), ()) h') :
    FromIns r3 r7 r18 r19 r20 r27 r34 s58 s s_12 s_11 K_9 hh := by
  have b34h := b34.le w.le
  have b27h := b27.le w.le
  have b7h := c.b7.le w.le
  have b19h := c.b19.le w.le
  obtain ⟨any, sure, j12, u12⟩ := s_12
  have hany : any = true ↔ ∃ v ∈ i.args, B (.val k v) = true := hany
  have hsure : sure = true ↔ ∃ v ∈ i.args, secB stay D2 B (.val k v) = true := hsure
  have hv2 : 2 ≤ valsOf k i.args (markM (secB stay D2 B) B) ↔ sure = true := by
    rw [valsOf_ge (by omega), hsure]
    simp only [markM_two]
  have hv1 : 1 ≤ valsOf k i.args (markM (secB stay D2 B) B) ↔ any = true ∨ sure = true := by
    rw [valsOf_ge (by omega), hsure, hany]
    simp only [markM_one]
    constructor
    · rintro ⟨v, hv, h | h⟩
      · exact .inr ⟨v, hv, h⟩
      · exact .inl ⟨v, hv, h⟩
    · rintro (⟨v, hv, h⟩ | ⟨v, hv, h⟩)
      · exact ⟨v, hv, .inr h⟩
      · exact ⟨v, hv, .inl h⟩
  have hsa : stay = true → (any = true ↔ sure = true) := fun e => by rw [hany, hsure, secB_imp e]
  have goSet : ∀ {hh' : V} {B' : BF} {to su : Bool} {raw : LabF → Int}, FcW hB hh' p xv xa xr ids B' → (stay = true → ((to || su) = true ↔ 2 ≤ raw (markM (secB stay D2 B') B'))) → (stay = false → (su = true ↔ 2 ≤ raw (markM (secB stay D2 B') B')) ∧ ((to || su) = true ↔ 1 ≤ raw (markM (secB stay D2 B') B'))) →
      runB ((insCons p (cutOf cutIn) (writesD p) k i).map (cB stay D2)) B = stepB B' (cB stay D2 ⟨.val k i.dst, fun L => cutS (cutOf cutIn) k i.dst (raw L)⟩) →
      CallV Try.prog (.func (.func 30) ⟨[]⟩ ⟨[(.pointer (some ⟨r18, 0, none⟩)), (.pointer (some ⟨r20, 0, none⟩)), (.pointer (some ⟨r27, 0, none⟩)), (.pointer (some ⟨r7, 0, none⟩))]⟩) [iV i.dst, .bool to, .bool su] hh' (.tup []) fun (_ : Unit) h' => Wk h' fun h'' => K_9 (IntKind.wrap .i64 (s_11.1 + ((1 : Int))), ()) h'' :=
    fun {hh' B' to su raw} w' h1 h2 he => c_set c w' b27 hk fun h' w2 => ⟨(), rfl, Wk_self (hK h' (by
      rw [he]
      have := set_src (stay := stay) (cut := cutOf cutIn k i.dst) h1 h2
      rw [this] at w2
      exact w2))⟩
  refine ⟨_, b34h.cell0, cond_eqi (fun (e2 : i.op = 2) => ⟨_, b34h.cell rfl, ?_⟩) (fun (n2 : ¬ i.op = 2) => ?_)⟩
  · refine goSet (raw := valsOf k i.args) w (fun e => ?_) (fun _ => ⟨hv2.symm, ?_⟩) ?_
    · rw [hv2, Bool.or_eq_true, hsa e, or_self]
    · rw [hv1, Bool.or_eq_true]
    · unfold insCons
      rw [if_neg (by omega), if_pos e2]
      rfl
  refine Cut_i (fun st h72 => hh = h72 ∧ st.1 = decide (i.op = 3 ∨ i.op = 5)) (fun J hJ => ?_) ?_
  · refine cond_eqi (fun (e : i.op = 3) => Wk_self (hJ _ _ ⟨rfl, ?_⟩)) (fun (e : ¬ i.op = 3) => Wk_self (hJ _ _ ⟨rfl, ?_⟩))
    · show (i.op == 3) = _
      rw [e]; rfl
    · show (i.op == 5) = _
      by_cases e5 : i.op = 5
      · rw [e5]; rfl
      · rw [decide_eq_false (fun h => h.elim e e5)]; simp [e5]
  rintro ⟨st, u⟩ _ ⟨rfl, hst⟩
  have hst : st = _ := hst
  subst hst
  refine cond_dec (fun (e35 : i.op = 3 ∨ i.op = 5) => ?_) (fun (n35 : ¬ (i.op = 3 ∨ i.op = 5)) => ?_)
  · have hra := right_arr hr (by omega)
    have hwl : (outOf p.arrays.length (insOfP p)).length = p.arrays.length := outOf_len _ _
    have hol : i.arr.toNat < (outOf p.arrays.length (insOfP p)).length := by omega
    have hmay : mayD (writesD p) i = if i.op = 5 ∨ anyS (insOfP p) = true ∨ (outOf p.arrays.length (insOfP p))[i.arr.toNat] = true then 1 else 0 := by
      unfold mayD writesD
      by_cases e5 : i.op = 5
      · rw [if_pos e5, if_pos (.inl e5)]
      · rw [if_neg e5]
        have e3 : i.op = 3 := by omega
        rw [List.getElem?_map, List.getElem?_eq_getElem hol]
        simp only [Option.map_some, Option.some.injEq, Bool.or_eq_true]
        by_cases hx : anyS (insOfP p) = true ∨ (outOf p.arrays.length (insOfP p))[i.arr.toNat] = true
        · rw [if_pos ⟨e3, hra.1, hx.symm⟩, if_pos (.inr hx)]
        · rw [if_neg (fun h => hx h.2.2.symm), if_neg (fun h => h.elim e5 hx)]
    refine Cut_i (fun st h73 => hh = h73 ∧ (st.1 = true ↔ stay = false ∧ mayD (writesD p) i = 1)) (fun J hJ => ?_) ?_
    · refine ⟨stay, (c.b18.le w.le).cell0, cond_not (fun (hs0 : stay = false) => ⟨_, b34h.cell0, ?_⟩) (fun (hs1 : stay = true) => Wk_self (hJ _ _ ⟨rfl, ?_⟩))⟩
      · refine cond_eqi (fun (e5 : i.op = 5) => Wk_self (hJ _ _ ⟨rfl, ?_⟩)) (fun (n5 : ¬ i.op = 5) => cond_b (fun hst => Wk_self (hJ _ _ ⟨rfl, ?_⟩)) (fun hst => ⟨_, b34h.cell rfl, (c.sets.le mono_bool w.le).ix hra.1 hol fun a ha => ⟨_, ha, Wk_self (hJ _ _ ⟨rfl, ?_⟩)⟩⟩))
        · rw [hmay, if_pos (.inl e5)]; simp [hs0]
        · have hst : s.1 = true := hst
          rw [hs] at hst
          rw [hmay, if_pos (.inr (.inl hst))]; simp [hs0]
        · have hst : s.1 = false := hst
          rw [hs] at hst
          rw [hmay]
          show (outOf p.arrays.length (insOfP p))[i.arr.toNat] = true ↔ _
          by_cases hx : (outOf p.arrays.length (insOfP p))[i.arr.toNat] = true
          · rw [if_pos (.inr (.inr hx))]; simp [hs0, hx]
          · rw [if_neg (fun h => by rcases h with h | h | h; exact n5 h; rw [hst] at h; cases h; exact hx h)]; simp [hx]
      · rw [hs1]; simp
    rintro ⟨may, u⟩ _ ⟨rfl, hm⟩
    have hm : may = true ↔ stay = false ∧ mayD (writesD p) i = 1 := hm
    have key : ∀ (to su : Bool), (to = true ↔ any = true ∨ may = true ∨ B (.arr i.arr.toNat) = true) → (su = true ↔ sure = true ∨ secB stay D2 B (.arr i.arr.toNat) = true) →
        CallV Try.prog (.func (.func 30) ⟨[]⟩ ⟨[(.pointer (some ⟨r18, 0, none⟩)), (.pointer (some ⟨r20, 0, none⟩)), (.pointer (some ⟨r27, 0, none⟩)), (.pointer (some ⟨r7, 0, none⟩))]⟩) [iV i.dst, .bool to, .bool su] hh (.tup []) fun (_ : Unit) h' => Wk h' fun h'' => K_9 (IntKind.wrap .i64 (s_11.1 + ((1 : Int))), ()) h'' := fun to su ht hsu => by
      have m1 : mayD (writesD p) i ≤ 1 := mayD_one
      have x2 : 2 ≤ imax (imax (markM (secB stay D2 B) B (.arr i.arr.toNat)) (valsOf k i.args (markM (secB stay D2 B) B))) (mayD (writesD p) i) ↔ su = true := by
        rw [imax_ge, imax_ge, markM_two, hv2, hsu]
        constructor
        · rintro ((h | h) | h)
          · exact .inr h
          · exact .inl h
          · omega
        · rintro (h | h)
          · exact .inl (.inr h)
          · exact .inl (.inl h)
      refine goSet (raw := fun L => imax (imax (L (.arr i.arr.toNat)) (valsOf k i.args L)) (mayD (writesD p) i)) w (fun e => ?_) (fun e => ⟨x2.symm, ?_⟩) ?_
      · show _ ↔ 2 ≤ imax (imax (markM (secB stay D2 B) B (.arr i.arr.toNat)) (valsOf k i.args (markM (secB stay D2 B) B))) (mayD (writesD p) i)
        rw [x2, Bool.or_eq_true, ht, hsu, hm, hsa e, secB_imp e]
        constructor
        · rintro ((h | h | h) | h)
          · exact .inl h
          · rw [e] at h; cases h.1
          · exact .inr h
          · exact h
        · exact .inr
      · show _ ↔ 1 ≤ imax (imax (markM (secB stay D2 B) B (.arr i.arr.toNat)) (valsOf k i.args (markM (secB stay D2 B) B))) (mayD (writesD p) i)
        rw [imax_ge, imax_ge, markM_one, hv1, Bool.or_eq_true, ht, hsu, hm]
        constructor
        · rintro ((h | h | h) | (h | h))
          · exact .inl (.inr (.inl h))
          · exact .inr (by omega)
          · exact .inl (.inl (.inr h))
          · exact .inl (.inr (.inr h))
          · exact .inl (.inl (.inl h))
        · rintro (((h | h) | (h | h)) | h)
          · exact .inr (.inr h)
          · exact .inl (.inr (.inr h))
          · exact .inl (.inl h)
          · exact .inr (.inl h)
          · exact .inl (.inr (.inl ⟨e, by omega⟩))
      · unfold insCons
        rw [if_neg (by omega), if_neg n2, if_pos e35]
        rfl
    refine ⟨_, b34h.cell rfl, ?_⟩
    have zz : ∀ {KK : Bool → Prop}, KK (secB stay D2 B (.arr i.arr.toNat)) → Ld hh (Addr.add (⟨r19, 0, none⟩) 1) .sl fun x => Ld hh (Addr.add (⟨r34, 0, none⟩) 5) (.int .i64) fun y => Ix x y 1 fun a => Ld hh a .bool KK := fun {KK} h => ⟨za, b19h.cell rfl, _, b34h.cell rfl, (c.zread w).arr hra.1 hra.2 h⟩
    refine cond_b (fun (ha : any = true) => cond_b (fun (hu : sure = true) => ?_) (fun (hu : sure = false) => zz ?_)) (fun (ha : any = false) => cond_b (fun (hm1 : may = true) => cond_b (fun (hu : sure = true) => ?_) (fun (hu : sure = false) => zz ?_)) (fun (hm0 : may = false) => ⟨xa, b7h.cell rfl, _, b34h.cell rfl, w.read.arr hra.1 hra.2 (cond_b (fun (hu : sure = true) => ?_) (fun (hu : sure = false) => zz ?_))⟩))
    · exact key true true (by simp [ha]) (by simp [hu])
    · exact key true _ (by simp [ha]) (by simp [hu])
    · exact key true true (by simp [hm1]) (by simp [hu])
    · exact key true _ (by simp [hm1]) (by simp [hu])
    · exact key _ true (by simp [ha, hm0]) (by simp [hu])
    · exact key _ _ (by simp [ha, hm0]) (by simp [hu])
  -- arrays
  have arrSet : ∀ {src : LabF → Int} {x : Bool}, 0 ≤ i.arr ∧ i.arr.toNat < p.arrays.length → insCons p (cutOf cutIn) (writesD p) k i = [⟨.arr i.arr.toNat, fun L => staysD (src L)⟩] → (x = true ↔ B (.arr i.arr.toNat) = true ∨ 2 ≤ src (markM (secB stay D2 B) B)) →
      Ix xa i.arr 1 fun a => StL hh a 0 [.bool x] fun h90 => Wk h90 fun h91 => K_9 (IntKind.wrap .i64 (s_11.1 + ((1 : Int))), ()) h91 := fun {src x} hra he hx =>
    w.puta hra.1 hra.2 fun h' w' => Wk_self (hK h' (by
      rw [he]
      have : x = (B (.arr i.arr.toNat) || decide (lvB stay ≤ staysD (src (markM (secB stay D2 B) B)))) := by
        apply Bool.eq_iff_iff.2
        rw [hx, Bool.or_eq_true, decide_eq_true_iff, lv_stays]
      rw [this] at w'
      exact w'))
  refine cond_eqi (fun (e4 : i.op = 4) => ?_) (fun (n4 : ¬ i.op = 4) => cond_eqi (fun (e6 : i.op = 6) => ?_) (fun (n6 : ¬ i.op = 6) => cond_eqi (fun (e7 : i.op = 7) => ?_) (fun (n7 : ¬ i.op = 7) => ?_)))
  · have hra := right_arr hr (by omega)
    have hl1 : i.args.length = 1 := by
      have := right_lenF hr (by rw [e4]; decide)
      rw [e4] at this
      have h2 : (shapeD 4).1 = 1 := by decide
      omega
    obtain ⟨v, hv⟩ : ∃ v, i.args = [v] := by
      match hm : i.args, hl1 with
      | [v], _ => exact ⟨v, rfl⟩
    have he : insCons p (cutOf cutIn) (writesD p) k i = [⟨.arr i.arr.toNat, fun L => staysD (valsOf k i.args L)⟩] := by
      unfold insCons
      rw [if_neg (by omega), if_neg n2, if_neg n35, if_pos e4]
    refine ⟨xa, b7h.cell rfl, _, b34h.cell rfl, xa, b7h.cell rfl, _, b34h.cell rfl, w.read.arr hra.1 hra.2 (cond_b (fun hb => ?_) (fun hb => ?_))⟩
    · exact arrSet hra he (by simp [hb])
    · refine ⟨zv, b19h.cell0, _, b27h.cell0, c.zval w hk fun z hz => ⟨q, b34h.cell rfl, ?_⟩⟩
      rw [hv] at hq
      refine (hq.le mono_int w.le).ix (i := 0) (by omega) (by simp) fun a ha => ⟨v, ha, hz v _ fun _ => arrSet hra he ?_⟩
      rw [hv2, hsure, hv]
      simp [hb]
  · have hra := right_arr hr (by omega)
    have hl2 := right_two hr e6
    have he : insCons p (cutOf cutIn) (writesD p) k i = [⟨.arr i.arr.toNat, fun L => staysD (L (.val k (i.args.getD 1 0)))⟩] := by
      unfold insCons
      rw [if_neg (by omega), if_neg n2, if_neg n35, if_neg n4, if_pos e6]
    refine ⟨xa, b7h.cell rfl, _, b34h.cell rfl, xa, b7h.cell rfl, _, b34h.cell rfl, w.read.arr hra.1 hra.2 (cond_b (fun hb => ?_) (fun hb => ?_))⟩
    · exact arrSet (src := fun L => L (.val k (i.args.getD 1 0))) hra he (by simp [hb])
    · refine ⟨zv, b19h.cell0, _, b27h.cell0, c.zval w hk fun z hz => ⟨q, b34h.cell rfl, ?_⟩⟩
      refine (hq.le mono_int w.le).ix (i := 1) (by omega) (by omega) fun a ha => ⟨_, ha, hz _ _ fun _ => arrSet (src := fun L => L (.val k (i.args.getD 1 0))) hra he ?_⟩
      show _ ↔ _ ∨ 2 ≤ markM (secB stay D2 B) B (.val k (i.args.getD 1 0))
      rw [markM_two, getD_lt (by omega)]
      simp [hb]
  · obtain ⟨h0, hi, hargs⟩ := right_call hr e7
    have heq : insCons p (cutOf cutIn) (writesD p) k i = parCons (cutOf cutIn) i.fn.toNat (FuncD.at p i.fn.toNat).params (fun j L => staysD (L (.val k (i.args.getD j 0)))) (FuncD.at p i.fn.toNat).params.length ++ [⟨.val k i.dst, fun L => cutS (cutOf cutIn) k i.dst (L (.ret i.fn.toNat))⟩] := by
      unfold insCons; rw [if_neg (by omega), if_neg n2, if_neg n35, if_neg n4, if_neg n6, if_pos e7]
    have hfo := ok.funcs _ (List.getElem_mem hi)
    have hbl : 0 < (p.funcs[i.fn.toNat]).blocks.length := List.length_pos_iff.2 hfo.1
    have hfn := FuncD.at_eq hi
    refine ⟨sf, (c.b3.le w.le).cell rfl, i.fn, b34h.cell rfl, c.funcs.ix h0 hi fun a ⟨sb, hsb, hcc⟩ => ⟨sb, (cellsAt_le w.le hcc).2.1, ?_⟩⟩
    refine hsb.ix (i := 0) (by omega) hbl fun a2 ⟨pp, _, _, hpp, _, _, hc2⟩ => ⟨pp, (cellsAt_le w.le hc2).1, ?_⟩
    have hpp : isInts hB pp (FuncD.at p i.fn.toNat).params := by
      rw [hfn]
      have hpp : isInts hB pp ((p.funcs[i.fn.toNat]).blocks[0]'hbl).params := hpp
      rw [params0 (p.funcs[i.fn.toNat]).name _ hbl] at hpp
      exact hpp
    rw [heq, List.map_append] at hK
    have hqh : ∀ {hh' : V}, Le hB hh' → isInts hh' q i.args := fun l => hq.le mono_int l
    generalize hps : (FuncD.at p i.fn.toNat).params = ps at *
    refine Lp_count ps.length (fun j st hh => st = ((j : Int), ()) ∧ FcW hB hh p xv xa xr ids (runB ((parCons (cutOf cutIn) i.fn.toNat ps (fun j L => staysD (L (.val k (i.args.getD j 0)))) j).map (cB stay D2)) B)) ⟨rfl, w⟩ ?_
    rintro j _ h98 K11 hj ⟨rfl, w98⟩ hK11
    have b34k := b34.le w98.le
    have b27k := b27.le w98.le
    have b7k := c.b7.le w98.le
    have b19k := c.b19.le w98.le
    have hfi : ((i.fn.toNat : Nat) : Int) = i.fn := by omega
    refine cond_dec (fun hlt => ?_) (fun hge => ?_)
    · have hj' : j < ps.length := by have := hpp.len; simp only at hlt; omega
      have hja : j < i.args.length := by omega
      rw [parCons_succ, List.map_append, runB_append] at hK11
      generalize runB ((parCons (cutOf cutIn) i.fn.toNat ps (fun j L => staysD (L (.val k (i.args.getD j 0)))) j).map (cB stay D2)) B = B' at *
      have hlti : i.fn.toNat < ids.length := by rw [w98.len]; exact hi
      have hid : ids[i.fn.toNat]? = some ids[i.fn.toNat] := List.getElem?_eq_getElem hlti
      have vat : ∀ {K : Option Nat → Prop}, K (some ids[i.fn.toNat]) → Ix xv i.fn 1 fun a => Ld h98 a .mp K := fun {K} h => (w98.vals.le mono_map w98.le).ix h0 hlti fun a ha => ⟨_, ha, h⟩
      obtain ⟨_, om, mm, m1, m2, m3⟩ := w98.maps _ _ hid
      have put : ∀ {x : Bool}, x = (B' (.val i.fn.toNat ps[j]) || secB stay D2 B' (.val k i.args[j])) → MUpd h98 (some ids[i.fn.toNat]) (.int .i64) (.int .i64 ps[j]) (.bool x) fun h99 => Wk h99 fun h100 => K11 (IntKind.wrap .i64 ((j : Int) + 1), ()) h100 := fun {x} hx =>
        w98.putv hid fun h' w' => Wk_self (hK11 _ _ hj' ⟨by rw [wnat hj' hpp.bd], by
          have e : runB ([(⟨.val i.fn.toNat (ps.getD j 0), fun L => cutS (cutOf cutIn) i.fn.toNat (ps.getD j 0) (staysD (L (.val k (i.args.getD j 0))))⟩ : Con)].map (cB stay D2)) B' = putB B' (.val i.fn.toNat ps[j]) x := by
            show putB B' (.val i.fn.toNat (ps.getD j 0)) (B' (.val i.fn.toNat (ps.getD j 0)) || decide (lvB stay ≤ cutS (cutOf cutIn) i.fn.toNat (ps.getD j 0) (staysD (markM (secB stay D2 B') B' (.val k (i.args.getD j 0)))))) = _
            rw [getD_lt hj', getD_lt hja, hx]
            congr 2
            apply Bool.eq_iff_iff.2
            rw [decide_eq_true_iff, lv_cut, markM_two]
          rw [e]; exact w'⟩)
      refine (hpp.le mono_int w98.le).ixn hj' fun a ha => ⟨_, ha, xv, b7k.cell0, i.fn, b34k.cell rfl, vat ⟨xv, b7k.cell0, i.fn, b34k.cell rfl, vat (Look_map m1 m2 ?_)⟩⟩
      rw [m3]
      refine cond_b (fun hb => put (by rw [show B' (.val i.fn.toNat ps[j]) = true from hb]; rfl)) (fun hb => ⟨zv, b19k.cell0, _, b27k.cell0, c.zval w98 hk fun z hz => ⟨q, b34k.cell rfl, (hqh w98.le).ixn hja fun a3 ha3 => ⟨_, ha3, hz _ _ fun _ => put (by rw [show B' (.val i.fn.toNat ps[j]) = false from hb]; rfl)⟩⟩⟩)
    · have : j = ps.length := by have := hpp.len; simp only at hge; omega
      subst this
      refine ⟨_, b34k.cell rfl, xr, b7k.cell rfl, i.fn, b34k.cell rfl, w98.read.ret h0 hi ⟨zr, b19k.cell rfl, i.fn, b34k.cell rfl, (c.zread w98).ret h0 hi ?_⟩⟩
      refine goSet (raw := fun L => L (.ret i.fn.toNat)) w98 (fun e => ?_) (fun _ => ⟨markM_two.symm, ?_⟩) ?_
      · show _ ↔ 2 ≤ markM _ _ _
        rw [markM_two, secB_imp e, Bool.or_self]
      · show _ ↔ 1 ≤ markM _ _ _
        rw [markM_one, Bool.or_eq_true, or_comm]
      · rw [heq, List.map_append, runB_append]
        rfl
  · refine Wk_self (hK hh ?_)
    unfold insCons
    by_cases e1 : i.op = 1
    · rw [if_pos e1]
      show FcW hB hh p xv xa xr ids (stepB B (cB stay D2 ⟨.val k i.dst, fun _ => cutS (cutOf cutIn) k i.dst 0⟩))
      have : stepB B (cB stay D2 ⟨.val k i.dst, fun _ => cutS (cutOf cutIn) k i.dst 0⟩) = B := putB_same (by
        show B (.val k i.dst) = (B (.val k i.dst) || decide (lvB stay ≤ cutS (cutOf cutIn) k i.dst 0))
        have : cutS (cutOf cutIn) k i.dst 0 = 0 := by unfold cutS; split <;> rfl
        rw [this, decide_eq_false (by unfold lvB; split <;> omega), Bool.or_false])
      rw [this]; exact w
    · rw [if_neg e1, if_neg n2, if_neg n35, if_neg n4, if_neg n6, if_neg n7]
      exact w
end
end Go.Proofs.Ytaefmhephoilmaa

/- The law's own facts: a block. -/
namespace Go.Proofs.Ytaefmhephoilmaa
open Go Go.VL

section
variable {hB hh : V} {p : ProgD} {sa sf pc s58 : Sl} {cutIn : List (Int → Bool)} {r3 r4 r7 r18 r19 r20 r27 r28 r32 : Nat} {xv xa xr zv za zr : Sl} {stay : Bool} {D2 B : BF} {ids : List Nat}
theorem FcW.box1 (k : FcW hB hh p xv xa xr ids B) {h' : V} {q : Nat} {o : Obj} (hq : hh q = none) (l : Le hh h') (hq' : h' q = some o) : ∃ hC, Le hB hC ∧ FcW hC h' p xv xa xr ids B ∧ hC q = some o :=
  let ⟨a, b⟩ := k.grow hq l hq'; ⟨_, b, a, upd_self _ _ _⟩
theorem FcW.back {hC h' : V} {B' : BF} (k : FcW hB hh p xv xa xr ids B) (w : FcW hC h' p xv xa xr ids B') (l : Le hB hC) : FcW hB h' p xv xa xr ids B' := w.shrink l k.vals
set_option maxRecDepth 100000 in
theorem from_blk {k : Nat} {b : BlockD} {q i w0 sb : Sl} {s : Bool × Int × Unit} {s_10 : Int × Unit} {K_8 : Int × Unit → V → Prop} (c : FcC hB p sa sf pc s58 cutIn r3 r4 r7 r18 r19 r20 xv xa xr zv za zr stay D2) (w : FcW hB hh p xv xa xr ids B) (b27 : Box hB r27 [iV (k : Int)] 3)
    (hk : k < p.funcs.length) (b28 : Box hB r28 (funcV p.funcs[k] sb) 46) (hsb : isBlocks hB sb p.funcs[k].blocks) (b32 : Box hB r32 (blockV b q i w0) 55) (hi : isInss hB i b.ins) (hw : isEdges hB w0 b.e.ways)
    (ok : CheckOk p) (hbo : blockOk p p.funcs[k] b) (hs : s.1 = anyS (insOfP p))
    (hK : ∀ h', FcW hB h' p xv xa xr ids (runB ((blockCons p (cutOf cutIn) (writesD p) k b).map (cB stay D2)) B) → K_8 (IntKind.wrap .i64 (s_10.1 + ((1 : Int))), ()) h') :
    FromBlk r3 r7 r18 r19 r20 r27 r28 r32 s58 s s_10 K_8 hh := by
  refine ⟨i, (b32.le w.le).cell rfl, ?_⟩
  refine Lp_count b.ins.length (fun j st hh => st = ((j : Int), ()) ∧ FcW hB hh p xv xa xr ids (runB (((b.ins.take j).flatMap (insCons p (cutOf cutIn) (writesD p) k)).map (cB stay D2)) B)) ⟨rfl, w⟩ ?_
  rintro j _ h61 K9 hj ⟨rfl, w61⟩ hK9
  refine cond_dec (fun hl => ?_) (fun hge => ?_)
  · have hj' : j < b.ins.length := by have := hi.len; simp only at hl; omega
    rw [flatMap_take_succ hj', List.map_append, runB_append] at hK9
    generalize runB (((b.ins.take j).flatMap (insCons p (cutOf cutIn) (writesD p) k)).map (cB stay D2)) B = B1 at *
    have hri := hbo.2 _ (List.getElem_mem hj')
    refine elem_ins hi w61.le hj' rfl rfl fun z hz r34 h63 _ l63 hr34 b34 => ⟨z, b34.cell rfl, ?_⟩
    generalize hii : b.ins[j] = ii at *
    obtain ⟨hC, lC, w63, e34⟩ := w61.box1 hr34 l63 b34
    have b34C : Box hC r34 (insV ii z) 60 := e34
    have cC := c.le lC
    have zC := hz.le mono_int lC
    have b27C := b27.le lC
    have b27h := b27C.le w63.le
    refine Lp_count ii.args.length (fun m st h1 => h63 = h1 ∧ st.2.2 = ((m : Int), ()) ∧ (st.1 = true ↔ ∃ v ∈ ii.args.take m, B1 (.val k v) = true) ∧ (st.2.1 = true ↔ ∃ v ∈ ii.args.take m, secB stay D2 B1 (.val k v) = true)) ⟨rfl, rfl, by simp, by simp⟩ ?_
    rintro m ⟨any, sure, mm, u⟩ _ K10 hm ⟨rfl, hmm, hany, hsure⟩ hK10
    obtain ⟨rfl, -⟩ : mm = (m : Int) ∧ u = () := by cases hmm; exact ⟨rfl, rfl⟩
    have hany : any = true ↔ ∃ v ∈ ii.args.take m, B1 (.val k v) = true := hany
    have hsure : sure = true ↔ ∃ v ∈ ii.args.take m, secB stay D2 B1 (.val k v) = true := hsure
    refine cond_dec (fun hl => ?_) (fun hge => ?_)
    · have hm' : m < ii.args.length := by have := zC.len; simp only at hl; omega
      have ex : ∀ (g : Int → Bool), (∃ v ∈ ii.args.take (m + 1), g v = true) ↔ (∃ v ∈ ii.args.take m, g v = true) ∨ g ii.args[m] = true := fun g => by
        rw [List.take_succ_eq_append_getElem hm']
        simp only [List.mem_append, List.mem_singleton]
        constructor
        · rintro ⟨v, h | rfl, hg⟩
          · exact .inl ⟨v, h, hg⟩
          · exact .inr hg
        · rintro (⟨v, h, hg⟩ | hg)
          · exact ⟨v, .inl h, hg⟩
          · exact ⟨_, .inr rfl, hg⟩
      refine (zC.le mono_int w63.le).ixn hm' fun a ha => ⟨_, ha, ?_⟩
      refine Cut_i (fun st h1 => h63 = h1 ∧ (st.1 = true ↔ ∃ v ∈ ii.args.take (m + 1), B1 (.val k v) = true)) (fun J hJ => ?_) ?_
      · refine cond_b (fun (h : any = true) => Wk_self (hJ _ _ ⟨rfl, ?_⟩)) (fun (h : any = false) => ⟨xv, (cC.b7.le w63.le).cell0, _, b27h.cell0, w63.read.val hk fun z2 hz2 => hz2 _ _ fun _ => Wk_self (hJ _ _ ⟨rfl, ?_⟩)⟩)
        · rw [ex fun v => B1 (.val k v), ← hany, h]; simp
        · rw [ex fun v => B1 (.val k v), ← hany, h]; simp
      · rintro ⟨any2, u2⟩ _ ⟨rfl, hany2⟩
        refine cond_b (fun (h : sure = true) => Wk_self (hK10 _ _ hm' ⟨rfl, by rw [wnat hm' zC.bd], hany2, ?_⟩)) (fun (h : sure = false) => ⟨zv, (cC.b19.le w63.le).cell0, _, b27h.cell0, cC.zval w63 hk fun z2 hz2 => hz2 _ _ fun _ => Wk_self (hK10 _ _ hm' ⟨rfl, by rw [wnat hm' zC.bd], hany2, ?_⟩)⟩)
        · rw [ex fun v => secB stay D2 B1 (.val k v), ← hsure, h]; simp
        · rw [ex fun v => secB stay D2 B1 (.val k v), ← hsure, h]; simp
    · have : m = ii.args.length := by have := zC.len; simp only at hge; omega
      subst this
      rw [List.take_of_length_le (Nat.le_refl _)] at hany hsure
      exact from_ins (s_11 := ((j : Int), ())) cC w63 b27C b34C zC ok hk hri hs hany hsure fun h' w' => hK9 _ _ hj' ⟨by rw [wnat hj' hi.bd], w61.back w' lC⟩
  have : j = b.ins.length := by have := hi.len; simp only at hge; omega
  subst this
  rw [List.take_of_length_le (Nat.le_refl _)] at w61
  generalize hcs : b.ins.flatMap (insCons p (cutOf cutIn) (writesD p) k) = cs0 at *
  refine ⟨w0, by rw [Addr.add_add]; exact (b32.le w61.le).cell rfl, ?_⟩
  have hways := endsD_ways hbo.1
  refine Lp_count b.e.ways.length (fun j st hh => st = ((j : Int), ()) ∧ FcW hB hh p xv xa xr ids (runB ((cs0 ++ (b.e.ways.take j).flatMap (wayCons p (cutOf cutIn) k)).map (cB stay D2)) B)) ⟨rfl, by simpa using w61⟩ ?_
  rintro j _ h108 K12 hj ⟨rfl, w108⟩ hK12
  refine cond_dec (fun hl => ?_) (fun hge => ?_)
  · have hj' : j < b.e.ways.length := by have := hw.len; simp only at hl; omega
    have hwo := hways _ (List.getElem_mem hj')
    obtain ⟨t1, t2⟩ := wayOk_to hwo
    have hargs : b.e.ways[j].args.length = (p.funcs[k].blocks[b.e.ways[j].to.toNat]'t2).params.length := by
      unfold wayOk at hwo
      rw [Bool.and_eq_true_iff, List.getElem?_eq_getElem t2] at hwo
      simpa using hwo.2
    have hway : wayCons p (cutOf cutIn) k b.e.ways[j] = parCons (cutOf cutIn) k (p.funcs[k].blocks[b.e.ways[j].to.toNat]'t2).params (fun m L => L (.val k (b.e.ways[j].args.getD m 0))) (p.funcs[k].blocks[b.e.ways[j].to.toNat]'t2).params.length := by
      unfold wayCons
      rw [FuncD.at_eq hk, List.getElem?_eq_getElem t2]
    rw [flatMap_take_succ hj', hway, ← List.append_assoc, List.map_append, runB_append] at hK12
    generalize runB ((cs0 ++ (b.e.ways.take j).flatMap (wayCons p (cutOf cutIn) k)).map (cB stay D2)) B = B1 at *
    refine elem_edge hw w108.le hj' rfl rfl fun z hz r43 h110 _ l110 hr43 b43 => ?_
    obtain ⟨hC, lC, w110, e43⟩ := w108.box1 hr43 l110 b43
    have b43C : Box hC r43 (edgeV b.e.ways[j] z) 74 := e43
    have cC := c.le lC
    have zC := hz.le mono_int lC
    have b27C := b27.le lC
    refine ⟨sb, ((b28.le lC).le w110.le).cell rfl, _, (b43C.le w110.le).cell0, ?_⟩
    refine (hsb.le mono_block lC).ix (by omega) t2 fun a2 ⟨pp, _, _, hp, _, _, hc2⟩ => ⟨pp, cellq_le w110.le hc2.1, ?_⟩
    generalize (p.funcs[k].blocks[b.e.ways[j].to.toNat]'t2).params = ps at *
    generalize b.e.ways[j] = ww at *
    refine Lp_count ps.length (fun m st hh => st = ((m : Int), ()) ∧ FcW hC hh p xv xa xr ids (runB ((parCons (cutOf cutIn) k ps (fun m L => L (.val k (ww.args.getD m 0))) m).map (cB stay D2)) B1)) ⟨rfl, w110⟩ ?_
    rintro m _ h111 K13 hm ⟨rfl, w111⟩ hK13
    refine cond_dec (fun hl => ?_) (fun hge => ?_)
    · have hm' : m < ps.length := by have := hp.len; simp only at hl; omega
      have hma : m < ww.args.length := by omega
      rw [parCons_succ, List.map_append, runB_append] at hK13
      generalize runB ((parCons (cutOf cutIn) k ps (fun m L => L (.val k (ww.args.getD m 0))) m).map (cB stay D2)) B1 = B' at *
      have b27h := b27C.le w111.le
      have b43h := b43C.le w111.le
      have zh := zC.le mono_int w111.le
      refine (hp.le mono_int w111.le).ixn hm' fun a ha => ⟨_, ha, xv, (cC.b7.le w111.le).cell0, _, b27h.cell0, w111.read.val hk fun z2 hz2 => ⟨z, b43h.cell rfl, zh.ixn hma fun a3 ha3 => ⟨_, ha3, hz2 _ _ fun _ => ⟨zv, (cC.b19.le w111.le).cell0, _, b27h.cell0, cC.zval w111 hk fun z4 hz4 => ⟨z, b43h.cell rfl, zh.ixn hma fun a5 ha5 => ⟨_, ha5, hz4 _ _ fun _ => ?_⟩⟩⟩⟩⟩⟩
      refine c_set cC w111 b27C hk fun h' w' => ⟨(), rfl, Wk_self (hK13 _ _ hm' ⟨by rw [wnat hm' hp.bd], ?_⟩)⟩
      have hsrc := set_src (stay := stay) (cut := cutOf cutIn k ps[m]) (to := B' (.val k ww.args[m])) (sure := secB stay D2 B' (.val k ww.args[m])) (x := markM (secB stay D2 B') B' (.val k ww.args[m])) (fun e => by rw [markM_two, secB_imp e, Bool.or_self]) (fun _ => ⟨markM_two.symm, by rw [markM_one, Bool.or_eq_true, or_comm]⟩)
      rw [hsrc] at w'
      show FcW hC h' p xv xa xr ids (putB B' (.val k (ps.getD m 0)) (B' (.val k (ps.getD m 0)) || decide (lvB stay ≤ cutS (cutOf cutIn) k (ps.getD m 0) (markM (secB stay D2 B') B' (.val k (ww.args.getD m 0))))))
      rw [getD_lt hm', getD_lt hma]
      exact w'
    · have : m = ps.length := by have := hp.len; simp only at hge; omega
      subst this
      exact Wk_self (hK12 _ _ hj' ⟨by rw [wnat hj' hw.bd], w108.back w111 lC⟩)
  have : j = b.e.ways.length := by have := hw.len; simp only at hge; omega
  subst this
  rw [List.take_of_length_le (Nat.le_refl _)] at w108
  have hB0 : blockCons p (cutOf cutIn) (writesD p) k b = (cs0 ++ b.e.ways.flatMap (wayCons p (cutOf cutIn) k)) ++ endCons k b.e := by unfold blockCons; rw [hcs]
  rw [hB0, List.map_append, runB_append] at hK
  generalize runB ((cs0 ++ b.e.ways.flatMap (wayCons p (cutOf cutIn) k)).map (cB stay D2)) B = B1 at *
  have b27h := b27.le w108.le
  refine ⟨_, by rw [Addr.add_add]; exact (b32.le w108.le).cell rfl, cond_eqi (fun (e3 : b.e.kind = 3) => ?_) (fun (n3 : ¬ b.e.kind = 3) => Wk_self (hK h108 ?_))⟩
  · have he : endCons k b.e = [⟨.ret k, fun L => staysD (L (.val k b.e.val))⟩] := by unfold endCons; rw [if_pos e3]
    rw [he] at hK
    have b7h := c.b7.le w108.le
    have put : ∀ {x : Bool}, x = (B1 (.ret k) || secB stay D2 B1 (.val k b.e.val)) → Ix xr (k : Int) 1 fun a => StL h108 a 0 [.bool x] fun h115 => Wk h115 fun h116 => K_8 (IntKind.wrap .i64 (s_10.1 + ((1 : Int))), ()) h116 := fun {x} hx =>
      w108.putr (i := (k : Int)) (by omega) (by simpa using hk) fun h' w' => Wk_self (hK h' (by
        show FcW hB h' p xv xa xr ids (putB B1 (.ret k) (B1 (.ret k) || decide (lvB stay ≤ staysD (markM (secB stay D2 B1) B1 (.val k b.e.val)))))
        have : (B1 (.ret k) || decide (lvB stay ≤ staysD (markM (secB stay D2 B1) B1 (.val k b.e.val)))) = x := by
          rw [hx]
          congr 1
          apply Bool.eq_iff_iff.2
          rw [decide_eq_true_iff, lv_stays, markM_two]
        rw [this]
        exact w'))
    refine ⟨xr, b7h.cell rfl, _, b27h.cell0, xr, b7h.cell rfl, _, b27h.cell0, w108.read.ret (i := (k : Int)) (by omega) (by simpa using hk) (cond_b (fun hb => put (by rw [show B1 (.ret k) = true from hb]; rfl)) (fun hb => ⟨zv, (c.b19.le w108.le).cell0, _, b27h.cell0, c.zval w108 hk fun z2 hz2 => ⟨_, by rw [Addr.add_add]; exact (b32.le w108.le).cell rfl, hz2 _ _ fun _ => put (by rw [show B1 (.ret k) = false from hb]; rfl)⟩⟩))⟩
  · have he : endCons k b.e = [] := by unfold endCons; rw [if_neg n3]
    rw [he]; exact w108
end
end Go.Proofs.Ytaefmhephoilmaa

/- The law's own facts: round after round. -/
namespace Go.Proofs.Ytaefmhephoilmaa
open Go Go.VL

theorem sum_bd {α : Type} {g : α → Nat} {c : Nat} : ∀ l : List α, (∀ x ∈ l, g x ≤ c) → (l.map g).sum ≤ l.length * c
  | [], _ => by simp
  | x :: l, h => by
    rw [List.map_cons, List.sum_cons, List.length_cons, Nat.add_mul]
    have := h x List.mem_cons_self
    have := sum_bd l fun y hy => h y (List.mem_cons_of_mem _ hy)
    omega
def partB (b : BlockD) : Nat := b.params.length + b.ins.length
theorem partsF_eq (f : FuncD) : partsF f = 1 + (f.blocks.map partB).sum := rfl
theorem take_sum {α : Type} {g : α → Nat} {l : List α} {k : Nat} (hk : k < l.length) : ((l.take (k + 1)).map g).sum = ((l.take k).map g).sum + g l[k] := by
  rw [List.take_succ_eq_append_getElem hk, List.map_append, List.sum_append]
  simp
theorem take_bd {α : Type} {g : α → Nat} {c : Nat} {l : List α} (h : ∀ x ∈ l, g x ≤ c) (k : Nat) : ((l.take k).map g).sum ≤ l.length * c := by
  have h1 := sum_bd (g := g) (c := c) (l.take k) fun x hx => h x (List.mem_of_mem_take hx)
  have h2 : (l.take k).length ≤ l.length := by rw [List.length_take]; omega
  exact Nat.le_trans h1 (Nat.mul_le_mul_right c h2)
theorem partB_bd {b : BlockD} (h : FewBlock b) : partB b ≤ 60 := by have := h.params; have := h.ins; unfold partB; omega
theorem partsF_bd {f : FuncD} (h : FewFunc f) : partsF f ≤ 1801 := by
  have h1 := sum_bd (g := partB) (c := 60) f.blocks fun b hb => partB_bd (h.all b hb)
  have := h.blocks
  rw [partsF_eq]; omega
theorem partsP_bd {p : ProgD} (h : FewOk p) : partsP p ≤ 9005 := by
  have h1 := sum_bd (g := partsF) (c := 1801) p.funcs fun f hf => partsF_bd (h.all f hf)
  have := h.funcs
  unfold partsP; omega
theorem sub_out {h' h : V} {b : Nat} {o : Obj} (hb : V.sub h' h b = some o) : h b = none := by
  unfold V.sub at hb
  cases hx : h b with
  | none => rfl
  | some x => rw [hx] at hb; cases hb
section
variable {hB hh : V} {p : ProgD} {sa sf pc s58 : Sl} {cutIn : List (Int → Bool)} {r3 r4 r7 r18 r19 r20 r27 r28 r32 : Nat} {xv xa xr zv za zr : Sl} {stay : Bool} {D2 B : BF} {ids : List Nat}
theorem FcW.growS {h' : V} {x : Sl} {T : TypeId} {xs : List Value} (k : FcW hB hh p xv xa xr ids B) (l : Le hh h') (o : OwnS hh h' x T 1 xs) : ∃ hD, Le hB hD ∧ FcW hD h' p xv xa xr ids B ∧ OwnS hB hD x T 1 xs := by
  obtain ⟨h1, h2, h3, h4⟩ := o
  rcases h4 with h4 | ⟨b, off, arr, ha, hb, hr, hz, ht⟩
  · exact ⟨hB, Le.refl _, k.view l, h1, h2, h3, .inl h4⟩
  · obtain ⟨hD, g1, g2, g3⟩ := k.box1 hb l hr
    exact ⟨hD, g1, g2, h1, h2, h3, .inr ⟨b, off, arr, ha, k.le.nil hb, g3, hz, ht⟩⟩
/- without a variable of one's own -/
theorem FcW.drop {r6 : Nat} {cs : List Value} (k : FcW hB hh p xv xa xr ids B) (b6 : Box hB r6 cs 40) (v : isSl repMap 1 (V.del hB r6) xv ids) : FcW (V.del hB r6) (V.del hh r6) p xv xa xr ids B := by
  have ne : ∀ {b : Nat}, hB b = none → b ≠ r6 := fun {b} hb e => by unfold Box at b6; rw [← e, hb] at b6; cases b6
  have nn : ∀ {b : Nat}, hB b = none → V.del hB r6 b = none := fun {b} hb => by rw [del_ne (ne hb)]; exact hb
  refine ⟨fun b o hb => ?_, v, k.len, k.nd, fun f q hq => ⟨nn (k.maps f q hq).1, ?_⟩, OwnS.rebase (k.arrs.frame fun a ob ha hob => ?_) fun a ha => nn (k.arrs.blk ha).1, OwnS.rebase (k.rets.frame fun a ob ha hob => ?_) fun a ha => nn (k.rets.blk ha).1, k.dis⟩
  · have e : b ≠ r6 := fun e => by rw [e, del_self] at hb; cases hb
    rw [del_ne e] at hb ⊢
    exact k.le _ _ hb
  · obtain ⟨o, m, g1, g2⟩ := (k.maps f q hq).2
    exact ⟨o, m, by rw [del_ne (ne (k.maps f q hq).1)]; exact g1, g2⟩
  · rw [del_ne (ne (k.arrs.blk ha).1)]; exact hob
  · rw [del_ne (ne (k.rets.blk ha).1)]; exact hob
theorem FcW.sub {h0 : V} (k : FcW hB hh p xv xa xr ids B) (l0 : Le h0 hB) (v : isSl repMap 1 (V.sub hB h0) xv ids) : FcW (V.sub hB h0) (V.sub hh h0) p xv xa xr ids B := by
  have nn : ∀ {b : Nat}, hB b = none → V.sub hB h0 b = none := fun {b} hb => by
    cases hx : V.sub hB h0 b with
    | none => rfl
    | some o => rw [V.sub_le _ _ _ _ hx] at hb; cases hb
  have keep : ∀ {b : Nat} {o : Obj}, hB b = none → hh b = some o → V.sub hh h0 b = some o := fun {b o} hb ho => by rw [V.sub_in (l0.nil hb)]; exact ho
  refine ⟨fun b o hb => ?_, v, k.len, k.nd, fun f q hq => ⟨nn (k.maps f q hq).1, ?_⟩, OwnS.rebase (k.arrs.frame fun a ob ha hob => keep (k.arrs.blk ha).1 hob) fun a ha => nn (k.arrs.blk ha).1, OwnS.rebase (k.rets.frame fun a ob ha hob => keep (k.rets.blk ha).1 hob) fun a ha => nn (k.rets.blk ha).1, k.dis⟩
  · have h1 := V.sub_le _ _ _ _ hb
    have h2 : h0 b = none := sub_out hb
    rw [V.sub_in h2]
    exact k.le _ _ h1
  · obtain ⟨o, m, g1, g2⟩ := (k.maps f q hq).2
    exact ⟨o, m, keep (k.maps f q hq).1 g1, g2⟩
theorem blkB_none {f : Nat} {m : Nat} (hf : f < p.funcs.length) {wr : List Bool} {cut : CutF} (hr : ¬ Rch p.funcs[f].blocks m) : blkF p cut wr f m = [] := by
  unfold blkF
  rw [FuncD.at_eq hf, if_neg (fun e => hr (rchB_iff.1 e))]
set_option maxRecDepth 100000 in
theorem from_tail {h0 : V} {r6 : Nat} {cs6 : List Value} {s : Bool × Int × Unit} {R : Value → V → Prop}
    (c0 : ∀ {hC : V} {r20 : Nat}, Le hB hC → Box hC r20 [.func (.func 29) ⟨[]⟩ ⟨[.pointer (some ⟨r4, 0, none⟩)]⟩] 87 → FcC hC p sa sf pc s58 cutIn r3 r4 r7 r18 r19 r20 xv xa xr zv za zr stay D2)
    (w : FcW hB hh p xv xa xr ids (startB p)) (ok : CheckOk p) (few : FewOk p) (hs : s.1 = anyS (insOfP p)) (b6 : Box hB r6 cs6 40) (hl6 : cs6.length = 3) (vD : isSl repMap 1 (V.sub (V.del hB r6) h0) xv ids) (l0 : Le h0 hB) (n6 : h0 r6 = none)
    (hR : ∀ h', Le h0 h' → FactR (V.sub h' h0) p xv xa xr (roundB ((progCons p (cutOf cutIn) (writesD p)).map (cB stay D2)) (partsP p + p.arrays.length + 2) (startB p)) → R (.agg ⟨[sV xv, sV xa, sV xr]⟩) h') :
    FromTail r3 r4 r6 r7 r18 r19 s58 s R hh := by
  have hP := partsP_bd few
  have hA := few.arrays
  refine New_box fun r20 h40 hr20 l40 b20 => StL_box (h := hh) b20 rfl l40 hr20 fun h41 l41 b20' _ => ?_
  obtain ⟨hC, lC, w41, e20⟩ := w.box1 hr20 l41 b20'
  have c := c0 lC e20
  refine ⟨sf, (c.b3.le w41.le).cell rfl, ?_⟩
  refine Lp_count p.funcs.length (fun k st hh => st = (((((p.funcs.take k).map partsF).sum : Nat) : Int), (k : Int), ()) ∧ FcW hC hh p xv xa xr ids (startB p)) ⟨rfl, w41⟩ ?_
  rintro k _ h42 K4 hk ⟨rfl, w42⟩ hK4
  have hsumk := take_bd (g := partsF) (c := 1801) (l := p.funcs) (fun f hf => partsF_bd (few.all f hf)) k
  have hf5 := few.funcs
  refine cond_dec (fun hlt => ?_) (fun hge => ?_)
  · have hk' : k < p.funcs.length := by have := c.funcs.len; simp only at hlt; omega
    rw [take_sum hk', partsF_eq] at hK4
    have fewf := few.all _ (List.getElem_mem hk')
    generalize ((p.funcs.take k).map partsF).sum = S0 at *
    refine elem_func c.funcs w42.le hk' rfl rfl fun sb hsb r23 h44 l44 l44' hr23 b23 => ⟨sb, b23.cell rfl, ?_⟩
    have hw1 : IntKind.wrap .i64 ((S0 : Int) + 1) = ((S0 + 1 : Nat) : Int) := by rw [w64 (by omega) (by omega)]; omega
    rw [hw1]
    refine Lp_count p.funcs[k].blocks.length (fun j st hh => st = (((S0 + 1 + ((p.funcs[k].blocks.take j).map partB).sum : Nat) : Int), (j : Int), ()) ∧ FcW hC hh p xv xa xr ids (startB p)) ⟨rfl, w42.view l44'⟩ ?_
    rintro j _ h45 K5 hj ⟨rfl, w45⟩ hK5
    have hsumj := take_bd (g := partB) (c := 60) (l := p.funcs[k].blocks) (fun b hb => partB_bd (fewf.all b hb)) j
    have hb30 := fewf.blocks
    refine cond_dec (fun hlt => ?_) (fun hge => ?_)
    · have hj' : j < p.funcs[k].blocks.length := by have := hsb.len; simp only at hlt; omega
      have fb := partB_bd (fewf.all _ (List.getElem_mem hj'))
      rw [take_sum hj'] at hK5
      generalize ((p.funcs[k].blocks.take j).map partB).sum = S1 at *
      unfold partB at fb hK5
      refine elem_block hsb w45.le hj' rfl rfl fun q i w' hq hi hw' r25 h47 l47 l47' hr25 b25 => ⟨q, b25.cell0, i, b25.cell rfl, Wk_self (hK5 _ _ hj' ⟨?_, w45.view l47'⟩)⟩
      have hq := hq.len
      have hi := hi.len
      rw [wnat hj' hsb.bd]
      have hw2 : IntKind.wrap .i64 (((q.n : Nat) : Int) + ((i.n : Nat) : Int)) = ((q.n + i.n : Nat) : Int) := by rw [w64 (by omega) (by omega)]; omega
      rw [hw2]
      have hw3 : IntKind.wrap .i64 (((S0 + 1 + S1 : Nat) : Int) + ((q.n + i.n : Nat) : Int)) = ((S0 + 1 + (S1 + (q.n + i.n)) : Nat) : Int) := by rw [w64 (by omega) (by omega)]; omega
      show (IntKind.wrap .i64 (((S0 + 1 + S1 : Nat) : Int) + ((q.n + i.n : Nat) : Int)), _, ()) = _
      rw [hw3, hq, hi]
    · have : j = p.funcs[k].blocks.length := by have := hsb.len; simp only at hge; omega
      subst this
      rw [List.take_of_length_le (Nat.le_refl _)] at *
      refine Wk_self (hK4 _ _ hk' ⟨?_, w45⟩)
      rw [wnat hk' c.funcs.bd, Nat.add_assoc]
  have : k = p.funcs.length := by have := c.funcs.len; simp only at hge; omega
  subst this
  have hPe : ((p.funcs.take p.funcs.length).map partsF).sum = partsP p := by rw [List.take_of_length_le (Nat.le_refl _)]; rfl
  rw [hPe] at *
  clear hK4 hge hsumk
  have sal := c.arrays.len
  have hwN : IntKind.wrap .i64 (IntKind.wrap .i64 (((partsP p : Nat) : Int) + ((sa.n : Nat) : Int)) + 2) = ((partsP p + p.arrays.length + 2 : Nat) : Int) := by
    rw [w64 (x := ((partsP p : Nat) : Int) + ((sa.n : Nat) : Int)) (by omega) (by omega), w64 (by omega) (by omega)]; omega
  generalize hN : partsP p + p.arrays.length + 2 = N at *
  refine Lp_count N (fun n st hh => st = ((n : Int), ()) ∧ FcW hC hh p xv xa xr ids (roundB ((progCons p (cutOf cutIn) (writesD p)).map (cB stay D2)) n (startB p))) ⟨rfl, w42⟩ ?_
  rintro n _ h50 K6 hn ⟨rfl, w50⟩ hK6
  refine ⟨sa, (c.b3.le w50.le).cell0, ?_⟩
  show cond (decide ((n : Int) < IntKind.wrap .i64 (IntKind.wrap .i64 (((partsP p : Nat) : Int) + ((sa.n : Nat) : Int)) + 2))) _ _
  rw [hwN]
  refine cond_dec (fun hlt => ?_) (fun hge => ?_)
  · have hn' : n < N := by omega
    have hK6 := fun s' h' => hK6 s' h' hn'
    have hwn : IntKind.wrap .i64 ((n : Int) + 1) = ((n + 1 : Nat) : Int) := by rw [w64 (by omega) (by omega)]; omega
    have hro : roundB ((progCons p (cutOf cutIn) (writesD p)).map (cB stay D2)) (n + 1) (startB p) = runB ((progCons p (cutOf cutIn) (writesD p)).map (cB stay D2)) (roundB ((progCons p (cutOf cutIn) (writesD p)).map (cB stay D2)) n (startB p)) := rfl
    rw [hro] at hK6
    generalize roundB ((progCons p (cutOf cutIn) (writesD p)).map (cB stay D2)) n (startB p) = B0 at *
    refine ⟨sf, (c.b3.le w50.le).cell rfl, ?_⟩
    refine Lp_count p.funcs.length (fun f st hh => st = ((f : Int), ()) ∧ FcW hC hh p xv xa xr ids (runB (((List.range f).flatMap (funcCons p (cutOf cutIn) (writesD p))).map (cB stay D2)) B0)) ⟨rfl, w50⟩ ?_
    rintro f _ h51 K7 hf ⟨rfl, w51⟩ hK7
    refine cond_dec (fun hl => ?_) (fun hge => ?_)
    · have hf' : f < p.funcs.length := by have := c.funcs.len; simp only at hl; omega
      have hfm : p.funcs[f] ∈ p.funcs := List.getElem_mem hf'
      rw [List.range_succ, List.flatMap_append, show [f].flatMap (funcCons p (cutOf cutIn) (writesD p)) = funcCons p (cutOf cutIn) (writesD p) f by simp] at hK7
      generalize (List.range f).flatMap (funcCons p (cutOf cutIn) (writesD p)) = cs0 at *
      refine c.funcs.ixn hf' fun a ⟨sb, hsb, hcc⟩ => ⟨(p.funcs[f].name, sb, ()), cellsAt_le w51.le hcc, ?_⟩
      refine New_box fun r27 h52 hr27 l52 b27 => New_box fun r28 h53 hr28 l53 b28 => StL_box (h := h51) (b27.le l53) rfl (l52.trans l53) hr27 fun h54 l54 b27' f54 => ?_
      have hr28' : h51 r28 = none := l52.nil hr28
      have ne78 : r27 ≠ r28 := fun e => by unfold Box at b27; rw [e, hr28] at b27; cases b27
      have b28' : Box h54 r28 [.string ⟨#[]⟩, .slice none 0 0] 46 := by
        unfold Box
        rw [f54 r28 (fun e => ne78 e.symm)]
        exact b28
      refine StL_box (h := V.del h54 r28) b28' rfl (del_le _ _) (del_self _ _) fun h55 l55 b28'' f55 => ?_
      have lX : Le h51 (V.del h55 r28) := fun b o hb => by
        have e : b ≠ r28 := fun e => by rw [e, hr28'] at hb; cases hb
        rw [del_ne e]
        exact l55 _ _ (by rw [del_ne e]; exact l54 _ _ hb)
      have b27X : Box (V.del h55 r28) r27 [iV (f : Int)] 3 := by
        unfold Box
        rw [del_ne ne78]
        exact l55 _ _ (by rw [del_ne ne78]; exact b27')
      obtain ⟨hC1, lC1, w1, e27⟩ := w51.box1 hr27 lX b27X
      obtain ⟨hC2, lC2, w2, e28⟩ := w1.box1 (del_self _ _) (del_le _ _) b28''
      have lCC := lC1.trans lC2
      have b27C : Box hC2 r27 [iV (f : Int)] 3 := lC2 _ _ e27
      have b28C : Box hC2 r28 (funcV p.funcs[f] sb) 46 := e28
      refine ⟨(p.funcs[f].name, sb, ()), b28''.cells, ?_⟩
      refine c_Reach ((hsb.le mono_block lCC).le mono_block w2.le) (by have := (few.all _ hfm).blocks; omega) fun x126 h56 out l56 o56 outl hout => ⟨_, rfl, ?_⟩
      obtain ⟨hE, lE, w56, oE⟩ := w2.growS l56 o56
      have lCE := lCC.trans lE
      have cE := c.le lCE
      have b27E := b27C.le lE
      have b28E := b28C.le lE
      have hsE := hsb.le mono_block lCE
      have xE := oE.bools
      have fat := FuncD.at_eq hf'
      refine ⟨sb, (b28E.le w56.le).cell rfl, ?_⟩
      refine Lp_count p.funcs[f].blocks.length (fun n st hh => st = ((n : Int), ()) ∧ FcW hE hh p xv xa xr ids (runB ((cs0 ++ (List.range n).flatMap (blkF p (cutOf cutIn) (writesD p) f)).map (cB stay D2)) B0)) ⟨rfl, by simpa using w56⟩ ?_
      rintro m _ h57 K8 hm ⟨rfl, w57⟩ hK8
      refine cond_dec (fun hl => ?_) (fun hge => ?_)
      · have hm' : m < p.funcs[f].blocks.length := by have := hsE.len; simp only at hl; omega
        have hmo : m < out.length := by omega
        rw [List.range_succ, List.flatMap_append, show [m].flatMap (blkF p (cutOf cutIn) (writesD p) f) = blkF p (cutOf cutIn) (writesD p) f m by simp, ← List.append_assoc] at hK8
        generalize cs0 ++ (List.range m).flatMap (blkF p (cutOf cutIn) (writesD p) f) = cs1 at *
        refine elem_block hsE w57.le hm' rfl rfl fun q i ww hq hi hw r32 h59 _ l59 hr32 b32 => ?_
        obtain ⟨hF, lF, w59, e32⟩ := w57.box1 hr32 l59 b32
        refine ((xE.le mono_bool lF).le mono_bool w59.le).ixn hmo fun a ha => ⟨_, ha, cond_not (fun hn => ?_) (fun hy => ?_)⟩
        · have hr : ¬ Rch p.funcs[f].blocks m := fun h => by
            have := (hout m).2 h
            rw [List.getElem?_eq_getElem hmo] at this
            have hn : out[m] = false := hn
            rw [hn] at this; cases this
          rw [blkB_none hf' hr, List.append_nil] at hK8
          exact Wk_self (hK8 _ _ hm' ⟨by rw [wnat hm' hsE.bd], w57.back w59 lF⟩)
        · have hr : Rch p.funcs[f].blocks m := (hout m).1 (by rw [List.getElem?_eq_getElem hmo]; exact congrArg some hy)
          have heq : blkF p (cutOf cutIn) (writesD p) f m = blockCons p (cutOf cutIn) (writesD p) f p.funcs[f].blocks[m] := by
            unfold blkF
            rw [fat, if_pos (rchB_iff.2 hr), List.getElem?_eq_getElem hm']
          rw [heq, List.map_append, runB_append] at hK8
          generalize runB (cs1.map (cB stay D2)) B0 = B1 at *
          exact from_blk (s_10 := ((m : Int), ())) (cE.le lF) w59 (b27E.le lF) hf' (b28E.le lF) (hsE.le mono_block lF) e32 (hi.le mono_ins lF) (hw.le mono_edge lF) ok ((ok.funcs _ hfm).2.2.2.1 _ (List.getElem_mem hm')) hs fun h' w' => hK8 _ _ hm' ⟨by rw [wnat hm' hsE.bd], w57.back w' lF⟩
      · have : m = p.funcs[f].blocks.length := by have := hsE.len; simp only at hge; omega
        subst this
        refine Wk_self (hK7 _ _ hf' ⟨by rw [wnat hf' c.funcs.bd], ?_⟩)
        have heq : (List.range p.funcs[f].blocks.length).flatMap (blkF p (cutOf cutIn) (writesD p) f) = funcCons p (cutOf cutIn) (writesD p) f := by
          rw [← fat]
          rfl
        rw [heq] at w57
        exact w51.back w57 lCE
    · have : f = p.funcs.length := by have := c.funcs.len; simp only at hge; omega
      subst this
      exact Wk_self (hK6 _ _ ⟨by rw [hwn], w51⟩)
  · have : n = N := by omega
    subst this
    have wB := w.back w50 lC
    have b7h := c.b7.le w50.le
    refine ⟨(xv, xa, xr, ()), b7h.cells, ?_⟩
    have b6h : Box h50 r6 cs6 40 := wB.le _ _ b6
    have lD : Le h0 (V.del hB r6) := fun b o hb => by
      rw [del_ne (fun e => by rw [e, n6] at hb; cases hb)]
      exact l0 _ _ hb
    refine StL_box (h := V.del h50 r6) b6h (by rw [hl6]; rfl) (del_le _ _) (del_self _ _) fun h122 l122 b6' f122 => ⟨(xv, xa, xr, ()), b6'.cells, Wk_self (hR h122 (fun b o hb => ?_) ((((wB.drop b6 (vD.le mono_map (V.sub_le _ _))).sub lD vD).read).le fun b o hb => ?_))⟩
    · have e : b ≠ r6 := fun e => by rw [e, n6] at hb; cases hb
      exact l122 _ _ (by rw [del_ne e]; exact wB.le _ _ (l0 _ _ hb))
    · rw [V.sub_in (sub_out hb)]
      exact l122 _ _ (V.sub_le _ _ _ _ hb)
end
end Go.Proofs.Ytaefmhephoilmaa

/- The law's own facts: what they begin with. -/
namespace Go.Proofs.Ytaefmhephoilmaa
open Go Go.VL

def kindO : Obj → Nat
  | .cells _ T _ => T + 2
  | .map _ _ => 0
  | _ => 1
def KeepO (hh h' : V) (τ : Nat) : Prop := ∀ b o, hh b = some o → kindO o ≠ τ → h' b = some o
theorem own_keepO {hB hh h' : V} {s : Sl} {T : TypeId} {sz : Nat} {cs : List Value} {τ : Nat} (o : OwnS hB hh s T sz cs) (hK : KeepO hh h' τ) (hT : T + 2 ≠ τ) : OwnS hB h' s T sz cs :=
  o.frame fun a ob ha hob => hK _ _ hob (by
    obtain ⟨_, arr, h2⟩ := o.blk ha
    rw [h2] at hob; cases hob; exact hT)
theorem box_keepO {hh h' : V} {r : Nat} {cs : List Value} {T : TypeId} {τ : Nat} (b : Box hh r cs T) (hK : KeepO hh h' τ) (hT : T + 2 ≠ τ) : Box h' r cs T := hK _ _ b hT
structure PreF (hB hh : V) (r7 : Nat) (vs xa xr s58 : Sl) (ids : List Nat) (la lr st : List Bool) : Prop where
  le : Le hB hh
  n7 : hB r7 = none
  box : Box hh r7 [sV vs, sV xa, sV xr] 40
  ov : OwnS hB hh vs 29 1 (ids.map fun q => Value.map (some q))
  nd : ids.Nodup
  mi : ∀ q ∈ ids, hB q = none ∧ hh q = some (.map #[] 0)
  oa : OwnS hB hh xa 4 1 (la.map Value.bool)
  orr : OwnS hB hh xr 4 1 (lr.map Value.bool)
  os : OwnS hB hh s58 4 1 (st.map Value.bool)
  d1 : neB s58 xa
  d2 : neB s58 xr
  d3 : neB xa xr
section
variable {hB hh h' : V} {r7 : Nat} {vs xa xr s58 : Sl} {ids : List Nat} {la lr st : List Bool}
theorem PreF.up (k : PreF hB hh r7 vs xa xr s58 ids la lr st) (l : Le hh h') : PreF hB h' r7 vs xa xr s58 ids la lr st :=
  ⟨k.le.trans l, k.n7, k.box.le l, k.ov.le l, k.nd, fun q hq => ⟨(k.mi q hq).1, l _ _ (k.mi q hq).2⟩, k.oa.le l, k.orr.le l, k.os.le l, k.d1, k.d2, k.d3⟩
theorem PreF.less {hC : V} (k : PreF hC hh r7 vs xa xr s58 ids la lr st) (l : Le hB hC) : PreF hB hh r7 vs xa xr s58 ids la lr st :=
  ⟨l.trans k.le, l.nil k.n7, k.box, k.ov.base l, k.nd, fun q hq => ⟨l.nil (k.mi q hq).1, (k.mi q hq).2⟩, k.oa.base l, k.orr.base l, k.os.base l, k.d1, k.d2, k.d3⟩
theorem PreF.box1 {q : Nat} {o : Obj} (k : PreF hB hh r7 vs xa xr s58 ids la lr st) (hq : hh q = none) (l : Le hh h') (hq' : h' q = some o) : ∃ hC, Le hB hC ∧ PreF hC h' r7 vs xa xr s58 ids la lr st ∧ hC q = some o := by
  have hBq : hB q = none := k.le.nil hq
  have ne : ∀ b, hh b ≠ none → hB b = none → (hB.upd q o) b = none := fun b hb hn => by
    rw [upd_ne (fun e => by subst e; exact hb hq)]; exact hn
  have ow : ∀ {s : Sl} {T : TypeId} {xs : List Value}, OwnS hB hh s T 1 xs → OwnS (hB.upd q o) h' s T 1 xs := fun {s T xs} x => OwnS.rebase (x.le l) fun a ha => by
    obtain ⟨g1, arr, g2⟩ := x.blk ha; exact ne _ (by rw [g2]; simp) g1
  refine ⟨hB.upd q o, le_upd hBq _, ⟨fun b ob hb => ?_, ne _ (by have := k.box; unfold Box at this; rw [this]; simp) k.n7, k.box.le l, ow k.ov, k.nd, fun z hz => ⟨ne z (by rw [(k.mi z hz).2]; simp) (k.mi z hz).1, l _ _ (k.mi z hz).2⟩, ow k.oa, ow k.orr, ow k.os, k.d1, k.d2, k.d3⟩, upd_self _ _ _⟩
  by_cases e : b = q
  · subst e; rw [upd_self] at hb; cases hb; exact hq'
  · rw [upd_ne e] at hb; exact l _ _ (k.le _ _ hb)
/- one map more -/
theorem PreF.more {K : V → Prop} (k : PreF hB hh r7 vs xa xr s58 ids la lr st) (hfew : ids.length < 1024) (hK : ∀ h' vs' ids', PreF hB h' r7 vs' xa xr s58 ids' la lr st → ids'.length = ids.length + 1 → K h') :
    Ld hh (Addr.add ⟨r7, 0, none⟩ 0) .sl fun (x67 : Sl) => New hh (.map #[] 0) fun r68 h12 => New h12 (.cells #[(.map (some r68))] 29) fun r69 h13 => App h13 x67 ⟨some ⟨r69, 0, none⟩, 1, 1⟩ 29 1 8 [(.map none)] fun s70 h14 => StL h14 (Addr.add ⟨r7, 0, none⟩ 0) 0 [sV s70] K := by
  refine ⟨vs, k.box.cell rfl, fun r68 hr68 => ?_⟩
  have l12 := le_upd hr68 (.map #[] 0)
  have m68 : (hh.upd r68 (.map #[] 0)) r68 = some (.map #[] 0) := upd_self _ _ _
  generalize hh.upd r68 (.map #[] 0) = h12 at *
  refine New_box fun r69 h13 hr69 l13 b69 => ?_
  have k13 := k.up (l12.trans l13)
  have m13 := l13 _ _ m68
  have nv := k.ov.1
  simp only [List.length_map, Nat.mul_one] at nv
  refine App_one k13.le k13.ov b69 rfl (by omega) (by omega) fun s70 h14 l14 o14 n14 f14 d14 => ?_
  have kk : KeepO h13 h14 31 := fun q o hq hk => by
    rw [f14 q (fun a ha e => by
      obtain ⟨_, arr, h⟩ := k13.ov.blk ha
      rw [← e, hq] at h; cases h; exact hk rfl) (by rw [hq]; simp)]
    exact hq
  have box14 := box_keepO k13.box kk (by decide)
  refine Box_st (i := 0) box14 (by simp) fun h15 box15 f15 => ?_
  have k2 : KeepO h14 h15 42 := fun q o hq hk => by
    rw [f15 q (fun e => by subst e; unfold Box at box14; rw [hq] at box14; cases box14; exact hk rfl)]; exact hq
  have mp : ∀ q, h13 q = some (.map #[] 0) → h15 q = some (.map #[] 0) := fun q hq => k2 _ _ (kk _ _ hq (by decide)) (by decide)
  have nin : ∀ q ∈ ids, q ≠ r68 := fun q hq e => by have := (k.mi q hq).2; rw [e, hr68] at this; cases this
  refine hK h15 s70 (ids ++ [r68]) ⟨fun b o hb => ?_, k.n7, box15, ?_, ?_, fun q hq => ?_, own_keepO (own_keepO k13.oa kk (by decide)) k2 (by decide), own_keepO (own_keepO k13.orr kk (by decide)) k2 (by decide), own_keepO (own_keepO k13.os kk (by decide)) k2 (by decide), k.d1, k.d2, k.d3⟩ (by simp)
  · rw [f15 b (fun e => by rw [e, k.n7] at hb; cases hb)]
    exact l14 _ _ hb
  · rw [List.map_append]
    exact own_keepO o14 k2 (by decide)
  · rw [List.nodup_append]
    refine ⟨k.nd, by simp, fun a ha b hb => ?_⟩
    rw [List.mem_singleton.1 hb]; exact nin a ha
  · rcases List.mem_append.1 hq with g | g
    · exact ⟨(k.mi q g).1, mp q (k13.mi q g).2⟩
    · rw [List.mem_singleton.1 g]; exact ⟨k.le.nil hr68, mp r68 m13⟩
theorem bset' {l : List Bool} {n : Nat} {x : Bool} : (l.map Value.bool).set n (.bool x) = (l.set n x).map Value.bool := by rw [List.map_set]
theorem own_neK {s t : Sl} {T T' : TypeId} {xs ys : List Value} (o : OwnS hB hh s T 1 xs) (o' : OwnS hB hh t T' 1 ys) (hT : T ≠ T') : neB s t := fun a b ha hb e => by
  obtain ⟨_, arr, h1⟩ := o.blk ha
  obtain ⟨_, arr', h2⟩ := o'.blk hb
  rw [e, h2] at h1
  cases h1; exact hT rfl
theorem PreF.sets {i : Int} {x : Bool} {K : V → Prop} (k : PreF hB hh r7 vs xa xr s58 ids la lr st) (h0 : 0 ≤ i) (hi : i.toNat < st.length) (hK : ∀ h', PreF hB h' r7 vs xa xr s58 ids la lr (st.set i.toNat x) → K h') : Ix s58 i 1 fun a => StL hh a 0 [.bool x] K := by
  refine OwnS.set k.os k.le h0 (by simpa using hi) fun h' l' o' f' => hK h' ?_
  have fr : ∀ {s : Sl} {T : TypeId} {xs : List Value}, OwnS hB hh s T 1 xs → neB s58 s → OwnS hB h' s T 1 xs := fun {s T xs} o hn => o.frame fun a ob ha hob => by rw [f' _ (fun b hb e => hn b a hb ha e.symm)]; exact hob
  refine ⟨l', k.n7, ?_, fr k.ov (own_neK k.os k.ov (by decide)), k.nd, fun q hq => ⟨(k.mi q hq).1, ?_⟩, fr k.oa k.d1, fr k.orr k.d2, by rw [← bset']; exact o', k.d1, k.d2, k.d3⟩
  · unfold Box
    rw [f' r7 (fun a ha e => by
      obtain ⟨_, arr, h2⟩ := k.os.blk ha
      have := k.box
      unfold Box at this
      rw [e, h2] at this; cases this)]
    exact k.box
  · rw [f' q (fun a ha e => by
      obtain ⟨_, arr, h2⟩ := k.os.blk ha
      have := (k.mi q hq).2
      rw [e, h2] at this; cases this)]
    exact (k.mi q hq).2
theorem PreF.seta {i : Int} {x : Bool} {K : V → Prop} (k : PreF hB hh r7 vs xa xr s58 ids la lr st) (h0 : 0 ≤ i) (hi : i.toNat < la.length) (hK : ∀ h', PreF hB h' r7 vs xa xr s58 ids (la.set i.toNat x) lr st → K h') : Ix xa i 1 fun a => StL hh a 0 [.bool x] K := by
  refine OwnS.set k.oa k.le h0 (by simpa using hi) fun h' l' o' f' => hK h' ?_
  have fr : ∀ {s : Sl} {T : TypeId} {xs : List Value}, OwnS hB hh s T 1 xs → neB xa s → OwnS hB h' s T 1 xs := fun {s T xs} o hn => o.frame fun a ob ha hob => by rw [f' _ (fun b hb e => hn b a hb ha e.symm)]; exact hob
  refine ⟨l', k.n7, ?_, fr k.ov (own_neK k.oa k.ov (by decide)), k.nd, fun q hq => ⟨(k.mi q hq).1, ?_⟩, by rw [← bset']; exact o', fr k.orr k.d3, fr k.os k.d1.symm, k.d1, k.d2, k.d3⟩
  · unfold Box
    rw [f' r7 (fun a ha e => by
      obtain ⟨_, arr, h2⟩ := k.oa.blk ha
      have := k.box
      unfold Box at this
      rw [e, h2] at this; cases this)]
    exact k.box
  · rw [f' q (fun a ha e => by
      obtain ⟨_, arr, h2⟩ := k.oa.blk ha
      have := (k.mi q hq).2
      rw [e, h2] at this; cases this)]
    exact (k.mi q hq).2
/- all but what turns -/
def blkL (s : Sl) : List Nat := match s.a with | some a => [a.block] | none => []
theorem blkL_mem {s : Sl} {b : Nat} : b ∈ blkL s ↔ ∃ a, s.a = some a ∧ b = a.block := by
  unfold blkL
  cases hs : s.a with
  | none => simp
  | some a => simp
def restV (hh : V) (xa xr : Sl) (ids : List Nat) : V := V.dels hh (ids ++ (blkL xa ++ blkL xr))
theorem rest_le (hh : V) (xa xr : Sl) (ids : List Nat) : Le (restV hh xa xr ids) hh := fun b o hb => by
  by_cases h : b ∈ ids ++ (blkL xa ++ blkL xr)
  · unfold restV at hb; rw [dels_in h] at hb; cases hb
  · unfold restV at hb; rw [dels_out h] at hb; exact hb
theorem PreF.own_in (k : PreF hB hh r7 vs xa xr s58 ids la lr st) {b : Nat} (h : b ∈ ids ++ (blkL xa ++ blkL xr)) : hB b = none ∧ (hh b = some (.map #[] 0) ∨ ((∃ a, xa.a = some a ∧ b = a.block) ∨ ∃ a, xr.a = some a ∧ b = a.block) ∧ ∃ arr, hh b = some (.cells arr 4 (0, 0))) := by
  rcases List.mem_append.1 h with g | g
  · exact ⟨(k.mi b g).1, .inl (k.mi b g).2⟩
  · rcases List.mem_append.1 g with g | g
    · obtain ⟨a, ha, rfl⟩ := blkL_mem.1 g
      obtain ⟨g1, g2⟩ := k.oa.blk ha
      exact ⟨g1, .inr ⟨.inl ⟨a, ha, rfl⟩, g2⟩⟩
    · obtain ⟨a, ha, rfl⟩ := blkL_mem.1 g
      obtain ⟨g1, g2⟩ := k.orr.blk ha
      exact ⟨g1, .inr ⟨.inr ⟨a, ha, rfl⟩, g2⟩⟩
theorem PreF.le_rest (k : PreF hB hh r7 vs xa xr s58 ids la lr st) : Le hB (restV hh xa xr ids) := fun b o hb => by
  unfold restV
  rw [dels_out (fun h => by rw [(k.own_in h).1] at hb; cases hb)]
  exact k.le _ _ hb
theorem PreF.box_rest (k : PreF hB hh r7 vs xa xr s58 ids la lr st) {r : Nat} {cs : List Value} {T : TypeId} (b : Box hh r cs T) (hT : T ≠ 4) : Box (restV hh xa xr ids) r cs T := by
  unfold Box restV
  rw [dels_out (fun h => ?_)]
  · exact b
  · unfold Box at b
    rcases (k.own_in h).2 with e | ⟨_, arr, e⟩
    · rw [b] at e; cases e
    · rw [b] at e; cases e; exact hT rfl
theorem PreF.vs_rest (k : PreF hB hh r7 vs xa xr s58 ids la lr st) {h0 : V} (l0 : Le h0 hB) {r6 : Nat} {cs : List Value} (b6 : Box hB r6 cs 40) : isSl repMap 1 (V.sub (V.del (restV hh xa xr ids) r6) h0) vs ids := by
  refine (OwnS.frame (h' := V.sub (V.del (restV hh xa xr ids) r6) h0) k.ov fun a ob ha hob => ?_).sl fun _ _ _ h => h
  obtain ⟨g1, arr, g2⟩ := k.ov.blk ha
  rw [V.sub_in (l0.nil g1), del_ne (fun e => by unfold Box at b6; rw [e, b6] at g1; cases g1)]
  unfold restV
  rw [dels_out (fun h => ?_)]
  · exact hob
  · rcases (k.own_in h).2 with e | ⟨_, arr, e⟩
    · rw [g2] at e; cases e
    · rw [g2] at e; cases e
theorem PreF.sets_rest (k : PreF hB hh r7 vs xa xr s58 ids la lr st) : isSl repBool 1 (restV hh xa xr ids) s58 st := by
  refine (OwnS.frame (h' := restV hh xa xr ids) k.os fun a ob ha hob => ?_).bools
  obtain ⟨g1, arr, g2⟩ := k.os.blk ha
  unfold restV
  rw [dels_out (fun h => ?_)]
  · exact hob
  · rcases List.mem_append.1 h with g | g
    · rw [(k.mi _ g).2] at g2; cases g2
    · rcases List.mem_append.1 g with g | g
      · obtain ⟨a', ha', e⟩ := blkL_mem.1 g; exact k.d1 a a' ha ha' e
      · obtain ⟨a', ha', e⟩ := blkL_mem.1 g; exact k.d2 a a' ha ha' e
theorem PreF.done {p : ProgD} (k : PreF hB hh r7 vs xa xr s58 ids la lr st) (hi : ids.length = p.funcs.length) (ha : la = arrL p (startB p)) (hr : lr = retL p (startB p)) : FcW (restV hh xa xr ids) hh p vs xa xr ids (startB p) := by
  have nn : ∀ {b : Nat}, b ∈ ids ++ (blkL xa ++ blkL xr) → restV hh xa xr ids b = none := fun h => dels_in h
  subst ha hr
  refine ⟨rest_le _ _ _ _, ?_, hi, k.nd, fun f q hq => ⟨nn (List.mem_append_left _ (List.mem_of_getElem? hq)), _, [], (k.mi q (List.mem_of_getElem? hq)).2, MapRep.empty _, fun v => by rw [mget_nil]; rfl⟩, OwnS.rebase k.oa fun a ha => nn (List.mem_append_right _ (List.mem_append_left _ (blkL_mem.2 ⟨a, ha, rfl⟩))), OwnS.rebase k.orr fun a ha => nn (List.mem_append_right _ (List.mem_append_right _ (blkL_mem.2 ⟨a, ha, rfl⟩))), k.d3⟩
  refine (OwnS.frame (h' := restV hh xa xr ids) k.ov fun a ob ha hob => ?_).sl fun _ _ _ h => h
  obtain ⟨g1, arr, g2⟩ := k.ov.blk ha
  unfold restV
  rw [dels_out (fun h => ?_)]
  · exact hob
  · rcases (k.own_in h).2 with e | ⟨_, arr, e⟩
    · rw [g2] at e; cases e
    · rw [g2] at e; cases e
end
end Go.Proofs.Ytaefmhephoilmaa

/- The law's own facts: walked. -/
namespace Go.Proofs.Ytaefmhephoilmaa
open Go Go.VL

theorem own_neN {hA hX hZ : V} {s t : Sl} {T T' : TypeId} {xs ys : List Value} (o : OwnS hA hX s T 1 xs) (o' : OwnS hZ hA t T' 1 ys) : neB s t := fun a b ha hb e => by
  obtain ⟨_, arr, h2⟩ := o'.blk hb
  rw [← e, (o.blk ha).1] at h2; cases h2
theorem PreF.frame1 {hB hh h' : V} {r7 r : Nat} {vs xa xr s58 : Sl} {ids : List Nat} {la lr st : List Bool} {cs : List Value} (k : PreF hB hh r7 vs xa xr s58 ids la lr st) (b : Box hh r cs 40) (hr : hB r = none) (h7 : r ≠ r7) (f : ∀ b, b ≠ r → h' b = hh b) : PreF hB h' r7 vs xa xr s58 ids la lr st := by
  have ow : ∀ {s : Sl} {T : TypeId} {xs : List Value}, OwnS hB hh s T 1 xs → T ≠ 40 → OwnS hB h' s T 1 xs := fun {s T xs} x hT => x.frame fun a ob ha hob => by rw [f _ (own_box x b hT ha)]; exact hob
  refine ⟨fun c o hc => ?_, k.n7, ?_, ow k.ov (by decide), k.nd, fun q hq => ⟨(k.mi q hq).1, ?_⟩, ow k.oa (by decide), ow k.orr (by decide), ow k.os (by decide), k.d1, k.d2, k.d3⟩
  · rw [f c (fun e => by rw [e, hr] at hc; cases hc)]; exact k.le _ _ hc
  · unfold Box; rw [f r7 (fun e => h7 e.symm)]; exact k.box
  · rw [f q (fun e => by have := (k.mi q hq).2; unfold Box at b; rw [e, b] at this; cases this)]; exact (k.mi q hq).2
theorem rep_map {n : Nat} {g : Nat → Bool} (h : ∀ i, i < n → g i = false) : List.replicate n (Value.bool false) = ((List.range n).map g).map Value.bool := by
  apply List.ext_getElem?
  intro k
  rw [List.getElem?_map, List.getElem?_map, List.getElem?_replicate]
  by_cases hk : k < n
  · rw [if_pos hk, List.getElem?_range hk]; simp [h k hk]
  · rw [if_neg hk, List.getElem?_eq_none (by simpa using hk)]; rfl
def holdL (p : ProgD) (j : Nat) : List Bool := (List.range p.arrays.length).map fun i => if i < j then startB p (.arr i) else false
theorem holdL_len (p : ProgD) (j : Nat) : (holdL p j).length = p.arrays.length := by simp [holdL]
theorem startB_arr {p : ProgD} {i : Nat} (hi : i < p.arrays.length) : startB p (.arr i) = (p.arrays[i].hold == 2) := by
  unfold startB L0
  simp only [List.getElem?_eq_getElem hi]
  by_cases h : p.arrays[i].hold = 2
  · simp [h]
  · simp [h]
theorem holdL_set {p : ProgD} {j : Nat} : (holdL p j).set j (startB p (.arr j)) = holdL p (j + 1) := rangeL_set (by rw [if_pos (Nat.lt_succ_self j)]) fun i hi => by
  by_cases h : i < j
  · rw [if_pos h, if_pos (by omega)]
  · rw [if_neg h, if_neg (by omega)]
theorem holdL_all (p : ProgD) : holdL p p.arrays.length = arrL p (startB p) := List.map_congr_left fun i hi => if_pos (List.mem_range.1 hi)
set_option maxRecDepth 100000 in
theorem from_body {h : V} {p : ProgD} {sa sf pc : Sl} {cutIn : List (Int → Bool)} {stay : Bool} {D2 : BF} {lv : Int} {R : Value → V → Prop} (hlv : (lv == 2) = stay) (ha : isArrs h sa p.arrays) (hf : isFuncs h sf p.funcs) (hc : isSl repCut 1 h pc cutIn) (ok : CheckOk p) (few : FewOk p)
    (hrec : stay = false → ∀ {h' : V} {R' : Value → V → Prop}, Le h h' → (∀ h'' zv za zr, Le h' h'' → FactR (V.sub h'' h') p zv za zr D2 → R' (.agg ⟨[sV zv, sV za, sV zr]⟩) h'') → ACalls Try.prog 11 [.agg ⟨[sV sa, sV sf, iV p.main]⟩, sV pc, iV 2] h' R')
    (hR : ∀ h' sv sx sr, Le h h' → FactR (V.sub h' h) p sv sx sr (roundB ((progCons p (cutOf cutIn) (writesD p)).map (cB stay D2)) (partsP p + p.arrays.length + 2) (startB p)) → R (.agg ⟨[sV sv, sV sx, sV sr]⟩) h') :
    ACalls Try.prog 11 [.agg ⟨[sV sa, sV sf, iV p.main]⟩, sV pc, iV lv] h R := by
  have na := ha.len
  have nf := hf.len
  have few10 := few.arrays
  have few5 := few.funcs
  refine S11_ok _ _ _ _ _ _ _ (New_box fun r3 h1 hr3 l1 b3 => New_box fun r4 h2 hr4 l2 b4 => New_box fun r6 h3 hr6 l3 b6 => ⟨sa, ((b3.le l2).le l3).cell0, sf, ((b3.le l2).le l3).cell rfl, ?_⟩)
  have l03 := (l1.trans l2).trans l3
  have b33 := (b3.le l2).le l3
  have b43 := b4.le l3
  refine MkSl_own (by omega) (by omega) fun s49 h4 l4 o4 n4 _ _ => MkSl_own (by omega) (by omega) fun s53 h5 l5 o5 n5 _ _ => ?_
  refine New_box fun r7 h6 hr7 l6 b7 => StL_box (h := h5) b7 rfl l6 hr7 fun h7 l7 b7' _ => ⟨sa, (b33.le ((l4.trans l5).trans l7)).cell0, ?_⟩
  refine MkSl_own (by omega) (by omega) fun s58 h8 l8 o8 n8 _ _ => ⟨sf, (b33.le (((l4.trans l5).trans l7).trans l8)).cell rfl, ?_⟩
  rw [na] at o4 o8
  rw [nf] at o5
  have e0 : List.replicate p.arrays.length (Value.bool false) = (holdL p 0).map Value.bool := rep_map fun i _ => if_neg (by omega)
  have e1 : List.replicate p.arrays.length (Value.bool false) = (outOf p.arrays.length []).map Value.bool := rep_map fun i _ => rfl
  have e2 : List.replicate p.funcs.length (Value.bool false) = (retL p (startB p)).map Value.bool := rep_map fun i _ => rfl
  rw [e0] at o4
  rw [e1] at o8
  rw [e2] at o5
  have k8 : PreF h3 h8 r7 ⟨none, 0, 0⟩ s49 s53 s58 [] (holdL p 0) (retL p (startB p)) (outOf p.arrays.length []) :=
    ⟨((l4.trans l5).trans l7).trans l8, (l4.trans l5).nil hr7, b7'.le l8, OwnS_nil _ _ _ _, List.nodup_nil, fun q hq => by simp at hq, ((o4.le l5).le l7).le l8, ((o5.base l4).le l7).le l8, o8.base ((l4.trans l5).trans l7), own_neN o8 ((o4.le l5).le l7), own_neN o8 (o5.le l7), (own_neN o5 o4).symm⟩
  have ha3 := ha.le mono_arr l03
  have hf3 := hf.le mono_func l03
  have hc3 := hc.le mono_cut l03
  refine Lp_count p.funcs.length (fun k st hh => st = (anyS ((p.funcs.take k).flatMap insOfF), (k : Int), ()) ∧ ∃ vs ids, PreF h3 hh r7 vs s49 s53 s58 ids (holdL p 0) (retL p (startB p)) (outOf p.arrays.length ((p.funcs.take k).flatMap insOfF)) ∧ ids.length = k)
    ⟨rfl, ⟨none, 0, 0⟩, [], k8, rfl⟩ ?_
  rintro k _ h9 K hk ⟨rfl, vs, ids, k9, hlen⟩ hK
  refine cond_dec (fun hlt => ?_) (fun hge => ?_)
  · have hk' : k < p.funcs.length := by simp only at hlt; omega
    have hfm := List.getElem_mem hk'
    rw [flatMap_take_succ hk'] at hK
    generalize (p.funcs.take k).flatMap insOfF = c0 at *
    refine elem_func hf3 k9.le hk' rfl rfl fun sb hsb r11 h11 _ l11 hr11 b11 => ?_
    obtain ⟨hC, lC, k11, e11⟩ := k9.box1 hr11 l11 b11
    have hsbC := hsb.le mono_block lC
    refine k11.more (by omega) fun h15 vs' ids' k15 hl => ⟨sb, (show Box h15 r11 (funcV p.funcs[k] sb) 46 from k15.le _ _ e11).cell rfl, ?_⟩
    refine Lp_count p.funcs[k].blocks.length (fun j st hh => st = (anyS (c0 ++ (p.funcs[k].blocks.take j).flatMap BlockD.ins), (j : Int), ()) ∧ PreF hC hh r7 vs' s49 s53 s58 ids' (holdL p 0) (retL p (startB p)) (outOf p.arrays.length (c0 ++ (p.funcs[k].blocks.take j).flatMap BlockD.ins)))
      ⟨by simp, by simpa using k15⟩ ?_
    rintro j _ h16 K1 hj ⟨rfl, k16⟩ hK1
    refine cond_dec (fun hlt => ?_) (fun hge => ?_)
    · have hj' : j < p.funcs[k].blocks.length := by have := hsb.len; simp only at hlt; omega
      have hbo := (ok.funcs _ hfm).2.2.2.1 _ (List.getElem_mem hj')
      rw [flatMap_take_succ hj', ← List.append_assoc] at hK1
      generalize c0 ++ (p.funcs[k].blocks.take j).flatMap BlockD.ins = c1 at *
      refine elem_block hsbC k16.le hj' rfl rfl fun q i w hq hi hw r13 h18 _ l18 hr13 b13 => ⟨i, b13.cell rfl, ?_⟩
      refine Lp_count p.funcs[k].blocks[j].ins.length (fun m st hh => st = (anyS (c1 ++ p.funcs[k].blocks[j].ins.take m), (m : Int), ()) ∧ PreF hC hh r7 vs' s49 s53 s58 ids' (holdL p 0) (retL p (startB p)) (outOf p.arrays.length (c1 ++ p.funcs[k].blocks[j].ins.take m)))
        ⟨by simp, by simpa using k16.up l18⟩ ?_
      rintro m _ h19 K2 hm ⟨rfl, k19⟩ hK2
      refine cond_dec (fun hlt => ?_) (fun hge => ?_)
      · have hm' : m < p.funcs[k].blocks[j].ins.length := by have := hi.len; simp only at hlt; omega
        have hri := hbo.2 _ (List.getElem_mem hm')
        rw [List.take_succ_eq_append_getElem hm', ← List.append_assoc] at hK2
        generalize c1 ++ p.funcs[k].blocks[j].ins.take m = c2 at *
        rw [outOf_one, anyS_one] at hK2
        refine elem_ins hi k19.le hm' rfl rfl fun z hz r15 h21 _ l21 hr15 b15 => ?_
        generalize p.funcs[k].blocks[j].ins[m] = ii at *
        have k21 := k19.up l21
        refine Cut_i (fun st hh => h21 = hh ∧ st.1 = (anyS c2 || decide (ii.op = 6))) (fun J hJ => ?_) ?_
        · refine cond_b (fun hy => Wk_self (hJ _ _ ⟨rfl, ?_⟩)) (fun hn => ⟨_, b15.cell0, Wk_self (hJ _ _ ⟨rfl, ?_⟩)⟩)
          · have hy : anyS c2 = true := hy
            rw [hy]; rfl
          · have hn : anyS c2 = false := hn
            rw [hn]; simp; rfl
        · rintro ⟨st, u⟩ _ ⟨rfl, e⟩
          have e : st = _ := e
          subst e
          refine ⟨_, b15.cell0, cond_eqi (fun (e4 : ii.op = 4) => ⟨_, b15.cell rfl, ?_⟩) (fun (n4 : ¬ ii.op = 4) => Wk_self (hK2 _ _ hm' ⟨by rw [wnat hm' hi.bd], by rw [if_neg (fun x => n4 x.1)]; exact k21⟩))⟩
          have hra := right_arr hri (.inr (.inl e4))
          refine k21.sets hra.1 (by rw [outOf_len]; exact hra.2) fun h23 k23 => Wk_self (hK2 _ _ hm' ⟨by rw [wnat hm' hi.bd], by rw [if_pos ⟨e4, hra.1, hra.2⟩]; exact k23⟩)
      · have : m = p.funcs[k].blocks[j].ins.length := by have := hi.len; simp only at hge; omega
        subst this
        rw [List.take_of_length_le (Nat.le_refl _)] at *
        exact Wk_self (hK1 _ _ hj' ⟨by rw [wnat hj' hsb.bd], k19⟩)
    · have : j = p.funcs[k].blocks.length := by have := hsb.len; simp only at hge; omega
      subst this
      rw [List.take_of_length_le (Nat.le_refl _)] at *
      exact Wk_self (hK _ _ hk' ⟨by rw [wnat hk' hf.bd]; rfl, vs', ids', k16.less lC, by omega⟩)
  have : k = p.funcs.length := by simp only at hge; omega
  subst this
  rw [List.take_of_length_le (Nat.le_refl _)] at *
  have ei : p.funcs.flatMap insOfF = insOfP p := rfl
  rw [ei] at *
  clear hK hge hk
  refine ⟨sa, (b33.le k9.le).cell0, ?_⟩
  refine Lp_count p.arrays.length (fun j st hh => st = ((j : Int), ()) ∧ PreF h3 hh r7 vs s49 s53 s58 ids (holdL p j) (retL p (startB p)) (outOf p.arrays.length (insOfP p))) ⟨rfl, k9⟩ ?_
  rintro j _ h30 K3 hj ⟨rfl, k30⟩ hK3
  refine cond_dec (fun hlt => ?_) (fun hge => ?_)
  · have hj' : j < p.arrays.length := by simp only at hlt; omega
    refine elem_arr ha3 k30.le hj' rfl rfl fun r17 h32 _ l32 hr17 b17 => ?_
    have k32 := k30.up l32
    refine ⟨s49, k32.box.cell rfl, _, b17.cell rfl, k32.seta (i := (j : Int)) (by omega) (by rw [holdL_len]; simpa using hj') fun h33 k33 => Wk_self (hK3 _ _ hj' ⟨by rw [wnat hj' ha.bd], ?_⟩)⟩
    rw [Int.toNat_natCast, ← startB_arr hj', holdL_set] at k33
    exact k33
  have : j = p.arrays.length := by simp only at hge; omega
  subst this
  rw [holdL_all] at k30
  clear hK3 hge hj
  refine New_box fun r18 h35 hr18 l35 b18 => StL_box (h := h30) b18 rfl l35 hr18 fun h36 l36 b18' _ => ?_
  obtain ⟨hB1, lB1, k36, e18⟩ := k30.box1 hr18 l36 b18'
  have e18 : Box hB1 r18 [.bool stay] 4 := by
    rw [← hlv]; exact e18
  refine ⟨(vs, s49, s53, ()), k36.box.cells, New_box fun r19 h37 hr19 l37 b19 => StL_box (h := h36) b19 rfl l37 hr19 fun h38 l38 b19' _ => ?_⟩
  have k38 := k36.up l38
  have l01 := l03.trans lB1
  have l08 := l01.trans k38.le
  have hB19 : hB1 r19 = none := k36.le.nil hr19
  have h197 : r19 ≠ r7 := fun e => by have := k36.box; unfold Box at this; rw [← e, hr19] at this; cases this
  refine Cut_i (fun _ h39 => ∃ zv za zr, PreF hB1 h39 r7 vs s49 s53 s58 ids (arrL p (startB p)) (retL p (startB p)) (outOf p.arrays.length (insOfP p)) ∧ Box h39 r19 [sV zv, sV za, sV zr] 40 ∧ ((stay = true ∧ zv = vs ∧ za = s49 ∧ zr = s53) ∨ (stay = false ∧ FactR (restV h39 s49 s53 ids) p zv za zr D2))) (fun J hJ => ?_) ?_
  · refine ⟨stay, (e18.le k38.le).cell0, cond_not (fun (hs : stay = false) => ?_) (fun (hs : stay = true) => Wk_self (hJ _ _ ⟨vs, s49, s53, k38, b19', .inl ⟨hs, rfl, rfl, rfl⟩⟩))⟩
    refine ⟨(sa, sf, p.main, ()), ((b33.le lB1).le k38.le).cells, pc, ((b43.le lB1).le k38.le).cell0, ?_⟩
    refine hrec hs l08 fun h124 zv za zr l124 hF => ⟨(zv, za, zr, ()), rfl, ?_⟩
    have k124 := k38.up l124
    have b124 := b19'.le l124
    refine StL_box (h := V.del h124 r19) b124 rfl (del_le _ _) (del_self _ _) fun h125 l125 b125 f125 => Wk_self (hJ _ _ ⟨zv, za, zr, k124.frame1 b124 hB19 h197 f125, b125, .inr ⟨hs, hF.le fun b o hb => ?_⟩⟩)
    have hb38 := sub_out hb
    have hne : b ≠ r19 := fun e => by unfold Box at b19'; rw [e, b19'] at hb38; cases hb38
    unfold restV
    rw [dels_out (fun hm => ?_), f125 b hne]
    · exact V.sub_le _ _ _ _ hb
    · rcases (k38.own_in hm).2 with e | ⟨_, arr, e⟩
      · rw [hb38] at e; cases e
      · rw [hb38] at e; cases e
  rintro _ h39 ⟨zv, za, zr, k39, b39, hsec⟩
  have lR := k39.le_rest
  have b61 : Box hB1 r6 [.slice none 0 0, .slice none 0 0, .slice none 0 0] 40 := lB1 _ _ b6
  exact from_tail (hB := restV h39 s49 s53 ids) (h0 := h) (s58 := s58) (sa := sa) (sf := sf) (pc := pc) (zv := zv) (za := za) (zr := zr) (stay := stay) (D2 := D2) (cutIn := cutIn)
    (fun l20 b20 => ⟨((b33.le lB1).le lR).le l20, ((b43.le lB1).le lR).le l20, (k39.box_rest k39.box (by decide)).le l20, (e18.le lR).le l20, (k39.box_rest b39 (by decide)).le l20, b20, (ha3.le mono_arr (lB1.trans lR)).le mono_arr l20, (hf3.le mono_func (lB1.trans lR)).le mono_func l20, (hc3.le mono_cut (lB1.trans lR)).le mono_cut l20, k39.sets_rest.le mono_bool l20, hsec.imp id fun ⟨x, y⟩ => ⟨x, y.le l20⟩⟩)
    (k39.done hlen rfl rfl) ok few rfl (b61.le lR) rfl (k39.vs_rest l01 b61) (l01.trans lR) ((l1.trans l2).nil hr6) fun h' l' hF => hR h' vs s49 s53 l' hF
end Go.Proofs.Ytaefmhephoilmaa

/- Contracts: head, the document's example. -/
namespace Go.Proofs.Ytaefmhephoilmaa
open Go Go.VL

theorem Box.from {h : V} {r : Nat} {cs vs : List Value} {T : TypeId} (b : Box h r cs T) (i : Nat) (hv : ∀ (j : Nat) v, vs[j]? = some v → cs[i + j]? = some v) : cellsAt h (Addr.add ⟨r, 0, none⟩ i) 0 vs :=
  cellsAt_of fun j v hj => by rw [Addr.add_add, Nat.zero_add]; exact b.cell (hv j v hj)
def hI1 : InsD := ⟨3, 1, [], 0, 0, 0, 0⟩
def hI2 : InsD := ⟨2, 2, [1, 1], 0, 1, 0, 0⟩
def hBl : BlockD := ⟨[], [hI1, hI2], ⟨3, 2, [], 0⟩⟩
def hP : ProgD := ⟨[⟨⟨#[115]⟩, 2, 0⟩], [⟨⟨#[]⟩, [hBl]⟩], 0⟩
theorem hRch : Rch [hBl] 0 := .zero (by decide)
theorem hKnown : knownOk [hBl] := by
  have h1 : roundF [hBl] 1 ⟨[none], []⟩ = (⟨[some 0], [fun _ => false, afterD (fun _ => false) hBl]⟩, true) := by
    show blockF [hBl] 0 (⟨[none], []⟩, false) = _
    unfold blockF
    rw [if_pos (rchB_iff.2 hRch)]
    rfl
  have h2 : roundF [hBl] 1 ⟨[some 0], [fun _ => false, afterD (fun _ => false) hBl]⟩ = (⟨[some 0], [fun _ => false, afterD (fun _ => false) hBl, afterD (fun _ => false) hBl]⟩, false) := by
    show blockF [hBl] 0 (⟨[some 0], _⟩, false) = _
    unfold blockF
    rw [if_pos (rchB_iff.2 hRch)]
    rfl
  have u : usedD (fun _ => false) hBl = true := by decide
  refine ⟨⟨⟨[some 0], [fun _ => false, afterD (fun _ => false) hBl, afterD (fun _ => false) hBl]⟩, ?_, ?_⟩, [some 0], fun _ _ => false, rfl, fun _ _ _ => rfl, ?_, ?_⟩
  · refine KRun.go (by show (roundF [hBl] 1 ⟨[none], []⟩).2 = true; rw [h1]) ?_
    show KRun _ (roundF [hBl] 1 ⟨[none], []⟩).1 _
    rw [h1]
    have := KRun.stop (bs := [hBl]) (st := ⟨[some 0], [fun _ => false, afterD (fun _ => false) hBl]⟩) (by show (roundF [hBl] 1 _).2 = false; rw [h2])
    have e : (roundF [hBl] [hBl].length ⟨[some 0], [fun _ => false, afterD (fun _ => false) hBl]⟩).1 = ⟨[some 0], [fun _ => false, afterD (fun _ => false) hBl, afterD (fun _ => false) hBl]⟩ := by
      show (roundF [hBl] 1 _).1 = _
      rw [h2]
    rw [e] at this
    exact this
  · intro b h bk hb hbk
    match b, hb, hbk with
    | 0, hb, hbk => cases hb; cases hbk; exact u
  · intro b bk _ hbk
    match b, hbk with
    | 0, hbk => cases hbk; exact ⟨fun _ => ⟨0, rfl⟩, fun r _ w hw => by simp [hBl] at hw⟩
  · intro b r bk hb hbk
    match b, hb, hbk with
    | 0, hb, hbk => cases hbk; exact u
theorem hOk : CheckOk hP := by
  refine ⟨fun a ha => ?_, by decide, by decide, fun f hf => ?_, fun f hf => ?_⟩
  · rw [List.mem_singleton.1 ha]; exact ⟨by decide, by decide, by decide, by decide⟩
  · cases hf; rfl
  · rw [List.mem_singleton.1 hf]
    refine ⟨by simp, by decide, by decide, fun b hb => ?_, hKnown⟩
    rw [List.mem_singleton.1 hb]
    refine ⟨by decide, fun i hi => ?_⟩
    rcases List.mem_cons.1 hi with e | e
    · subst e; decide
    · rw [List.mem_singleton.1 e]; decide
theorem hFew : FewOk hP := by
  refine ⟨by decide, by decide, fun f hf => ?_⟩
  rw [List.mem_singleton.1 hf]
  refine ⟨by decide, by decide, fun b hb => ?_⟩
  rw [List.mem_singleton.1 hb]
  refine ⟨by decide, by decide, by decide, fun i hi => ?_, fun w hw => by simp [hBl] at hw⟩
  rcases List.mem_cons.1 hi with e | e
  · subst e; decide
  · rw [List.mem_singleton.1 e]; decide
theorem hLab {L : LabF} {wr : List Bool} (h : LeastL hP (cutOf []) wr L) : L (.val 0 1) = 2 ∧ L (.val 0 2) = 2 ∧ L (.ret 0) = 2 := by
  have ha : 2 ≤ L (.arr 0) := h.ge (.arr 0)
  have hm : ∀ c ∈ blockCons hP (cutOf []) wr 0 hBl, c ∈ progCons hP (cutOf []) wr := by
    intro c hc
    refine List.mem_flatMap.2 ⟨0, by decide, List.mem_flatMap.2 ⟨0, by decide, ?_⟩⟩
    have e : (FuncD.at hP 0).blocks = [hBl] := rfl
    rw [e, if_pos (rchB_iff.2 hRch)]
    exact hc
  have c1 := h.closed _ (hm ⟨.val 0 1, fun L => cutS (cutOf []) 0 1 (imax (imax (L (.arr 0)) (valsOf 0 [] L)) (mayD wr hI1))⟩ (by simp [blockCons, hBl, insCons, hI1]))
  have c2 := h.closed _ (hm ⟨.val 0 2, fun L => cutS (cutOf []) 0 2 (valsOf 0 [1, 1] L)⟩ (by simp [blockCons, hBl, insCons, hI1, hI2]))
  have c3 := h.closed _ (hm ⟨.ret 0, fun L => staysD (L (.val 0 2))⟩ (by simp [blockCons, hBl, endCons]))
  have k : ∀ v x, cutS (cutOf []) 0 v x = x := fun v x => by unfold cutS; rw [if_neg (by simp [cutOf])]
  simp only [k] at c1 c2
  have b1 := h.le2 (.val 0 1)
  have b2 := h.le2 (.val 0 2)
  have b3 := h.le2 (.ret 0)
  have e1 : L (.val 0 1) = 2 := by
    have : L (.arr 0) ≤ imax (imax (L (.arr 0)) (valsOf 0 [] L)) (mayD wr hI1) := by unfold imax; split <;> split <;> omega
    omega
  have e2 : L (.val 0 2) = 2 := by
    have : 2 ≤ valsOf 0 [1, 1] L := by simp [valsOf, imax, e1]
    omega
  refine ⟨e1, e2, ?_⟩
  simp only [e2] at c3
  have : staysD 2 = 2 := by decide
  omega
end Go.Proofs.Ytaefmhephoilmaa

/- Contracts: head, its walk. -/
namespace Go.Proofs.Ytaefmhephoilmaa
open Go Go.VL

theorem isSl_one {α : Type} {rep : V → Addr → α → Prop} {sz : Nat} {h : V} {r : Nat} {x : α} (hx : rep h ⟨r, 0, none⟩ x) : isSl rep sz h ⟨some ⟨r, 0, none⟩, 1, 1⟩ [x] := by
  refine ⟨rfl, Nat.le_refl _, by show (1 : Nat) ≤ _; omega, fun k hk => ⟨_, rfl, ?_⟩⟩
  have e : k = 0 := by simp at hk; omega
  subst e
  rw [Nat.zero_mul, add_at]
  exact hx
theorem c_head {h : V} {R : Value → V → Prop} (hR : ∀ h', Le h h' → R (.bool true) h') : ACalls Try.prog 7 [] h R := by
  refine S7_ok _ _ (New_box fun r5 h1 hr5 l1 b5 => New_box fun r7 h2 hr7 l2 b7 => New_box fun r9 h3 hr9 l3 b9 => New_box fun r12 h4 hr12 l4 b12 => New_box fun r14 h5 hr14 l5 b14 => New_box fun r1 h6 hr1 l6 b1 => ?_)
  refine StL_box (h := h5) b1 rfl l6 hr1 fun h7 l7 b1' f7 => ⟨(⟨some ⟨r5, 0, none⟩, 1, 1⟩, ⟨some ⟨r14, 0, none⟩, 1, 1⟩, 0, ()), b1'.cells, ?_⟩
  have l47 := l5.trans l7
  have l37 := l4.trans l47
  have l27 := l3.trans l37
  have l17 := l2.trans l27
  have ha : isArrs h7 ⟨some ⟨r5, 0, none⟩, 1, 1⟩ hP.arrays := isSl_one (rep := repArr) (cellsAt_le l17 b5.cells)
  have h11 : isInts h7 ⟨some ⟨r7, 0, none⟩, 2, 2⟩ [1, 1] := by
    refine ⟨rfl, Nat.le_refl _, by show (2 : Nat) ≤ _; omega, fun k hk => ⟨_, rfl, ?_⟩⟩
    match k, hk with
    | 0, _ => exact (b7.le l27).cell rfl
    | 1, _ => exact (b7.le l27).cell rfl
  have hi : isInss h7 ⟨some ⟨r9, 0, none⟩, 2, 2⟩ [hI1, hI2] := by
    refine ⟨rfl, Nat.le_refl _, by show (2 : Nat) ≤ _; omega, fun k hk => ⟨_, rfl, ?_⟩⟩
    match k, hk with
    | 0, _ =>
      refine ⟨⟨none, 0, 0⟩, isSl_nil _ _ _, Box.from (b9.le l37) 0 fun j v hv => ?_⟩
      match j, hv with
      | 0, hv => exact hv
      | 1, hv => exact hv
      | 2, hv => exact hv
      | 3, hv => exact hv
      | 4, hv => exact hv
      | 5, hv => exact hv
      | 6, hv => exact hv
    | 1, _ =>
      refine ⟨⟨some ⟨r7, 0, none⟩, 2, 2⟩, h11, Box.from (b9.le l37) 7 fun j v hv => ?_⟩
      match j, hv with
      | 0, hv => exact hv
      | 1, hv => exact hv
      | 2, hv => exact hv
      | 3, hv => exact hv
      | 4, hv => exact hv
      | 5, hv => exact hv
      | 6, hv => exact hv
  have hb : isBlocks h7 ⟨some ⟨r12, 0, none⟩, 1, 1⟩ [hBl] := isSl_one (rep := repBlock) ⟨⟨none, 0, 0⟩, _, ⟨none, 0, 0⟩, isSl_nil _ _ _, hi, isSl_nil _ _ _, (b12.le l47).cells⟩
  have hf : isFuncs h7 ⟨some ⟨r14, 0, none⟩, 1, 1⟩ hP.funcs := isSl_one (rep := repFunc) ⟨_, hb, (b14.le l7).cells⟩
  have l07 := l1.trans l17
  refine c_Of (p := hP) (cutIn := []) (pc := ⟨none, 0, 0⟩) ha hf (isSl_nil _ _ _) hFew (fun hn => absurd hOk hn) fun _ h8 vs ar rs cs L l8 lab hL => ⟨((vs, ar, rs, cs, ()), 0, ()), rfl, ?_⟩
  refine New_box fun r2 h9 hr2 l9 b2 => StL_box (h := h8) b2 rfl l9 hr2 fun h10 l10 b2' f10 => ?_
  obtain ⟨e1, e2, e3⟩ := hLab hL
  have hv := lab.vals.le mono_vals l10
  have hrt := lab.rets.le mono_int l10
  have nv : vs.n = 1 := hv.len
  have nr : rs.n = 1 := hrt.len
  have na : ar.n = 1 := lab.arrs.len
  refine cond_eqi (fun _ => ⟨vs, b2'.cell rfl, cond_eqi (fun _ => ⟨vs, b2'.cell rfl, ?_⟩) (fun n => absurd (by show (vs.n : Int) = 1; omega) n)⟩) (fun n => absurd rfl n)
  refine hv.ix (i := 0) (by omega) (by rw [List.length_map, List.length_range]; exact Nat.zero_lt_one) fun a ⟨q, o, m, g1, g2, g3, g4⟩ => ⟨some q, g1, Look_map g2 g3 ?_⟩
  have k1 : (mget m 1).getD (0 : Int) = 2 := by rw [g4]; exact e1
  have k2 : (mget m 2).getD (0 : Int) = 2 := by rw [g4]; exact e2
  rw [k1]
  refine cond_eqi (fun _ => ⟨vs, b2'.cell rfl, ?_⟩) (fun n => absurd rfl n)
  refine hv.ix (i := 0) (by omega) (by rw [List.length_map, List.length_range]; exact Nat.zero_lt_one) fun a ⟨q, o, m, g1, g2, g3, g4⟩ => ⟨some q, g1, Look_map g2 g3 ?_⟩
  have k2 : (mget m 2).getD (0 : Int) = 2 := by rw [g4]; exact e2
  rw [k2]
  refine cond_eqi (fun _ => ⟨rs, b2'.cell rfl, cond_eqi (fun _ => ⟨rs, b2'.cell rfl, ?_⟩) (fun n => absurd (by show (rs.n : Int) = 1; omega) n)⟩) (fun n => absurd rfl n)
  refine hrt.ix (i := 0) (by omega) (by rw [List.length_map, List.length_range]; exact Nat.zero_lt_one) fun a ha' => ⟨_, ha', ?_⟩
  refine cond_eqi (fun _ => ⟨ar, b2'.cell rfl, Wk_self ?_⟩) (fun n => absurd e3 n)
  have : ((ar.n : Int) == 1) = true := by rw [na]; rfl
  rw [this]
  exact hR h10 ((l07.trans l8).trans l10)
end Go.Proofs.Ytaefmhephoilmaa

/- What functions of the program ask of a view of memory: printed by shal.py. -/
namespace Go.Proofs.Ytaefmhephoilmaa
open Go Go.VL
set_option maxRecDepth 100000
/- palings/palingslaw12.TaintLeast.1 -/
def an12 : An := (.two .nil (.two (.two .nil (.two (.two .nil .nil) .nil)) (.two (.two .nil (.two (.two .nil .nil) .nil)) (.two .nil .nil))))
def S12 (p0 : Bool) (p1 : Bool) (h : V) (R : Value → V → Prop) : Prop :=
  cond p1
  (Wk h fun h1 => R (.int .i64 ((2 : Int))) h1)
  (cond p0
  (Wk h fun h2 => R (.int .i64 ((1 : Int))) h2)
  (Wk h fun h3 => R (.int .i64 ((0 : Int))) h3))
theorem S12_eq (p0 : Bool) (p1 : Bool) (h : V) (R : Value → V → Prop) : ABody Try.prog an12 Try.f12 [(.bool p0), (.bool p1)] h R = S12 p0 p1 h R := by kernel_rfl
theorem S12_ok (p0 : Bool) (p1 : Bool) (h : V) (R : Value → V → Prop) (hk : S12 p0 p1 h R) : ACalls Try.prog 12 [(.bool p0), (.bool p1)] h R :=
  ABody_sound mixed Try.func12 Try.call12 (by kernel_rfl) (by kernel_rfl) (an := an12) (by rw [S12_eq]; exact hk)

/- palings/palingslaw12.TaintSinks.1 -/
def an15 : An := (.two .nil (.two (.perm [0, 1, 2, 3, 4, 5, 6, 7, 8, 9, 10, 11, 12, 13, 14, 15] []) .nil))
def S15 (p0 : Int) (p1 : Int) (c0 : Addr) (c1 : Addr) (c2 : Addr) (c3 : Addr) (h : V) (R : Value → V → Prop) : Prop :=
  Ld h (Addr.add c0 0) .sl fun (x9 : Sl) =>
  Ld h c1 (.int .i64) fun (x10 : Int) =>
  Ix x9 x10 1 fun a11 =>
  Ld h a11 .mp fun (x12 : Option Nat) =>
  Look h x12 (.int .i64) (.int .i64 p1) (.one (.int .i64)) ((0 : Int)) fun (x14 : Int) _ =>
  cond (decide (x14 > ((0 : Int))))
  (Ld h c2 .sl fun (x16 : Sl) =>
  Ld h c1 (.int .i64) fun (x17 : Int) =>
  Ld h c3 (.int .i64) fun (x18 : Int) =>
  Ld h (Addr.add c0 0) .sl fun (x22 : Sl) =>
  Ld h c1 (.int .i64) fun (x23 : Int) =>
  Ix x22 x23 1 fun a24 =>
  Ld h a24 .mp fun (x25 : Option Nat) =>
  Look h x25 (.int .i64) (.int .i64 p1) (.one (.int .i64)) ((0 : Int)) fun (x27 : Int) _ =>
  New h (.cells #[(.int .i64 x17), (.int .i64 x18), (.int .i64 p0), (.int .i64 p1), (.int .i64 x27)] 69) fun r29 h1 =>
  App h1 x16 ⟨(some ⟨r29, 0, none⟩), 1, 1⟩ 69 5 40 [(.int .i64 ((0 : Int))), (.int .i64 ((0 : Int))), (.int .i64 ((0 : Int))), (.int .i64 ((0 : Int))), (.int .i64 ((0 : Int)))] fun s30 h2 =>
  StL h2 c2 0 [(.slice s30.a s30.n s30.c)] fun h3 =>
  Wk h3 fun h4 => R (.tuple ⟨[]⟩) h4)
  (Wk h fun h5 => R (.tuple ⟨[]⟩) h5)
theorem S15_eq (p0 : Int) (p1 : Int) (c0 : Addr) (c1 : Addr) (c2 : Addr) (c3 : Addr) (h : V) (R : Value → V → Prop) : ABody Try.prog an15 Try.f15 [(.int .i64 p0), (.int .i64 p1), (.pointer (some c0)), (.pointer (some c1)), (.pointer (some c2)), (.pointer (some c3))] h R = S15 p0 p1 c0 c1 c2 c3 h R := by kernel_rfl
theorem S15_ok (p0 : Int) (p1 : Int) (c0 : Addr) (c1 : Addr) (c2 : Addr) (c3 : Addr) (h : V) (R : Value → V → Prop) (hk : S15 p0 p1 c0 c1 c2 c3 h R) : ACalls Try.prog 15 [(.int .i64 p0), (.int .i64 p1), (.pointer (some c0)), (.pointer (some c1)), (.pointer (some c2)), (.pointer (some c3))] h R :=
  ABody_sound mixed Try.func15 Try.call15 (by kernel_rfl) (by kernel_rfl) (an := an15) (by rw [S15_eq]; exact hk)

/- palings/palingslaw12.TaintLeast -/
def an3 : An := (.two .nil (.two (.two .nil (.two (.two .nil .nil) .nil)) (.cut [] (.two .nil (.two (.two .nil .nil) .nil)) (.two (.two .nil (.one (.loop [(33, (.one (.int .i64)))] (.two .nil (.two (.two .nil .nil) (.two (.one (.two .nil (.two .nil (.two (.two .nil .nil) .nil)))) .nil)))))) (.two .nil (.two (.two .nil (.two (.two .nil .nil) .nil)) (.cut [] (.two .nil (.two (.two .nil .nil) .nil)) (.two .nil (.two .nil (.two .nil (.two (.two .nil (.one (.loop [(105, (.one (.int .i64)))] (.two .nil (.two (.two .nil .nil) (.two (.one (.two .nil (.two (.two .nil (.one (.loop [(113, (.one (.int .i64)))] (.two .nil (.two (.two .nil .nil) (.two (.one (.two .nil (.two (.two .nil (.one (.loop [(120, (.one (.int .i64)))] (.two .nil (.two (.two .nil .nil) (.two (.one (.two .nil (.two (.perm [0, 1, 2, 3, 4, 5, 6, 7, 8, 9, 10, 11, 12, 13, 14, 15, 16, 17, 18, 19, 20, 21, 22, 23] [22]) (.two (.two .nil .nil) .nil)))) .nil)))))) (.two .nil (.one (.loop [(152, (.one (.int .i64)))] (.two .nil (.two (.two .nil .nil) (.two (.one (.two .nil (.two (.perm [0, 1, 2, 3, 4, 5, 6, 7, 8, 9, 10, 11, 12, 13, 14, 15, 16, 17, 18, 19, 20, 21, 22, 23, 24, 25, 26, 27, 28, 29, 30, 31] [29]) (.two (.two .nil .nil) .nil)))) .nil))))))))) .nil)))))) (.two (.perm [0, 1, 2, 3, 4, 5, 6, 7, 8, 9, 10, 11, 12] [11]) (.two (.two .nil .nil) .nil))))) .nil)))))) (.two (.two .nil (.one (.loop [(207, (.one (.int .i64)))] (.two .nil (.two (.two .nil .nil) (.two (.one (.two .nil (.two (.perm [0, 1, 2, 3, 4, 5, 6, 7, 8, 9, 10, 11, 12] [11]) (.two (.two .nil .nil) .nil)))) .nil)))))) (.two .nil .nil)))))))))))))
def S3 (p0_0 : Sl) (p0_1 : Sl) (p0_2 : Int) (p1 : Sl) (h : V) (R : Value → V → Prop) : Prop :=
  New h (.cells #[(.slice p0_0.a p0_0.n p0_0.c), (.slice p0_1.a p0_1.n p0_1.c), (.int .i64 p0_2)] 25) fun r2 h1 =>
  CallK Try.prog 7 [] h1 (.un (.one .bool)) fun (x21 : Bool) h2 =>
  cond (!x21)
  (Wk h2 fun h3 => R (.bool false) h3)
  (Cut (σ := (Unit)) (fun _ h4 =>
  Lp (σ := (Int × Unit)) (fun K s_1 h5 =>
  cond (decide (s_1.1 < (((p1.n : Nat) : Int))))
  (Ix p1 s_1.1 1 fun a35 =>
  Ld h5 a35 .mp fun (x36 : Option Nat) =>
  LenM h5 x36 fun x38 =>
  cond (decide (x38 > ((60 : Int))))
  (Wk h5 fun h6 => R (.bool true) h6)
  (Wk h5 fun h7 => K (IntKind.wrap .i64 (s_1.1 + ((1 : Int))), ()) h7))
  (LdA h5 (⟨r2, 0, none⟩) [.sl, .sl, (.int .i64)] fun (x42 : ((Sl) × (Sl) × (Int) × Unit)) =>
  CallK Try.prog 9 [(.agg ⟨[(.slice x42.1.a x42.1.n x42.1.c), (.slice x42.2.1.a x42.2.1.n x42.2.1.c), (.int .i64 x42.2.2.1)]⟩), (.slice p1.a p1.n p1.c)] h5 (.tup [(.agg [.sl, .sl, .sl, .sl]), (.one (.int .i64))]) fun (x44 : (((Sl) × (Sl) × (Sl) × (Sl) × Unit) × Int × Unit)) h8 =>
  New h8 (.cells #[(.slice none 0 0), (.slice none 0 0), (.slice none 0 0), (.slice none 0 0)] 33) fun r7 h9 =>
  StL h9 (⟨r7, 0, none⟩) 0 [(.slice x44.1.1.a x44.1.1.n x44.1.1.c), (.slice x44.1.2.1.a x44.1.2.1.n x44.1.2.1.c), (.slice x44.1.2.2.1.a x44.1.2.2.1.n x44.1.2.2.1.c), (.slice x44.1.2.2.2.1.a x44.1.2.2.2.1.n x44.1.2.2.2.1.c)] fun h10 =>
  LdA h10 (⟨r2, 0, none⟩) [.sl, .sl, (.int .i64)] fun (x47 : ((Sl) × (Sl) × (Int) × Unit)) =>
  CallK Try.prog 10 [(.agg ⟨[(.slice x47.1.a x47.1.n x47.1.c), (.slice x47.2.1.a x47.2.1.n x47.2.1.c), (.int .i64 x47.2.2.1)]⟩)] h10 (.un (.one (.int .i64))) fun (x48 : Int) h11 =>
  cond (x48 != ((0 : Int)))
  (cond (x44.2.1 == ((40 : Int)))
  (Ld h11 (Addr.add (⟨r7, 0, none⟩) 0) .sl fun (x54 : Sl) =>
  Wk h11 fun h12 => R (.bool ((((x54.n : Nat) : Int)) == ((0 : Int)))) h12)
  (Wk h11 fun h13 => R (.bool false) h13))
  (Cut (σ := (Unit)) (fun _ h14 =>
  LdA h14 (⟨r2, 0, none⟩) [.sl, .sl, (.int .i64)] fun (x96 : ((Sl) × (Sl) × (Int) × Unit)) =>
  CallK Try.prog 11 [(.agg ⟨[(.slice x96.1.a x96.1.n x96.1.c), (.slice x96.2.1.a x96.2.1.n x96.2.1.c), (.int .i64 x96.2.2.1)]⟩), (.slice p1.a p1.n p1.c), (.int .i64 ((1 : Int)))] h14 (.un (.agg [.sl, .sl, .sl])) fun (x98 : ((Sl) × (Sl) × (Sl) × Unit)) h15 =>
  New h15 (.cells #[(.slice none 0 0), (.slice none 0 0), (.slice none 0 0)] 40) fun r9 h16 =>
  StL h16 (⟨r9, 0, none⟩) 0 [(.slice x98.1.a x98.1.n x98.1.c), (.slice x98.2.1.a x98.2.1.n x98.2.1.c), (.slice x98.2.2.1.a x98.2.2.1.n x98.2.2.1.c)] fun h17 =>
  LdA h17 (⟨r2, 0, none⟩) [.sl, .sl, (.int .i64)] fun (x99 : ((Sl) × (Sl) × (Int) × Unit)) =>
  CallK Try.prog 11 [(.agg ⟨[(.slice x99.1.a x99.1.n x99.1.c), (.slice x99.2.1.a x99.2.1.n x99.2.1.c), (.int .i64 x99.2.2.1)]⟩), (.slice p1.a p1.n p1.c), (.int .i64 ((2 : Int)))] h17 (.un (.agg [.sl, .sl, .sl])) fun (x101 : ((Sl) × (Sl) × (Sl) × Unit)) h18 =>
  New h18 (.cells #[(.slice none 0 0), (.slice none 0 0), (.slice none 0 0)] 40) fun r10 h19 =>
  StL h19 (⟨r10, 0, none⟩) 0 [(.slice x101.1.a x101.1.n x101.1.c), (.slice x101.2.1.a x101.2.1.n x101.2.1.c), (.slice x101.2.2.1.a x101.2.2.1.n x101.2.2.1.c)] fun h20 =>
  Ld h20 (Addr.add (⟨r2, 0, none⟩) 1) .sl fun (x103 : Sl) =>
  Lp (σ := (Int × Unit)) (fun K_1 s_3 h21 =>
  cond (decide (s_3.1 < (((x103.n : Nat) : Int))))
  (Ix x103 s_3.1 2 fun a108 =>
  LdA h21 a108 [.str, .sl] fun (x109 : ((ByteArray) × (Sl) × Unit)) =>
  New h21 (.cells #[(.string (⟨#[]⟩)), (.slice none 0 0)] 46) fun r13 h22 =>
  StL h22 (⟨r13, 0, none⟩) 0 [(.string x109.1), (.slice x109.2.1.a x109.2.1.n x109.2.1.c)] fun h23 =>
  Ld h23 (Addr.add (⟨r13, 0, none⟩) 1) .sl fun (x111 : Sl) =>
  Lp (σ := (Int × Unit)) (fun K_2 s_4 h24 =>
  cond (decide (s_4.1 < (((x111.n : Nat) : Int))))
  (Ix x111 s_4.1 6 fun a115 =>
  LdA h24 a115 [.sl, .sl, (.int .i64), (.int .i64), .sl, (.int .i64)] fun (x116 : ((Sl) × (Sl) × (Int) × (Int) × (Sl) × (Int) × Unit)) =>
  New h24 (.cells #[(.slice none 0 0), (.slice none 0 0), (.int .i64 ((0 : Int))), (.int .i64 ((0 : Int))), (.slice none 0 0), (.int .i64 ((0 : Int)))] 55) fun r15 h25 =>
  StL h25 (⟨r15, 0, none⟩) 0 [(.slice x116.1.a x116.1.n x116.1.c), (.slice x116.2.1.a x116.2.1.n x116.2.1.c), (.int .i64 x116.2.2.1), (.int .i64 x116.2.2.2.1), (.slice x116.2.2.2.2.1.a x116.2.2.2.2.1.n x116.2.2.2.2.1.c), (.int .i64 x116.2.2.2.2.2.1)] fun h26 =>
  Ld h26 (Addr.add (⟨r15, 0, none⟩) 0) .sl fun (x118 : Sl) =>
  Lp (σ := (Int × Unit)) (fun K_3 s_5 h27 =>
  cond (decide (s_5.1 < (((x118.n : Nat) : Int))))
  (Ix x118 s_5.1 1 fun a122 =>
  Ld h27 a122 (.int .i64) fun (x123 : Int) =>
  Ld h27 (Addr.add (⟨r7, 0, none⟩) 0) .sl fun (x125 : Sl) =>
  Ix x125 s_3.1 1 fun a127 =>
  Ld h27 a127 .mp fun (x128 : Option Nat) =>
  Look h27 x128 (.int .i64) (.int .i64 x123) (.one (.int .i64)) ((0 : Int)) fun (x130 : Int) _ =>
  Ld h27 (Addr.add (⟨r9, 0, none⟩) 0) .sl fun (x133 : Sl) =>
  Ix x133 s_3.1 1 fun a135 =>
  Ld h27 a135 .mp fun (x136 : Option Nat) =>
  Look h27 x136 (.int .i64) (.int .i64 x123) (.one .bool) false fun (x138 : Bool) _ =>
  Ld h27 (Addr.add (⟨r10, 0, none⟩) 0) .sl fun (x140 : Sl) =>
  Ix x140 s_3.1 1 fun a142 =>
  Ld h27 a142 .mp fun (x143 : Option Nat) =>
  Look h27 x143 (.int .i64) (.int .i64 x123) (.one .bool) false fun (x145 : Bool) _ =>
  CallV Try.prog (.func (.func 12) ⟨[]⟩ ⟨[]⟩) [(.bool x138), (.bool x145)] h27 (.un (.one (.int .i64))) fun (x146 : Int) h28 =>
  Le h27 h28 ∧
  cond (x130 != x146)
  (Wk h28 fun h29 => R (.bool false) h29)
  (Wk h28 fun h30 => K_3 (IntKind.wrap .i64 (s_5.1 + ((1 : Int))), ()) h30))
  (Ld h27 (Addr.add (⟨r15, 0, none⟩) 1) .sl fun (x150 : Sl) =>
  Lp (σ := (Int × Unit)) (fun K_4 s_6 h31 =>
  cond (decide (s_6.1 < (((x150.n : Nat) : Int))))
  (Ix x150 s_6.1 7 fun a154 =>
  LdA h31 a154 [(.int .i64), (.int .i64), .sl, (.int .i64), (.int .i64), (.int .i64), (.int .i64)] fun (x155 : ((Int) × (Int) × (Sl) × (Int) × (Int) × (Int) × (Int) × Unit)) =>
  New h31 (.cells #[(.int .i64 ((0 : Int))), (.int .i64 ((0 : Int))), (.slice none 0 0), (.int .i64 ((0 : Int))), (.int .i64 ((0 : Int))), (.int .i64 ((0 : Int))), (.int .i64 ((0 : Int)))] 60) fun r19 h32 =>
  StL h32 (⟨r19, 0, none⟩) 0 [(.int .i64 x155.1), (.int .i64 x155.2.1), (.slice x155.2.2.1.a x155.2.2.1.n x155.2.2.1.c), (.int .i64 x155.2.2.2.1), (.int .i64 x155.2.2.2.2.1), (.int .i64 x155.2.2.2.2.2.1), (.int .i64 x155.2.2.2.2.2.2.1)] fun h33 =>
  Ld h33 (Addr.add (⟨r19, 0, none⟩) 1) (.int .i64) fun (x157 : Int) =>
  cond (x157 != ((0 : Int)))
  (Ld h33 (Addr.add (⟨r7, 0, none⟩) 0) .sl fun (x161 : Sl) =>
  Ix x161 s_3.1 1 fun a163 =>
  Ld h33 a163 .mp fun (x164 : Option Nat) =>
  Ld h33 (Addr.add (⟨r19, 0, none⟩) 1) (.int .i64) fun (x166 : Int) =>
  Look h33 x164 (.int .i64) (.int .i64 x166) (.one (.int .i64)) ((0 : Int)) fun (x167 : Int) _ =>
  Ld h33 (Addr.add (⟨r9, 0, none⟩) 0) .sl fun (x170 : Sl) =>
  Ix x170 s_3.1 1 fun a172 =>
  Ld h33 a172 .mp fun (x173 : Option Nat) =>
  Ld h33 (Addr.add (⟨r19, 0, none⟩) 1) (.int .i64) fun (x175 : Int) =>
  Look h33 x173 (.int .i64) (.int .i64 x175) (.one .bool) false fun (x176 : Bool) _ =>
  Ld h33 (Addr.add (⟨r10, 0, none⟩) 0) .sl fun (x178 : Sl) =>
  Ix x178 s_3.1 1 fun a180 =>
  Ld h33 a180 .mp fun (x181 : Option Nat) =>
  Ld h33 (Addr.add (⟨r19, 0, none⟩) 1) (.int .i64) fun (x183 : Int) =>
  Look h33 x181 (.int .i64) (.int .i64 x183) (.one .bool) false fun (x184 : Bool) _ =>
  CallV Try.prog (.func (.func 12) ⟨[]⟩ ⟨[]⟩) [(.bool x176), (.bool x184)] h33 (.un (.one (.int .i64))) fun (x185 : Int) h34 =>
  Le h33 h34 ∧
  cond (x167 != x185)
  (Wk h34 fun h35 => R (.bool false) h35)
  (Wk h34 fun h36 => K_4 (IntKind.wrap .i64 (s_6.1 + ((1 : Int))), ()) h36))
  (Wk h33 fun h37 => K_4 (IntKind.wrap .i64 (s_6.1 + ((1 : Int))), ()) h37))
  (Wk h31 fun h38 => K_2 (IntKind.wrap .i64 (s_4.1 + ((1 : Int))), ()) h38))
  ((0 : Int), ()) h27))
  ((0 : Int), ()) h26)
  (Ld h24 (Addr.add (⟨r7, 0, none⟩) 2) .sl fun (x191 : Sl) =>
  Ix x191 s_3.1 1 fun a193 =>
  Ld h24 a193 (.int .i64) fun (x194 : Int) =>
  Ld h24 (Addr.add (⟨r10, 0, none⟩) 2) .sl fun (x197 : Sl) =>
  Ix x197 s_3.1 1 fun a199 =>
  Ld h24 a199 .bool fun (x200 : Bool) =>
  CallV Try.prog (.func (.func 12) ⟨[]⟩ ⟨[]⟩) [(.bool false), (.bool x200)] h24 (.un (.one (.int .i64))) fun (x201 : Int) h39 =>
  Le h24 h39 ∧
  cond (x194 != x201)
  (Wk h39 fun h40 => R (.bool false) h40)
  (Wk h39 fun h41 => K_1 (IntKind.wrap .i64 (s_3.1 + ((1 : Int))), ()) h41)))
  ((0 : Int), ()) h23)
  (Ld h21 (Addr.add (⟨r2, 0, none⟩) 0) .sl fun (x205 : Sl) =>
  Lp (σ := (Int × Unit)) (fun K_5 s_7 h42 =>
  cond (decide (s_7.1 < (((x205.n : Nat) : Int))))
  (Ld h42 (Addr.add (⟨r7, 0, none⟩) 1) .sl fun (x211 : Sl) =>
  Ix x211 s_7.1 1 fun a213 =>
  Ld h42 a213 (.int .i64) fun (x214 : Int) =>
  Ld h42 (Addr.add (⟨r10, 0, none⟩) 1) .sl fun (x217 : Sl) =>
  Ix x217 s_7.1 1 fun a219 =>
  Ld h42 a219 .bool fun (x220 : Bool) =>
  CallV Try.prog (.func (.func 12) ⟨[]⟩ ⟨[]⟩) [(.bool false), (.bool x220)] h42 (.un (.one (.int .i64))) fun (x221 : Int) h43 =>
  Le h42 h43 ∧
  cond (x214 != x221)
  (Wk h43 fun h44 => R (.bool false) h44)
  (Wk h43 fun h45 => K_5 (IntKind.wrap .i64 (s_7.1 + ((1 : Int))), ()) h45))
  (Wk h42 fun h46 => R (.bool true) h46))
  ((0 : Int), ()) h21))
  ((0 : Int), ()) h20) fun J_1 =>
  cond (x44.2.1 != ((0 : Int)))
  (Wk h11 fun h47 => R (.bool false) h47)
  (Ld h11 (Addr.add (⟨r7, 0, none⟩) 0) .sl fun (x62 : Sl) =>
  Ld h11 (Addr.add (⟨r2, 0, none⟩) 1) .sl fun (x65 : Sl) =>
  cond ((((x62.n : Nat) : Int)) != (((x65.n : Nat) : Int)))
  (Wk h11 fun h48 => R (.bool false) h48)
  (Ld h11 (Addr.add (⟨r7, 0, none⟩) 2) .sl fun (x71 : Sl) =>
  Ld h11 (Addr.add (⟨r2, 0, none⟩) 1) .sl fun (x74 : Sl) =>
  cond ((((x71.n : Nat) : Int)) != (((x74.n : Nat) : Int)))
  (Wk h11 fun h49 => R (.bool false) h49)
  (Ld h11 (Addr.add (⟨r7, 0, none⟩) 1) .sl fun (x80 : Sl) =>
  Ld h11 (Addr.add (⟨r2, 0, none⟩) 0) .sl fun (x83 : Sl) =>
  cond ((((x80.n : Nat) : Int)) != (((x83.n : Nat) : Int)))
  (Wk h11 fun h50 => R (.bool false) h50)
  (Ld h11 (Addr.add (⟨r7, 0, none⟩) 3) .sl fun (x89 : Sl) =>
  Ld h11 (Addr.add (⟨r2, 0, none⟩) 1) .sl fun (x92 : Sl) =>
  cond ((((x89.n : Nat) : Int)) != (((x92.n : Nat) : Int)))
  (Wk h11 fun h51 => R (.bool false) h51)
  (Wk h11 fun h52 => J_1 (()) h52))))))))
  ((0 : Int), ()) h4) fun J =>
  LdA h2 (⟨r2, 0, none⟩) [.sl, .sl, (.int .i64)] fun (x23 : ((Sl) × (Sl) × (Int) × Unit)) =>
  CallK Try.prog 8 [(.agg ⟨[(.slice x23.1.a x23.1.n x23.1.c), (.slice x23.2.1.a x23.2.1.n x23.2.1.c), (.int .i64 x23.2.2.1)]⟩)] h2 (.un (.one .bool)) fun (x24 : Bool) h53 =>
  cond (!x24)
  (Wk h53 fun h54 => R (.bool true) h54)
  (cond (decide ((((p1.n : Nat) : Int)) > ((6 : Int))))
  (Wk h53 fun h55 => R (.bool true) h55)
  (Wk h53 fun h56 => J (()) h56)))
theorem S3_eq (p0_0 : Sl) (p0_1 : Sl) (p0_2 : Int) (p1 : Sl) (h : V) (R : Value → V → Prop) : ABody Try.prog an3 Try.f3 [(.agg ⟨[(.slice p0_0.a p0_0.n p0_0.c), (.slice p0_1.a p0_1.n p0_1.c), (.int .i64 p0_2)]⟩), (.slice p1.a p1.n p1.c)] h R = S3 p0_0 p0_1 p0_2 p1 h R := by kernel_rfl
theorem S3_ok (p0_0 : Sl) (p0_1 : Sl) (p0_2 : Int) (p1 : Sl) (h : V) (R : Value → V → Prop) (hk : S3 p0_0 p0_1 p0_2 p1 h R) : ACalls Try.prog 3 [(.agg ⟨[(.slice p0_0.a p0_0.n p0_0.c), (.slice p0_1.a p0_1.n p0_1.c), (.int .i64 p0_2)]⟩), (.slice p1.a p1.n p1.c)] h R :=
  ABody_sound mixed Try.func3 Try.call3 (by kernel_rfl) (by kernel_rfl) (an := an3) (by rw [S3_eq]; exact hk)

/- palings/palingslaw12.TaintCuts -/
def an4 : An := (.two .nil (.two (.two .nil (.two (.two .nil .nil) .nil)) (.cut [] (.two .nil (.two (.two .nil .nil) .nil)) (.two (.two .nil (.one (.loop [(40, (.one (.int .i64)))] (.two .nil (.two (.two .nil .nil) (.two (.one (.two .nil (.two .nil (.two (.two .nil .nil) .nil)))) .nil)))))) (.two .nil (.two .nil (.two .nil (.two (.two .nil (.one (.loop [(11, (.one .sl)), (63, (.one (.int .i64)))] (.two .nil (.two (.two .nil .nil) (.two (.one (.two .nil (.two .nil (.cut [] (.two .nil (.one (.loop [(15, (.one (.int .i64)))] (.two (.two .nil (.two .nil .nil)) (.two (.one .nil) .nil))))) (.two (.two .nil (.two (.two .nil .nil) .nil)) .nil))))) .nil)))))) (.two .nil (.cut [] (.two .nil (.two (.two .nil .nil) .nil)) (.two (.two .nil (.one (.loop [(107, (.one (.int .i64)))] (.two .nil (.two (.two .nil .nil) (.two (.one (.two .nil (.two .nil (.one (.loop [(19, (.one (.int .i64)))] (.two (.two .nil (.two .nil .nil)) (.two (.one (.two .nil (.two .nil (.two .nil (.two .nil (.two (.two .nil .nil) .nil)))))) .nil))))))) .nil)))))) (.two .nil .nil))))))))))))
def S4 (p0_0 : Sl) (p0_1 : Sl) (p0_2 : Int) (p1 : Sl) (h : V) (R : Value → V → Prop) : Prop :=
  New h (.cells #[(.slice p0_0.a p0_0.n p0_0.c), (.slice p0_1.a p0_1.n p0_1.c), (.int .i64 p0_2)] 25) fun r2 h1 =>
  CallK Try.prog 7 [] h1 (.un (.one .bool)) fun (x23 : Bool) h2 =>
  cond (!x23)
  (Wk h2 fun h3 => R (.bool false) h3)
  (Cut (σ := (Unit)) (fun _ h4 =>
  Lp (σ := (Int × Unit)) (fun K s_1 h5 =>
  cond (decide (s_1.1 < (((p1.n : Nat) : Int))))
  (Ix p1 s_1.1 1 fun a42 =>
  Ld h5 a42 .mp fun (x43 : Option Nat) =>
  LenM h5 x43 fun x45 =>
  cond (decide (x45 > ((60 : Int))))
  (Wk h5 fun h6 => R (.bool true) h6)
  (Wk h5 fun h7 => K (IntKind.wrap .i64 (s_1.1 + ((1 : Int))), ()) h7))
  (LdA h5 (⟨r2, 0, none⟩) [.sl, .sl, (.int .i64)] fun (x49 : ((Sl) × (Sl) × (Int) × Unit)) =>
  CallK Try.prog 9 [(.agg ⟨[(.slice x49.1.a x49.1.n x49.1.c), (.slice x49.2.1.a x49.2.1.n x49.2.1.c), (.int .i64 x49.2.2.1)]⟩), (.slice none 0 0)] h5 (.tup [(.agg [.sl, .sl, .sl, .sl]), (.one (.int .i64))]) fun (x50 : (((Sl) × (Sl) × (Sl) × (Sl) × Unit) × Int × Unit)) h8 =>
  New h8 (.cells #[(.slice none 0 0), (.slice none 0 0), (.slice none 0 0), (.slice none 0 0)] 33) fun r7 h9 =>
  StL h9 (⟨r7, 0, none⟩) 0 [(.slice x50.1.1.a x50.1.1.n x50.1.1.c), (.slice x50.1.2.1.a x50.1.2.1.n x50.1.2.1.c), (.slice x50.1.2.2.1.a x50.1.2.2.1.n x50.1.2.2.1.c), (.slice x50.1.2.2.2.1.a x50.1.2.2.2.1.n x50.1.2.2.2.1.c)] fun h10 =>
  LdA h10 (⟨r2, 0, none⟩) [.sl, .sl, (.int .i64)] fun (x54 : ((Sl) × (Sl) × (Int) × Unit)) =>
  CallK Try.prog 9 [(.agg ⟨[(.slice x54.1.a x54.1.n x54.1.c), (.slice x54.2.1.a x54.2.1.n x54.2.1.c), (.int .i64 x54.2.2.1)]⟩), (.slice p1.a p1.n p1.c)] h10 (.tup [(.agg [.sl, .sl, .sl, .sl]), (.one (.int .i64))]) fun (x56 : (((Sl) × (Sl) × (Sl) × (Sl) × Unit) × Int × Unit)) h11 =>
  New h11 (.cells #[(.slice none 0 0), (.slice none 0 0), (.slice none 0 0), (.slice none 0 0)] 33) fun r9 h12 =>
  StL h12 (⟨r9, 0, none⟩) 0 [(.slice x56.1.1.a x56.1.1.n x56.1.1.c), (.slice x56.1.2.1.a x56.1.2.1.n x56.1.2.1.c), (.slice x56.1.2.2.1.a x56.1.2.2.1.n x56.1.2.2.1.c), (.slice x56.1.2.2.2.1.a x56.1.2.2.2.1.n x56.1.2.2.2.1.c)] fun h13 =>
  New h13 (.cells #[] 29) fun r59 h14 =>
  Ld h14 (Addr.add (⟨r2, 0, none⟩) 1) .sl fun (x61 : Sl) =>
  Lp (σ := (Sl × Int × Unit)) (fun K_1 s_2 h15 =>
  cond (decide (s_2.2.1 < (((x61.n : Nat) : Int))))
  (Ix x61 s_2.2.1 2 fun a65 =>
  LdA h15 a65 [.str, .sl] fun (x66 : ((ByteArray) × (Sl) × Unit)) =>
  New h15 (.cells #[(.string (⟨#[]⟩)), (.slice none 0 0)] 46) fun r13 h16 =>
  StL h16 (⟨r13, 0, none⟩) 0 [(.string x66.1), (.slice x66.2.1.a x66.2.1.n x66.2.1.c)] fun h17 =>
  New h17 (.map #[] 0) fun r67 h18 =>
  Cut (σ := (Unit)) (fun _ h19 =>
  LdA h19 (⟨r13, 0, none⟩) [.str, .sl] fun (x80 : ((ByteArray) × (Sl) × Unit)) =>
  CallK Try.prog 13 [(.agg ⟨[(.string x80.1), (.slice x80.2.1.a x80.2.1.n x80.2.1.c)]⟩)] h19 (.un (.one (.int .i64))) fun (x81 : Int) h20 =>
  cond (decide (x81 ≥ ((1000 : Int))))
  (Wk h20 fun h21 => R (.bool true) h21)
  (New h20 (.cells #[(.map ((some r67)))] 29) fun r85 h22 =>
  App h22 s_2.1 ⟨(some ⟨r85, 0, none⟩), 1, 1⟩ 29 1 8 [(.map none)] fun s86 h23 =>
  Wk h23 fun h24 => K_1 (s86, IntKind.wrap .i64 (s_2.2.1 + ((1 : Int))), ()) h24)) fun J_1 =>
  Lp (σ := (Int × Unit)) (fun K_2 s_4 h25 =>
  LdA h25 (⟨r13, 0, none⟩) [.str, .sl] fun (x69 : ((ByteArray) × (Sl) × Unit)) =>
  CallK Try.prog 13 [(.agg ⟨[(.string x69.1), (.slice x69.2.1.a x69.2.1.n x69.2.1.c)]⟩)] h25 (.un (.one (.int .i64))) fun (x70 : Int) h26 =>
  cond (decide (s_4.1 ≤ x70))
  (cond (decide (s_4.1 < ((1000 : Int))))
  (MUpd h26 ((some r67)) (.int .i64) (.int .i64 s_4.1) (.bool true) fun h27 =>
  Wk h27 fun h28 => K_2 (IntKind.wrap .i64 (s_4.1 + ((1 : Int))), ()) h28)
  (Wk h26 fun h29 => J_1 (()) h29))
  (Wk h26 fun h30 => J_1 (()) h30))
  ((1 : Int), ()) h18)
  (LdA h15 (⟨r2, 0, none⟩) [.sl, .sl, (.int .i64)] fun (x89 : ((Sl) × (Sl) × (Int) × Unit)) =>
  CallK Try.prog 9 [(.agg ⟨[(.slice x89.1.a x89.1.n x89.1.c), (.slice x89.2.1.a x89.2.1.n x89.2.1.c), (.int .i64 x89.2.2.1)]⟩), (.slice s_2.1.a s_2.1.n s_2.1.c)] h15 (.tup [(.agg [.sl, .sl, .sl, .sl]), (.one (.int .i64))]) fun (x91 : (((Sl) × (Sl) × (Sl) × (Sl) × Unit) × Int × Unit)) h31 =>
  New h31 (.cells #[(.slice none 0 0), (.slice none 0 0), (.slice none 0 0), (.slice none 0 0)] 33) fun r16 h32 =>
  StL h32 (⟨r16, 0, none⟩) 0 [(.slice x91.1.1.a x91.1.1.n x91.1.1.c), (.slice x91.1.2.1.a x91.1.2.1.n x91.1.2.1.c), (.slice x91.1.2.2.1.a x91.1.2.2.1.n x91.1.2.2.1.c), (.slice x91.1.2.2.2.1.a x91.1.2.2.2.1.n x91.1.2.2.2.1.c)] fun h33 =>
  Cut (σ := (Unit)) (fun _ h34 =>
  Ld h34 (Addr.add (⟨r2, 0, none⟩) 1) .sl fun (x105 : Sl) =>
  Lp (σ := (Int × Unit)) (fun K_3 s_6 h35 =>
  cond (decide (s_6.1 < (((x105.n : Nat) : Int))))
  (Lp (σ := (Int × Unit)) (fun K_4 s_7 h36 =>
  Ld h36 (Addr.add (⟨r2, 0, none⟩) 1) .sl fun (x112 : Sl) =>
  Ix x112 s_6.1 2 fun a114 =>
  LdA h36 a114 [.str, .sl] fun (x115 : ((ByteArray) × (Sl) × Unit)) =>
  CallK Try.prog 13 [(.agg ⟨[(.string x115.1), (.slice x115.2.1.a x115.2.1.n x115.2.1.c)]⟩)] h36 (.un (.one (.int .i64))) fun (x116 : Int) h37 =>
  cond (decide (s_7.1 ≤ x116))
  (Ld h37 (Addr.add (⟨r7, 0, none⟩) 0) .sl fun (x121 : Sl) =>
  Ix x121 s_6.1 1 fun a123 =>
  Ld h37 a123 .mp fun (x124 : Option Nat) =>
  Look h37 x124 (.int .i64) (.int .i64 s_7.1) (.one (.int .i64)) ((0 : Int)) fun (x126 : Int) _ =>
  Ld h37 (Addr.add (⟨r9, 0, none⟩) 0) .sl fun (x128 : Sl) =>
  Ix x128 s_6.1 1 fun a130 =>
  Ld h37 a130 .mp fun (x131 : Option Nat) =>
  Look h37 x131 (.int .i64) (.int .i64 s_7.1) (.one (.int .i64)) ((0 : Int)) fun (x133 : Int) _ =>
  Ld h37 (Addr.add (⟨r16, 0, none⟩) 0) .sl fun (x135 : Sl) =>
  Ix x135 s_6.1 1 fun a137 =>
  Ld h37 a137 .mp fun (x138 : Option Nat) =>
  Look h37 x138 (.int .i64) (.int .i64 s_7.1) (.one (.int .i64)) ((0 : Int)) fun (x140 : Int) _ =>
  cond (decide (x133 > x126))
  (Wk h37 fun h38 => R (.bool false) h38)
  (cond (decide (x140 > x133))
  (Wk h37 fun h39 => R (.bool false) h39)
  (cond (x140 == ((1 : Int)))
  (Wk h37 fun h40 => R (.bool false) h40)
  (cond (!((x126 == ((2 : Int))) == (x140 == ((2 : Int)))))
  (Wk h37 fun h41 => R (.bool false) h41)
  (cond (!((x133 == ((2 : Int))) == (x140 == ((2 : Int)))))
  (Wk h37 fun h42 => R (.bool false) h42)
  (Wk h37 fun h43 => K_4 (IntKind.wrap .i64 (s_7.1 + ((1 : Int))), ()) h43))))))
  (Wk h37 fun h44 => K_3 (IntKind.wrap .i64 (s_6.1 + ((1 : Int))), ()) h44))
  ((1 : Int), ()) h35)
  (Wk h35 fun h45 => R (.bool true) h45))
  ((0 : Int), ()) h34) fun J_2 =>
  cond (x50.2.1 != ((0 : Int)))
  (Wk h33 fun h46 => R (.bool false) h46)
  (cond (x56.2.1 != ((0 : Int)))
  (Wk h33 fun h47 => R (.bool false) h47)
  (cond (x91.2.1 != ((0 : Int)))
  (Wk h33 fun h48 => R (.bool false) h48)
  (Wk h33 fun h49 => J_2 (()) h49)))))
  (⟨(some ⟨r59, 0, none⟩), 0, 0⟩, (0 : Int), ()) h14))
  ((0 : Int), ()) h4) fun J =>
  LdA h2 (⟨r2, 0, none⟩) [.sl, .sl, (.int .i64)] fun (x25 : ((Sl) × (Sl) × (Int) × Unit)) =>
  CallK Try.prog 8 [(.agg ⟨[(.slice x25.1.a x25.1.n x25.1.c), (.slice x25.2.1.a x25.2.1.n x25.2.1.c), (.int .i64 x25.2.2.1)]⟩)] h2 (.un (.one .bool)) fun (x26 : Bool) h50 =>
  cond (!x26)
  (Wk h50 fun h51 => R (.bool true) h51)
  (LdA h50 (⟨r2, 0, none⟩) [.sl, .sl, (.int .i64)] fun (x29 : ((Sl) × (Sl) × (Int) × Unit)) =>
  CallK Try.prog 10 [(.agg ⟨[(.slice x29.1.a x29.1.n x29.1.c), (.slice x29.2.1.a x29.2.1.n x29.2.1.c), (.int .i64 x29.2.2.1)]⟩)] h50 (.un (.one (.int .i64))) fun (x30 : Int) h52 =>
  cond (x30 != ((0 : Int)))
  (Wk h52 fun h53 => R (.bool true) h53)
  (cond (decide ((((p1.n : Nat) : Int)) > ((6 : Int))))
  (Wk h52 fun h54 => R (.bool true) h54)
  (Wk h52 fun h55 => J (()) h55))))
theorem S4_eq (p0_0 : Sl) (p0_1 : Sl) (p0_2 : Int) (p1 : Sl) (h : V) (R : Value → V → Prop) : ABody Try.prog an4 Try.f4 [(.agg ⟨[(.slice p0_0.a p0_0.n p0_0.c), (.slice p0_1.a p0_1.n p0_1.c), (.int .i64 p0_2)]⟩), (.slice p1.a p1.n p1.c)] h R = S4 p0_0 p0_1 p0_2 p1 h R := by kernel_rfl
theorem S4_ok (p0_0 : Sl) (p0_1 : Sl) (p0_2 : Int) (p1 : Sl) (h : V) (R : Value → V → Prop) (hk : S4 p0_0 p0_1 p0_2 p1 h R) : ACalls Try.prog 4 [(.agg ⟨[(.slice p0_0.a p0_0.n p0_0.c), (.slice p0_1.a p0_1.n p0_1.c), (.int .i64 p0_2)]⟩), (.slice p1.a p1.n p1.c)] h R :=
  ABody_sound mixed Try.func4 Try.call4 (by kernel_rfl) (by kernel_rfl) (an := an4) (by rw [S4_eq]; exact hk)

/- palings/palingslaw12.TaintPlain -/
def an5 : An := (.two .nil (.two (.two .nil (.two (.two .nil .nil) .nil)) (.cut [] (.two .nil (.two (.two .nil .nil) .nil)) (.two .nil (.two (.two .nil (.one (.loop [(34, (.one (.int .i64)))] (.two .nil (.two (.two .nil .nil) (.two (.one (.two .nil .nil)) .nil)))))) (.two .nil (.two (.two .nil (.two (.two .nil .nil) .nil)) (.two .nil (.two (.two .nil (.one (.loop [(7, (.one .bool)), (53, (.one (.int .i64)))] (.two .nil (.two (.two .nil .nil) (.two (.one (.two .nil (.two .nil (.one (.loop [(7, (.one .bool)), (60, (.one (.int .i64)))] (.two .nil (.two (.two .nil .nil) (.two (.one (.two .nil (.two .nil (.one (.loop [(7, (.one .bool)), (67, (.one (.int .i64)))] (.two .nil (.two (.two .nil .nil) (.two (.one (.two .nil .nil)) .nil)))))))) .nil)))))))) .nil)))))) (.two (.two .nil (.one (.loop [(88, (.one (.int .i64)))] (.two .nil (.two (.two .nil .nil) (.two (.one (.two .nil (.two (.two .nil (.one (.loop [] (.two .nil (.two (.two .nil .nil) (.one (.two .nil (.two .nil (.two (.two .nil .nil) .nil))))))))) (.two .nil (.two (.two .nil .nil) .nil))))) .nil)))))) (.two (.two .nil (.one (.loop [(121, (.one (.int .i64)))] (.two .nil (.two (.two .nil .nil) (.two (.one (.two .nil (.two .nil (.two (.two .nil .nil) .nil)))) .nil)))))) (.two .nil .nil))))))))))))
def S5 (p0_0 : Sl) (p0_1 : Sl) (p0_2 : Int) (h : V) (R : Value → V → Prop) : Prop :=
  New h (.cells #[(.slice p0_0.a p0_0.n p0_0.c), (.slice p0_1.a p0_1.n p0_1.c), (.int .i64 p0_2)] 25) fun r1 h1 =>
  CallK Try.prog 7 [] h1 (.un (.one .bool)) fun (x19 : Bool) h2 =>
  cond (!x19)
  (Wk h2 fun h3 => R (.bool false) h3)
  (Cut (σ := (Unit)) (fun _ h4 =>
  LdA h4 (⟨r1, 0, none⟩) [.sl, .sl, (.int .i64)] fun (x29 : ((Sl) × (Sl) × (Int) × Unit)) =>
  CallK Try.prog 14 [(.agg ⟨[(.slice x29.1.a x29.1.n x29.1.c), (.slice x29.2.1.a x29.2.1.n x29.2.1.c), (.int .i64 x29.2.2.1)]⟩)] h4 (.un (.agg [.sl, .sl, (.int .i64)])) fun (x30 : ((Sl) × (Sl) × (Int) × Unit)) h5 =>
  New h5 (.cells #[(.slice none 0 0), (.slice none 0 0), (.int .i64 ((0 : Int)))] 25) fun r3 h6 =>
  StL h6 (⟨r3, 0, none⟩) 0 [(.slice x30.1.a x30.1.n x30.1.c), (.slice x30.2.1.a x30.2.1.n x30.2.1.c), (.int .i64 x30.2.2.1)] fun h7 =>
  Ld h7 (Addr.add (⟨r3, 0, none⟩) 0) .sl fun (x32 : Sl) =>
  Lp (σ := (Int × Unit)) (fun K s_1 h8 =>
  cond (decide (s_1.1 < (((x32.n : Nat) : Int))))
  (Ld h8 (Addr.add (⟨r3, 0, none⟩) 0) .sl fun (x38 : Sl) =>
  Ix x38 s_1.1 3 fun a40 =>
  StL h8 (Addr.add a40 1) 0 [(.int .i64 ((1 : Int)))] fun h9 =>
  Wk h9 fun h10 => K (IntKind.wrap .i64 (s_1.1 + ((1 : Int))), ()) h10)
  (LdA h8 (⟨r3, 0, none⟩) [.sl, .sl, (.int .i64)] fun (x44 : ((Sl) × (Sl) × (Int) × Unit)) =>
  CallK Try.prog 9 [(.agg ⟨[(.slice x44.1.a x44.1.n x44.1.c), (.slice x44.2.1.a x44.2.1.n x44.2.1.c), (.int .i64 x44.2.2.1)]⟩), (.slice none 0 0)] h8 (.tup [(.agg [.sl, .sl, .sl, .sl]), (.one (.int .i64))]) fun (x45 : (((Sl) × (Sl) × (Sl) × (Sl) × Unit) × Int × Unit)) h11 =>
  New h11 (.cells #[(.slice none 0 0), (.slice none 0 0), (.slice none 0 0), (.slice none 0 0)] 33) fun r5 h12 =>
  StL h12 (⟨r5, 0, none⟩) 0 [(.slice x45.1.1.a x45.1.1.n x45.1.1.c), (.slice x45.1.2.1.a x45.1.2.1.n x45.1.2.1.c), (.slice x45.1.2.2.1.a x45.1.2.2.1.n x45.1.2.2.1.c), (.slice x45.1.2.2.2.1.a x45.1.2.2.2.1.n x45.1.2.2.2.1.c)] fun h13 =>
  cond (x45.2.1 != ((0 : Int)))
  (Wk h13 fun h14 => R (.bool false) h14)
  (Ld h13 (Addr.add (⟨r3, 0, none⟩) 1) .sl fun (x51 : Sl) =>
  Lp (σ := (Bool × Int × Unit)) (fun K_1 s_2 h15 =>
  cond (decide (s_2.2.1 < (((x51.n : Nat) : Int))))
  (Ix x51 s_2.2.1 2 fun a55 =>
  LdA h15 a55 [.str, .sl] fun (x56 : ((ByteArray) × (Sl) × Unit)) =>
  New h15 (.cells #[(.string (⟨#[]⟩)), (.slice none 0 0)] 46) fun r9 h16 =>
  StL h16 (⟨r9, 0, none⟩) 0 [(.string x56.1), (.slice x56.2.1.a x56.2.1.n x56.2.1.c)] fun h17 =>
  Ld h17 (Addr.add (⟨r9, 0, none⟩) 1) .sl fun (x58 : Sl) =>
  Lp (σ := (Bool × Int × Unit)) (fun K_2 s_3 h18 =>
  cond (decide (s_3.2.1 < (((x58.n : Nat) : Int))))
  (Ix x58 s_3.2.1 6 fun a62 =>
  LdA h18 a62 [.sl, .sl, (.int .i64), (.int .i64), .sl, (.int .i64)] fun (x63 : ((Sl) × (Sl) × (Int) × (Int) × (Sl) × (Int) × Unit)) =>
  New h18 (.cells #[(.slice none 0 0), (.slice none 0 0), (.int .i64 ((0 : Int))), (.int .i64 ((0 : Int))), (.slice none 0 0), (.int .i64 ((0 : Int)))] 55) fun r11 h19 =>
  StL h19 (⟨r11, 0, none⟩) 0 [(.slice x63.1.a x63.1.n x63.1.c), (.slice x63.2.1.a x63.2.1.n x63.2.1.c), (.int .i64 x63.2.2.1), (.int .i64 x63.2.2.2.1), (.slice x63.2.2.2.2.1.a x63.2.2.2.2.1.n x63.2.2.2.2.1.c), (.int .i64 x63.2.2.2.2.2.1)] fun h20 =>
  Ld h20 (Addr.add (⟨r11, 0, none⟩) 1) .sl fun (x65 : Sl) =>
  Lp (σ := (Bool × Int × Unit)) (fun K_3 s_4 h21 =>
  cond (decide (s_4.2.1 < (((x65.n : Nat) : Int))))
  (Ix x65 s_4.2.1 7 fun a69 =>
  LdA h21 a69 [(.int .i64), (.int .i64), .sl, (.int .i64), (.int .i64), (.int .i64), (.int .i64)] fun (x70 : ((Int) × (Int) × (Sl) × (Int) × (Int) × (Int) × (Int) × Unit)) =>
  New h21 (.cells #[(.int .i64 ((0 : Int))), (.int .i64 ((0 : Int))), (.slice none 0 0), (.int .i64 ((0 : Int))), (.int .i64 ((0 : Int))), (.int .i64 ((0 : Int))), (.int .i64 ((0 : Int)))] 60) fun r13 h22 =>
  StL h22 (⟨r13, 0, none⟩) 0 [(.int .i64 x70.1), (.int .i64 x70.2.1), (.slice x70.2.2.1.a x70.2.2.1.n x70.2.2.1.c), (.int .i64 x70.2.2.2.1), (.int .i64 x70.2.2.2.2.1), (.int .i64 x70.2.2.2.2.2.1), (.int .i64 x70.2.2.2.2.2.2.1)] fun h23 =>
  cond s_4.1
  (Wk h23 fun h24 => K_3 (true, IntKind.wrap .i64 (s_4.2.1 + ((1 : Int))), ()) h24)
  (Ld h23 (Addr.add (⟨r13, 0, none⟩) 0) (.int .i64) fun (x74 : Int) =>
  cond (x74 == ((5 : Int)))
  (Wk h23 fun h25 => K_3 (true, IntKind.wrap .i64 (s_4.2.1 + ((1 : Int))), ()) h25)
  (Ld h23 (Addr.add (⟨r13, 0, none⟩) 0) (.int .i64) fun (x79 : Int) =>
  Wk h23 fun h26 => K_3 (x79 == ((3 : Int)), IntKind.wrap .i64 (s_4.2.1 + ((1 : Int))), ()) h26)))
  (Wk h21 fun h27 => K_2 (s_4.1, IntKind.wrap .i64 (s_3.2.1 + ((1 : Int))), ()) h27))
  (s_3.1, (0 : Int), ()) h20)
  (Wk h18 fun h28 => K_1 (s_3.1, IntKind.wrap .i64 (s_2.2.1 + ((1 : Int))), ()) h28))
  (s_2.1, (0 : Int), ()) h17)
  (Ld h15 (Addr.add (⟨r3, 0, none⟩) 1) .sl fun (x86 : Sl) =>
  Lp (σ := (Int × Unit)) (fun K_4 s_5 h29 =>
  cond (decide (s_5.1 < (((x86.n : Nat) : Int))))
  (Ld h29 (Addr.add (⟨r5, 0, none⟩) 0) .sl fun (x92 : Sl) =>
  Ix x92 s_5.1 1 fun a94 =>
  Ld h29 a94 .mp fun (x95 : Option Nat) =>
  Rng h29 x95 fun r96 h30 =>
  Lp (σ := (Unit)) (fun K_5 _ h31 =>
  Nxt h31 r96 (fun _ _ h32 =>
  Ent h32 r96 fun _ v99 =>
  unK (.int .i64) v99 fun (x100 : Int) =>
  cond (x100 == ((2 : Int)))
  (Wk h32 fun h33 => R (.bool false) h33)
  (cond (x100 == ((1 : Int)))
  (cond (!s_2.1)
  (Wk h32 fun h34 => R (.bool false) h34)
  (Wk h32 fun h35 => K_5 (()) h35))
  (Wk h32 fun h36 => K_5 (()) h36)))
  (Ld h31 (Addr.add (⟨r5, 0, none⟩) 2) .sl fun (x112 : Sl) =>
  Ix x112 s_5.1 1 fun a114 =>
  Ld h31 a114 (.int .i64) fun (x115 : Int) =>
  cond (x115 != ((0 : Int)))
  (Wk h31 fun h37 => R (.bool false) h37)
  (Wk h31 fun h38 => K_4 (IntKind.wrap .i64 (s_5.1 + ((1 : Int))), ()) h38)))
  (()) h30)
  (Ld h29 (Addr.add (⟨r5, 0, none⟩) 1) .sl fun (x119 : Sl) =>
  Lp (σ := (Int × Unit)) (fun K_6 s_7 h39 =>
  cond (decide (s_7.1 < (((x119.n : Nat) : Int))))
  (Ix x119 s_7.1 1 fun a123 =>
  Ld h39 a123 (.int .i64) fun (x124 : Int) =>
  cond (x124 != ((0 : Int)))
  (Wk h39 fun h40 => R (.bool false) h40)
  (Wk h39 fun h41 => K_6 (IntKind.wrap .i64 (s_7.1 + ((1 : Int))), ()) h41))
  (Wk h39 fun h42 => R (.bool true) h42))
  ((0 : Int), ()) h29))
  ((0 : Int), ()) h15))
  (false, (0 : Int), ()) h13)))
  ((0 : Int), ()) h7) fun J =>
  LdA h2 (⟨r1, 0, none⟩) [.sl, .sl, (.int .i64)] fun (x21 : ((Sl) × (Sl) × (Int) × Unit)) =>
  CallK Try.prog 8 [(.agg ⟨[(.slice x21.1.a x21.1.n x21.1.c), (.slice x21.2.1.a x21.2.1.n x21.2.1.c), (.int .i64 x21.2.2.1)]⟩)] h2 (.un (.one .bool)) fun (x22 : Bool) h43 =>
  cond (!x22)
  (Wk h43 fun h44 => R (.bool true) h44)
  (LdA h43 (⟨r1, 0, none⟩) [.sl, .sl, (.int .i64)] fun (x25 : ((Sl) × (Sl) × (Int) × Unit)) =>
  CallK Try.prog 10 [(.agg ⟨[(.slice x25.1.a x25.1.n x25.1.c), (.slice x25.2.1.a x25.2.1.n x25.2.1.c), (.int .i64 x25.2.2.1)]⟩)] h43 (.un (.one (.int .i64))) fun (x26 : Int) h45 =>
  cond (x26 != ((0 : Int)))
  (Wk h45 fun h46 => R (.bool true) h46)
  (Wk h45 fun h47 => J (()) h47)))
theorem S5_eq (p0_0 : Sl) (p0_1 : Sl) (p0_2 : Int) (h : V) (R : Value → V → Prop) : ABody Try.prog an5 Try.f5 [(.agg ⟨[(.slice p0_0.a p0_0.n p0_0.c), (.slice p0_1.a p0_1.n p0_1.c), (.int .i64 p0_2)]⟩)] h R = S5 p0_0 p0_1 p0_2 h R := by kernel_rfl
theorem S5_ok (p0_0 : Sl) (p0_1 : Sl) (p0_2 : Int) (h : V) (R : Value → V → Prop) (hk : S5 p0_0 p0_1 p0_2 h R) : ACalls Try.prog 5 [(.agg ⟨[(.slice p0_0.a p0_0.n p0_0.c), (.slice p0_1.a p0_1.n p0_1.c), (.int .i64 p0_2)]⟩)] h R :=
  ABody_sound mixed Try.func5 Try.call5 (by kernel_rfl) (by kernel_rfl) (an := an5) (by rw [S5_eq]; exact hk)

/- palings/palingslaw12.TaintSinks -/
def an6 : An := (.two .nil (.two (.two .nil (.two (.two .nil .nil) .nil)) (.cut [] (.two .nil (.two (.two .nil .nil) .nil)) (.two (.two .nil (.one (.loop [(37, (.one (.int .i64)))] (.two .nil (.two (.two .nil .nil) (.two (.one (.two .nil (.two .nil (.two (.two .nil .nil) .nil)))) .nil)))))) (.two .nil (.two (.two .nil (.two (.two .nil .nil) .nil)) (.two .nil (.two (.two .nil (.one (.loop [(57, (.one (.int .i64)))] (.two .nil (.two (.two .nil .nil) (.two (.one (.two .nil (.two .nil (.one (.loop [(65, (.one (.int .i64)))] (.two .nil (.two (.two .nil .nil) (.two (.one (.two .nil (.two .nil (.two (.two .nil (.one (.loop [(74, (.one (.int .i64)))] (.two .nil (.two (.two .nil .nil) (.two (.one (.two .nil (.two .nil (.one (.cut [(81, (.one .bool))] .nil (.two (.cut [] (.two (.perm [0, 1, 2, 3, 4, 5, 6, 7, 8, 9, 10, 11, 12] []) (.two (.two .nil .nil) .nil)) .nil) (.cut [(110, (.one .bool))] .nil (.two (.cut [] (.two (.perm [0, 1, 2, 3, 4, 5, 6, 7, 8, 9, 10, 11, 12, 13, 14, 15, 16, 17, 18, 19, 20, 21, 22] []) (.two (.two .nil .nil) .nil)) (.two .nil .nil)) (.two .nil (.two (.two .nil .nil) .nil)))))))))) .nil)))))) (.two .nil (.two .nil .nil)))))) .nil)))))))) .nil)))))) (.two .nil (.two (.two .nil (.two (.two .nil .nil) .nil)) (.two (.two .nil (.one (.loop [(190, (.one (.int .i64)))] (.two .nil (.two (.two .nil .nil) (.two (.one (.two .nil (.two (.perm [0, 1, 2, 3, 4, 5, 6, 7, 8] []) (.two (.two .nil .nil) .nil)))) .nil)))))) (.two .nil .nil))))))))))))
def S6 (p0_0 : Sl) (p0_1 : Sl) (p0_2 : Int) (p1 : Sl) (h : V) (R : Value → V → Prop) : Prop :=
  New h (.cells #[(.slice p0_0.a p0_0.n p0_0.c), (.slice p0_1.a p0_1.n p0_1.c), (.int .i64 p0_2)] 25) fun r2 h1 =>
  CallK Try.prog 7 [] h1 (.un (.one .bool)) fun (x20 : Bool) h2 =>
  cond (!x20)
  (Wk h2 fun h3 => R (.bool false) h3)
  (Cut (σ := (Unit)) (fun _ h4 =>
  Lp (σ := (Int × Unit)) (fun K s_1 h5 =>
  cond (decide (s_1.1 < (((p1.n : Nat) : Int))))
  (Ix p1 s_1.1 1 fun a39 =>
  Ld h5 a39 .mp fun (x40 : Option Nat) =>
  LenM h5 x40 fun x42 =>
  cond (decide (x42 > ((60 : Int))))
  (Wk h5 fun h6 => R (.bool true) h6)
  (Wk h5 fun h7 => K (IntKind.wrap .i64 (s_1.1 + ((1 : Int))), ()) h7))
  (LdA h5 (⟨r2, 0, none⟩) [.sl, .sl, (.int .i64)] fun (x46 : ((Sl) × (Sl) × (Int) × Unit)) =>
  CallK Try.prog 9 [(.agg ⟨[(.slice x46.1.a x46.1.n x46.1.c), (.slice x46.2.1.a x46.2.1.n x46.2.1.c), (.int .i64 x46.2.2.1)]⟩), (.slice p1.a p1.n p1.c)] h5 (.tup [(.agg [.sl, .sl, .sl, .sl]), (.one (.int .i64))]) fun (x48 : (((Sl) × (Sl) × (Sl) × (Sl) × Unit) × Int × Unit)) h8 =>
  New h8 (.cells #[(.slice none 0 0), (.slice none 0 0), (.slice none 0 0), (.slice none 0 0)] 33) fun r7 h9 =>
  StL h9 (⟨r7, 0, none⟩) 0 [(.slice x48.1.1.a x48.1.1.n x48.1.1.c), (.slice x48.1.2.1.a x48.1.2.1.n x48.1.2.1.c), (.slice x48.1.2.2.1.a x48.1.2.2.1.n x48.1.2.2.1.c), (.slice x48.1.2.2.2.1.a x48.1.2.2.2.1.n x48.1.2.2.2.1.c)] fun h10 =>
  cond (x48.2.1 != ((0 : Int)))
  (Wk h10 fun h11 => R (.bool false) h11)
  (New h10 (.cells #[] 69) fun r53 h12 =>
  New h12 (.cells #[(.slice none 0 0)] 67) fun r9 h13 =>
  StL h13 (⟨r9, 0, none⟩) 0 [(.slice ((some ⟨r53, 0, none⟩)) 0 0)] fun h14 =>
  Ld h14 (Addr.add (⟨r2, 0, none⟩) 1) .sl fun (x55 : Sl) =>
  Lp (σ := (Int × Unit)) (fun K_1 s_2 h15 =>
  cond (decide (s_2.1 < (((x55.n : Nat) : Int))))
  (Ix x55 s_2.1 2 fun a60 =>
  LdA h15 a60 [.str, .sl] fun (x61 : ((ByteArray) × (Sl) × Unit)) =>
  New h15 (.cells #[(.int .i64 ((0 : Int)))] 3) fun r10 h16 =>
  New h16 (.cells #[(.string (⟨#[]⟩)), (.slice none 0 0)] 46) fun r11 h17 =>
  StL h17 (⟨r10, 0, none⟩) 0 [(.int .i64 s_2.1)] fun h18 =>
  StL h18 (⟨r11, 0, none⟩) 0 [(.string x61.1), (.slice x61.2.1.a x61.2.1.n x61.2.1.c)] fun h19 =>
  Ld h19 (Addr.add (⟨r11, 0, none⟩) 1) .sl fun (x63 : Sl) =>
  Lp (σ := (Int × Unit)) (fun K_2 s_3 h20 =>
  cond (decide (s_3.1 < (((x63.n : Nat) : Int))))
  (Ix x63 s_3.1 6 fun a68 =>
  LdA h20 a68 [.sl, .sl, (.int .i64), (.int .i64), .sl, (.int .i64)] fun (x69 : ((Sl) × (Sl) × (Int) × (Int) × (Sl) × (Int) × Unit)) =>
  New h20 (.cells #[(.int .i64 ((0 : Int)))] 3) fun r12 h21 =>
  New h21 (.cells #[(.slice none 0 0), (.slice none 0 0), (.int .i64 ((0 : Int))), (.int .i64 ((0 : Int))), (.slice none 0 0), (.int .i64 ((0 : Int)))] 55) fun r13 h22 =>
  StL h22 (⟨r12, 0, none⟩) 0 [(.int .i64 s_3.1)] fun h23 =>
  StL h23 (⟨r13, 0, none⟩) 0 [(.slice x69.1.a x69.1.n x69.1.c), (.slice x69.2.1.a x69.2.1.n x69.2.1.c), (.int .i64 x69.2.2.1), (.int .i64 x69.2.2.2.1), (.slice x69.2.2.2.2.1.a x69.2.2.2.2.1.n x69.2.2.2.2.1.c), (.int .i64 x69.2.2.2.2.2.1)] fun h24 =>
  Ld h24 (Addr.add (⟨r13, 0, none⟩) 1) .sl fun (x72 : Sl) =>
  Lp (σ := (Int × Unit)) (fun K_3 s_4 h25 =>
  cond (decide (s_4.1 < (((x72.n : Nat) : Int))))
  (Ix x72 s_4.1 7 fun a77 =>
  LdA h25 a77 [(.int .i64), (.int .i64), .sl, (.int .i64), (.int .i64), (.int .i64), (.int .i64)] fun (x78 : ((Int) × (Int) × (Sl) × (Int) × (Int) × (Int) × (Int) × Unit)) =>
  New h25 (.cells #[(.int .i64 ((0 : Int))), (.int .i64 ((0 : Int))), (.slice none 0 0), (.int .i64 ((0 : Int))), (.int .i64 ((0 : Int))), (.int .i64 ((0 : Int))), (.int .i64 ((0 : Int)))] 60) fun r16 h26 =>
  StL h26 (⟨r16, 0, none⟩) 0 [(.int .i64 x78.1), (.int .i64 x78.2.1), (.slice x78.2.2.1.a x78.2.2.1.n x78.2.2.1.c), (.int .i64 x78.2.2.2.1), (.int .i64 x78.2.2.2.2.1), (.int .i64 x78.2.2.2.2.2.1), (.int .i64 x78.2.2.2.2.2.2.1)] fun h27 =>
  LdA h27 (⟨r16, 0, none⟩) [(.int .i64), (.int .i64), .sl, (.int .i64), (.int .i64), (.int .i64), (.int .i64)] fun (x79 : ((Int) × (Int) × (Sl) × (Int) × (Int) × (Int) × (Int) × Unit)) =>
  CallK Try.prog 16 [(.agg ⟨[(.int .i64 x79.1), (.int .i64 x79.2.1), (.slice x79.2.2.1.a x79.2.2.1.n x79.2.2.1.c), (.int .i64 x79.2.2.2.1), (.int .i64 x79.2.2.2.2.1), (.int .i64 x79.2.2.2.2.2.1), (.int .i64 x79.2.2.2.2.2.2.1)]⟩)] h27 (.un (.one .sl)) fun (x80 : Sl) h28 =>
  Cut (σ := (Bool × Unit)) (fun s_5 h29 =>
  cond s_5.1
  (Cut (σ := (Unit)) (fun _ h30 =>
  Ld h30 (Addr.add (⟨r16, 0, none⟩) 2) .sl fun (x106 : Sl) =>
  Ix x106 ((0 : Int)) 1 fun a107 =>
  Ld h30 a107 (.int .i64) fun (x108 : Int) =>
  CallV Try.prog (.func (.func 15) ⟨[]⟩ ⟨[(.pointer (some (⟨r7, 0, none⟩))), (.pointer (some (⟨r10, 0, none⟩))), (.pointer (some (⟨r9, 0, none⟩))), (.pointer (some (⟨r12, 0, none⟩)))]⟩) [(.int .i64 s_4.1), (.int .i64 x108)] h30 (.tup []) fun (_ : (Unit)) h31 =>
  Wk h31 fun h32 => K_3 (IntKind.wrap .i64 (s_4.1 + ((1 : Int))), ()) h32) fun J_2 =>
  cond ((((x80.n : Nat) : Int)) != ((1 : Int)))
  (Wk h29 fun h33 => R (.bool false) h33)
  (Ix x80 ((0 : Int)) 1 fun a95 =>
  Ld h29 a95 (.int .i64) fun (x96 : Int) =>
  Ld h29 (Addr.add (⟨r16, 0, none⟩) 2) .sl fun (x98 : Sl) =>
  Ix x98 ((0 : Int)) 1 fun a99 =>
  Ld h29 a99 (.int .i64) fun (x100 : Int) =>
  cond (x96 != x100)
  (Wk h29 fun h34 => R (.bool false) h34)
  (Wk h29 fun h35 => J_2 (()) h35)))
  (Cut (σ := (Bool × Unit)) (fun s_7 h36 =>
  cond s_7.1
  (Cut (σ := (Unit)) (fun _ h37 =>
  Ld h37 (Addr.add (⟨r16, 0, none⟩) 2) .sl fun (x150 : Sl) =>
  Ix x150 ((0 : Int)) 1 fun a151 =>
  Ld h37 a151 (.int .i64) fun (x152 : Int) =>
  CallV Try.prog (.func (.func 15) ⟨[]⟩ ⟨[(.pointer (some (⟨r7, 0, none⟩))), (.pointer (some (⟨r10, 0, none⟩))), (.pointer (some (⟨r9, 0, none⟩))), (.pointer (some (⟨r12, 0, none⟩)))]⟩) [(.int .i64 s_4.1), (.int .i64 x152)] h37 (.tup []) fun (_ : (Unit)) h38 =>
  Ld h38 (Addr.add (⟨r16, 0, none⟩) 2) .sl fun (x157 : Sl) =>
  Ix x157 ((1 : Int)) 1 fun a158 =>
  Ld h38 a158 (.int .i64) fun (x159 : Int) =>
  CallV Try.prog (.func (.func 15) ⟨[]⟩ ⟨[(.pointer (some (⟨r7, 0, none⟩))), (.pointer (some (⟨r10, 0, none⟩))), (.pointer (some (⟨r9, 0, none⟩))), (.pointer (some (⟨r12, 0, none⟩)))]⟩) [(.int .i64 s_4.1), (.int .i64 x159)] h38 (.tup []) fun (_ : (Unit)) h39 =>
  Wk h39 fun h40 => K_3 (IntKind.wrap .i64 (s_4.1 + ((1 : Int))), ()) h40) fun J_4 =>
  cond ((((x80.n : Nat) : Int)) != ((2 : Int)))
  (Wk h36 fun h41 => R (.bool false) h41)
  (Ix x80 ((0 : Int)) 1 fun a129 =>
  Ld h36 a129 (.int .i64) fun (x130 : Int) =>
  Ld h36 (Addr.add (⟨r16, 0, none⟩) 2) .sl fun (x132 : Sl) =>
  Ix x132 ((0 : Int)) 1 fun a133 =>
  Ld h36 a133 (.int .i64) fun (x134 : Int) =>
  cond (x130 != x134)
  (Wk h36 fun h42 => R (.bool false) h42)
  (Ix x80 ((1 : Int)) 1 fun a139 =>
  Ld h36 a139 (.int .i64) fun (x140 : Int) =>
  Ld h36 (Addr.add (⟨r16, 0, none⟩) 2) .sl fun (x142 : Sl) =>
  Ix x142 ((1 : Int)) 1 fun a143 =>
  Ld h36 a143 (.int .i64) fun (x144 : Int) =>
  cond (x140 != x144)
  (Wk h36 fun h43 => R (.bool false) h43)
  (Wk h36 fun h44 => J_4 (()) h44))))
  (cond ((((x80.n : Nat) : Int)) != ((0 : Int)))
  (Wk h36 fun h45 => R (.bool false) h45)
  (Wk h36 fun h46 => K_3 (IntKind.wrap .i64 (s_4.1 + ((1 : Int))), ()) h46))) fun J_3 =>
  Ld h29 (Addr.add (⟨r16, 0, none⟩) 0) (.int .i64) fun (x112 : Int) =>
  cond (x112 == ((2 : Int)))
  (Ld h29 (Addr.add (⟨r16, 0, none⟩) 4) (.int .i64) fun (x116 : Int) =>
  cond (x116 == ((4 : Int)))
  (Wk h29 fun h47 => J_3 (true, ()) h47)
  (Ld h29 (Addr.add (⟨r16, 0, none⟩) 4) (.int .i64) fun (x120 : Int) =>
  Wk h29 fun h48 => J_3 (x120 == ((5 : Int)), ()) h48))
  (Wk h29 fun h49 => J_3 (false, ()) h49))) fun J_1 =>
  Ld h28 (Addr.add (⟨r16, 0, none⟩) 0) (.int .i64) fun (x83 : Int) =>
  cond (x83 == ((5 : Int)))
  (Wk h28 fun h50 => J_1 (true, ()) h50)
  (Ld h28 (Addr.add (⟨r16, 0, none⟩) 0) (.int .i64) fun (x87 : Int) =>
  Wk h28 fun h51 => J_1 (x87 == ((6 : Int)), ()) h51))
  (Ld h25 (Addr.add (Addr.add (⟨r13, 0, none⟩) 2) 0) (.int .i64) fun (x168 : Int) =>
  cond (x168 == ((2 : Int)))
  (Ld h25 (Addr.add (⟨r13, 0, none⟩) 1) .sl fun (x172 : Sl) =>
  Ld h25 (Addr.add (Addr.add (⟨r13, 0, none⟩) 2) 1) (.int .i64) fun (x176 : Int) =>
  CallV Try.prog (.func (.func 15) ⟨[]⟩ ⟨[(.pointer (some (⟨r7, 0, none⟩))), (.pointer (some (⟨r10, 0, none⟩))), (.pointer (some (⟨r9, 0, none⟩))), (.pointer (some (⟨r12, 0, none⟩)))]⟩) [(.int .i64 (((x172.n : Nat) : Int))), (.int .i64 x176)] h25 (.tup []) fun (_ : (Unit)) h52 =>
  Wk h52 fun h53 => K_2 (IntKind.wrap .i64 (s_3.1 + ((1 : Int))), ()) h53)
  (Wk h25 fun h54 => K_2 (IntKind.wrap .i64 (s_3.1 + ((1 : Int))), ()) h54)))
  ((0 : Int), ()) h24)
  (Wk h20 fun h55 => K_1 (IntKind.wrap .i64 (s_2.1 + ((1 : Int))), ()) h55))
  ((0 : Int), ()) h19)
  (LdA h15 (⟨r2, 0, none⟩) [.sl, .sl, (.int .i64)] fun (x180 : ((Sl) × (Sl) × (Int) × Unit)) =>
  LdA h15 (⟨r7, 0, none⟩) [.sl, .sl, .sl, .sl] fun (x181 : ((Sl) × (Sl) × (Sl) × (Sl) × Unit)) =>
  CallK Try.prog 17 [(.agg ⟨[(.slice x180.1.a x180.1.n x180.1.c), (.slice x180.2.1.a x180.2.1.n x180.2.1.c), (.int .i64 x180.2.2.1)]⟩), (.agg ⟨[(.slice x181.1.a x181.1.n x181.1.c), (.slice x181.2.1.a x181.2.1.n x181.2.1.c), (.slice x181.2.2.1.a x181.2.2.1.n x181.2.2.1.c), (.slice x181.2.2.2.1.a x181.2.2.2.1.n x181.2.2.2.1.c)]⟩)] h15 (.un (.one .sl)) fun (x182 : Sl) h56 =>
  Ld h56 (⟨r9, 0, none⟩) .sl fun (x185 : Sl) =>
  cond ((((x182.n : Nat) : Int)) != (((x185.n : Nat) : Int)))
  (Wk h56 fun h57 => R (.bool false) h57)
  (Lp (σ := (Int × Unit)) (fun K_4 s_9 h58 =>
  cond (decide (s_9.1 < (((x182.n : Nat) : Int))))
  (Ix x182 s_9.1 5 fun a195 =>
  LdA h58 a195 [(.int .i64), (.int .i64), (.int .i64), (.int .i64), (.int .i64)] fun (x196 : ((Int) × (Int) × (Int) × (Int) × (Int) × Unit)) =>
  Ld h58 (⟨r9, 0, none⟩) .sl fun (x197 : Sl) =>
  Ix x197 s_9.1 5 fun a199 =>
  LdA h58 a199 [(.int .i64), (.int .i64), (.int .i64), (.int .i64), (.int .i64)] fun (x200 : ((Int) × (Int) × (Int) × (Int) × (Int) × Unit)) =>
  cond (!((x196.1 == x200.1) && ((x196.2.1 == x200.2.1) && ((x196.2.2.1 == x200.2.2.1) && ((x196.2.2.2.1 == x200.2.2.2.1) && ((x196.2.2.2.2.1 == x200.2.2.2.2.1) && (true)))))))
  (Wk h58 fun h59 => R (.bool false) h59)
  (Wk h58 fun h60 => K_4 (IntKind.wrap .i64 (s_9.1 + ((1 : Int))), ()) h60))
  (Wk h58 fun h61 => R (.bool true) h61))
  ((0 : Int), ()) h56)))
  ((0 : Int), ()) h14)))
  ((0 : Int), ()) h4) fun J =>
  LdA h2 (⟨r2, 0, none⟩) [.sl, .sl, (.int .i64)] fun (x22 : ((Sl) × (Sl) × (Int) × Unit)) =>
  CallK Try.prog 8 [(.agg ⟨[(.slice x22.1.a x22.1.n x22.1.c), (.slice x22.2.1.a x22.2.1.n x22.2.1.c), (.int .i64 x22.2.2.1)]⟩)] h2 (.un (.one .bool)) fun (x23 : Bool) h62 =>
  cond (!x23)
  (Wk h62 fun h63 => R (.bool true) h63)
  (LdA h62 (⟨r2, 0, none⟩) [.sl, .sl, (.int .i64)] fun (x26 : ((Sl) × (Sl) × (Int) × Unit)) =>
  CallK Try.prog 10 [(.agg ⟨[(.slice x26.1.a x26.1.n x26.1.c), (.slice x26.2.1.a x26.2.1.n x26.2.1.c), (.int .i64 x26.2.2.1)]⟩)] h62 (.un (.one (.int .i64))) fun (x27 : Int) h64 =>
  cond (x27 != ((0 : Int)))
  (Wk h64 fun h65 => R (.bool true) h65)
  (cond (decide ((((p1.n : Nat) : Int)) > ((6 : Int))))
  (Wk h64 fun h66 => R (.bool true) h66)
  (Wk h64 fun h67 => J (()) h67))))
theorem S6_eq (p0_0 : Sl) (p0_1 : Sl) (p0_2 : Int) (p1 : Sl) (h : V) (R : Value → V → Prop) : ABody Try.prog an6 Try.f6 [(.agg ⟨[(.slice p0_0.a p0_0.n p0_0.c), (.slice p0_1.a p0_1.n p0_1.c), (.int .i64 p0_2)]⟩), (.slice p1.a p1.n p1.c)] h R = S6 p0_0 p0_1 p0_2 p1 h R := by kernel_rfl
theorem S6_ok (p0_0 : Sl) (p0_1 : Sl) (p0_2 : Int) (p1 : Sl) (h : V) (R : Value → V → Prop) (hk : S6 p0_0 p0_1 p0_2 p1 h R) : ACalls Try.prog 6 [(.agg ⟨[(.slice p0_0.a p0_0.n p0_0.c), (.slice p0_1.a p0_1.n p0_1.c), (.int .i64 p0_2)]⟩), (.slice p1.a p1.n p1.c)] h R :=
  ABody_sound mixed Try.func6 Try.call6 (by kernel_rfl) (by kernel_rfl) (an := an6) (by rw [S6_eq]; exact hk)

end Go.Proofs.Ytaefmhephoilmaa

/- TaintLeast: its walk. -/
namespace Go.Proofs.Ytaefmhephoilmaa
open Go Go.VL

theorem lenM_cutF {h : V} {q : Option Nat} {f : Int → Bool} {K : Int → Prop} (hq : cutQ h q f) (hK : ∀ n, K n) : LenM h q K := by
  cases q with
  | none => exact hK _
  | some r => obtain ⟨o, m, h1, h2, _⟩ := hq; exact LenM_map h1 h2 (hK _)
def roundsN (p : ProgD) : Nat := partsP p + p.arrays.length + 2
theorem c_high {h : V} {p : ProgD} {sa sf pc : Sl} {cutIn : List (Int → Bool)} {R : Value → V → Prop} (ha : isArrs h sa p.arrays) (hf : isFuncs h sf p.funcs) (hc : isSl repCut 1 h pc cutIn) (ok : CheckOk p) (few : FewOk p)
    (hR : ∀ h' sv sx sr, Le h h' → FactR (V.sub h' h) p sv sx sr (highB p (cutOf cutIn) (roundsN p)) → R (.agg ⟨[sV sv, sV sx, sV sr]⟩) h') : ACalls Try.prog 11 [.agg ⟨[sV sa, sV sf, iV p.main]⟩, sV pc, iV 2] h R :=
  from_body (stay := true) (D2 := fun _ => false) rfl ha hf hc ok few (fun e => by cases e) hR
theorem c_low {h : V} {p : ProgD} {sa sf pc : Sl} {cutIn : List (Int → Bool)} {R : Value → V → Prop} (ha : isArrs h sa p.arrays) (hf : isFuncs h sf p.funcs) (hc : isSl repCut 1 h pc cutIn) (ok : CheckOk p) (few : FewOk p)
    (hR : ∀ h' sv sx sr, Le h h' → FactR (V.sub h' h) p sv sx sr (lowB p (cutOf cutIn) (roundsN p)) → R (.agg ⟨[sV sv, sV sx, sV sr]⟩) h') : ACalls Try.prog 11 [.agg ⟨[sV sa, sV sf, iV p.main]⟩, sV pc, iV 1] h R :=
  from_body (stay := false) (D2 := highB p (cutOf cutIn) (roundsN p)) rfl ha hf hc ok few (fun _ {h' R'} l hR' => c_high (ha.le mono_arr l) (hf.le mono_func l) (hc.le mono_cut l) ok few hR') hR
theorem c_level {h : V} {a b : Bool} {R : Value → V → Prop} (hR : R (iV (levelB a b)) h) : ACalls Try.prog 12 [.bool a, .bool b] h R := by
  refine S12_ok _ _ _ _ (cond_b (fun (hb : b = true) => Wk_self ?_) (fun (hb : b = false) => cond_b (fun (ha : a = true) => Wk_self ?_) (fun (ha : a = false) => Wk_self ?_)))
  · rw [hb] at hR; exact hR
  · rw [hb, ha] at hR; exact hR
  · rw [hb, ha] at hR; exact hR
theorem LabW.valAt {h : V} {p : ProgD} {vs ar rs cs : Sl} {L : LabF} (w : LabW h p vs ar rs cs L) {k : Nat} (hk : k < p.funcs.length) {K : Option Nat → Prop} (hK : ∀ q, (∀ (v : Int) (KK : Int → Bool → Prop), (∀ b, KK (L (.val k v)) b) → Look h (some q) (.int .i64) (.int .i64 v) (.one (.int .i64)) (0 : Int) KK) → K (some q)) :
    Ix vs (k : Int) 1 fun a => Ld h a .mp K := by
  refine w.vals.ixn (by simpa using hk) fun a ⟨q, o, m, h1, h2, h3, h4⟩ => ⟨some q, h1, hK q fun v KK hKK => Look_map h2 h3 ?_⟩
  have := h4 v
  simp only [List.getElem_map, List.getElem_range] at this
  rw [this]; exact hKK _
theorem LabW.le' {h h' : V} {p : ProgD} {vs ar rs cs : Sl} {L : LabF} (w : LabW h p vs ar rs cs L) (l : Le h h') : LabW h' p vs ar rs cs L := ⟨w.vals.le mono_vals l, w.arrs.le mono_int l, w.rets.le mono_int l, w.cut⟩
set_option maxRecDepth 100000 in
theorem walk3 {h : V} {p : ProgD} {sa sf pc : Sl} {cutIn : List (Int → Bool)} (ha : isArrs h sa p.arrays) (hf : isFuncs h sf p.funcs) (hc : isSl repCut 1 h pc cutIn) :
    ACalls Try.prog 3 [.agg ⟨[sV sa, sV sf, iV p.main]⟩, sV pc] h (fun v h' => v = .bool true ∧ Le h h') := by
  refine S3_ok _ _ _ _ _ _ (New_box fun r2 h1 hr2 l1 b2 => c_head fun h2 l2 => ⟨true, rfl, cond_not (fun e => by cases e) (fun _ => ?_)⟩)
  have l02 := l1.trans l2
  have b2' := b2.le l2
  have T : ∀ {hh}, Le h hh → Wk hh fun h' => (Value.bool true = .bool true ∧ Le h h') := fun l => Wk_self ⟨rfl, l⟩
  have TB : ∀ {hh} {b : Bool}, Le h hh → b = true → Wk hh fun h' => (Value.bool b = .bool true ∧ Le h h') := fun {hh b} l e => Wk_self ⟨by rw [e], l⟩
  refine Cut_i (fun _ hh => h2 = hh ∧ FewOk p) (fun J hJ => ?_) ?_
  · refine ⟨(sa, sf, p.main, ()), b2'.cells, c_Few (ha.le mono_arr l02) (hf.le mono_func l02) fun b hb => ⟨b, rfl, cond_not (fun _ => T l02) (fun hy => cond_dec (fun _ => T l02) (fun _ => Wk_self (hJ _ _ ⟨rfl, hb hy⟩)))⟩⟩
  rintro _ _ ⟨rfl, few⟩
  refine Lp_count cutIn.length (fun k st hh => st = ((k : Int), ()) ∧ h2 = hh) ⟨rfl, rfl⟩ ?_
  rintro k _ _ K hk ⟨rfl, rfl⟩ hK
  refine cond_dec (fun hlt => ?_) (fun hge => ?_)
  · have hk' : k < cutIn.length := by have := hc.len; simp only at hlt; omega
    exact (hc.le mono_cut l02).ixn hk' fun a ⟨q, hq, hcq⟩ => ⟨q, hq, lenM_cutF hcq fun n => cond_dec (fun _ => T l02) (fun _ => Wk_self (hK _ _ hk' ⟨by rw [wnat hk' hc.bd], rfl⟩))⟩
  clear hK hge hk
  refine ⟨(sa, sf, p.main, ()), b2'.cells, ?_⟩
  refine c_Of (cutIn := cutIn) (ha.le mono_arr l02) (hf.le mono_func l02) (hc.le mono_cut l02) few (fun hn => ?_) fun ok h8 vs ar rs cs L l8 lab hL => ?_
  · refine ⟨((⟨none, 0, 0⟩, ⟨none, 0, 0⟩, ⟨none, 0, 0⟩, ⟨none, 0, 0⟩, ()), 40, ()), rfl, ?_⟩
    refine New_box fun r7 h9 hr7 l9 b7 => StL_box (h := h2) b7 rfl l9 hr7 fun h10 l10 b7' f10 => ?_
    have l010 := l02.trans l10
    refine ⟨(sa, sf, p.main, ()), (b2'.le l10).cells, c_Check (ha.le mono_arr l010) (hf.le mono_func l010) (few_B few) fun n _ hn' => ⟨n, rfl, cond_nei (fun _ => cond_eqi (fun _ => ⟨_, b7'.cell0, TB l010 rfl⟩) (fun e => absurd rfl e)) (fun e => absurd (hn'.1 e) hn)⟩⟩
  refine ⟨((vs, ar, rs, cs, ()), 0, ()), rfl, ?_⟩
  refine New_box fun r7 h9 hr7 l9 b7 => StL_box (h := h8) b7 rfl l9 hr7 fun h10 l10 b7' f10 => ?_
  have l010 := (l02.trans l8).trans l10
  have b210 := (b2'.le l8).le l10
  have lab10 := lab.le' l10
  refine ⟨(sa, sf, p.main, ()), b210.cells, c_Check (ha.le mono_arr l010) (hf.le mono_func l010) (few_B few) fun n _ hn' => ⟨n, rfl, cond_nei (fun e => absurd (hn'.2 ok) e) (fun _ => ?_)⟩⟩
  have nf := hf.len
  have na := ha.len
  have nv := lab.vals.len
  have nr := lab.rets.len
  have nar := lab.arrs.len
  have nc := lab.cut
  simp only [List.length_map, List.length_range] at nv nr nar
  refine Cut_i (fun _ hh => h10 = hh) (fun J hJ => ?_) ?_
  · refine cond_nei (fun e => absurd rfl e) (fun _ => ⟨vs, b7'.cell0, sf, b210.cell rfl, cond_nei (fun e => absurd ?_ e) (fun _ => ⟨rs, b7'.cell rfl, sf, b210.cell rfl, cond_nei (fun e => absurd ?_ e) (fun _ => ⟨ar, b7'.cell rfl, sa, b210.cell0, cond_nei (fun e => absurd ?_ e) (fun _ => ⟨cs, b7'.cell rfl, sf, b210.cell rfl, cond_nei (fun e => absurd ?_ e) (fun _ => Wk_self (hJ _ _ rfl))⟩)⟩)⟩)⟩)
    · show ((vs.n : Nat) : Int) = ((sf.n : Nat) : Int); omega
    · show ((rs.n : Nat) : Int) = ((sf.n : Nat) : Int); omega
    · show ((ar.n : Nat) : Int) = ((sa.n : Nat) : Int); omega
    · show ((cs.n : Nat) : Int) = ((sf.n : Nat) : Int); omega
  rintro _ _ rfl
  refine ⟨(sa, sf, p.main, ()), b210.cells, ?_⟩
  refine c_low (ha.le mono_arr l010) (hf.le mono_func l010) (hc.le mono_cut l010) ok few fun h15 lv la lr l15 fl => ⟨(lv, la, lr, ()), rfl, ?_⟩
  refine New_box fun r9 h16 hr9 l16 b9 => StL_box (h := h15) b9 rfl l16 hr9 fun h17 l17 b9' f17 => ?_
  have l017 := (l010.trans l15).trans l17
  have l1017 := l15.trans l17
  refine ⟨(sa, sf, p.main, ()), (b210.le l1017).cells, ?_⟩
  refine c_high (ha.le mono_arr l017) (hf.le mono_func l017) (hc.le mono_cut l017) ok few fun h18 gv ga gr l18 fh => ⟨(gv, ga, gr, ()), rfl, ?_⟩
  refine New_box fun r10 h19 hr10 l19 b10 => StL_box (h := h18) b10 rfl l19 hr10 fun h20 l20 b10' f20 => ?_
  have l1020 := (l1017.trans l18).trans l20
  have l020 := l010.trans l1020
  have b220 := b210.le l1020
  have b720 := b7'.le l1020
  have b920 := (b9'.le l18).le l20
  have lab20 := lab10.le' l1020
  have fl20 := (((fl.le (V.sub_le _ _)).le l17).le l18).le l20
  have fh20 := (fh.le (V.sub_le _ _)).le l20
  have hT : ∀ c ∈ progCons p (cutOf cutIn) (writesD p), c.tgt ∈ factsOf p := cons_facts ok
  have hN : (factsOf p).length < roundsN p := by rw [facts_len]; unfold roundsN; omega
  have lvV := level_val hL hT hN
  have lvO := level_other hL hT hN
  generalize lowB p (cutOf cutIn) (roundsN p) = BL at *
  generalize highB p (cutOf cutIn) (roundsN p) = BH at *
  refine ⟨sf, b220.cell rfl, ?_⟩
  refine Lp_count p.funcs.length (fun k st hh => st = ((k : Int), ()) ∧ Le h20 hh) ⟨rfl, Le.refl _⟩ ?_
  rintro k _ h21 K1 hk ⟨rfl, l21⟩ hK1
  refine cond_dec (fun hlt => ?_) (fun hge => ?_)
  · have hk' : k < p.funcs.length := by simp only at hlt; omega
    refine elem_func (hf.le mono_func l020) l21 hk' rfl rfl fun sb hsb r13 h23 l23 _ hr13 b13 => ⟨sb, b13.cell rfl, ?_⟩
    refine Lp_count p.funcs[k].blocks.length (fun j st hh => st = ((j : Int), ()) ∧ Le h20 hh) ⟨rfl, l23⟩ ?_
    rintro j _ h24 K2 hj ⟨rfl, l24⟩ hK2
    refine cond_dec (fun hlt => ?_) (fun hge => ?_)
    · have hj' : j < p.funcs[k].blocks.length := by have := hsb.len; simp only at hlt; omega
      refine elem_block hsb l24 hj' rfl rfl fun q i w hq hi hw r15 h26 l26 _ hr15 b15 => ⟨q, b15.cell0, ?_⟩
      refine Lp_count p.funcs[k].blocks[j].params.length (fun m st hh => st = ((m : Int), ()) ∧ h26 = hh) ⟨rfl, rfl⟩ ?_
      rintro m _ _ K3 hm ⟨rfl, rfl⟩ hK3
      refine cond_dec (fun hlt => ?_) (fun hge => ?_)
      · have hm' : m < p.funcs[k].blocks[j].params.length := by have := hq.len; simp only at hlt; omega
        refine (hq.le mono_int l26).ixn hm' fun a ha1 => ⟨_, ha1, vs, (b720.le l26).cell0, (lab20.le' l26).valAt hk' fun q1 hq1 => hq1 _ _ fun _ => ⟨lv, (b920.le l26).cell0, (fl20.le l26).val hk' fun q2 hq2 => hq2 _ _ fun _ => ⟨gv, (b10'.le l26).cell0, (fh20.le l26).val hk' fun q3 hq3 => hq3 _ _ fun _ => ?_⟩⟩⟩
        exact c_level ⟨_, rfl, Le.refl _, cond_nei (fun e => absurd (lvV _).symm e) (fun _ => Wk_self (hK3 _ _ hm' ⟨by rw [wnat hm' hq.bd], rfl⟩))⟩
      · clear hK3 hge hm
        refine ⟨i, b15.cell rfl, ?_⟩
        refine Lp_count p.funcs[k].blocks[j].ins.length (fun m st hh => st = ((m : Int), ()) ∧ Le h20 hh) ⟨rfl, l26⟩ ?_
        rintro m _ h31 K4 hm ⟨rfl, l31⟩ hK4
        refine cond_dec (fun hlt => ?_) (fun hge => Wk_self (hK2 _ _ hj' ⟨by rw [wnat hj' hsb.bd], l31⟩))
        have hm' : m < p.funcs[k].blocks[j].ins.length := by have := hi.len; simp only at hlt; omega
        refine elem_ins hi l31 hm' rfl rfl fun z hz r19 h33 l33 _ hr19 b19 => ⟨_, b19.cell rfl, cond_nei (fun _ => ?_) (fun _ => Wk_self (hK4 _ _ hm' ⟨by rw [wnat hm' hi.bd], l33⟩))⟩
        refine ⟨vs, (b720.le l33).cell0, (lab20.le' l33).valAt hk' fun q1 hq1 => ⟨_, b19.cell rfl, hq1 _ _ fun _ => ⟨lv, (b920.le l33).cell0, (fl20.le l33).val hk' fun q2 hq2 => ⟨_, b19.cell rfl, hq2 _ _ fun _ => ⟨gv, (b10'.le l33).cell0, (fh20.le l33).val hk' fun q3 hq3 => ⟨_, b19.cell rfl, hq3 _ _ fun _ => ?_⟩⟩⟩⟩⟩⟩
        exact c_level ⟨_, rfl, Le.refl _, cond_nei (fun e => absurd (lvV _).symm e) (fun _ => Wk_self (hK4 _ _ hm' ⟨by rw [wnat hm' hi.bd], l33⟩))⟩
    · refine ⟨rs, (b720.le l24).cell rfl, ((lab20.le' l24).rets).ixn (by simpa using hk') fun a ha1 => ⟨_, ha1, gr, (b10'.le l24).cell rfl, (fh20.le l24).ret (i := (k : Int)) (by omega) (by simpa using hk') ?_⟩⟩
      refine c_level ⟨_, rfl, Le.refl _, cond_nei (fun e => absurd ?_ e) (fun _ => Wk_self (hK1 _ _ hk' ⟨by rw [wnat hk' hf.bd], l24⟩))⟩
      simp only [List.getElem_map, List.getElem_range]
      exact (lvO (.ret k) fun f v e => by cases e).symm
  refine ⟨sa, (b220.le l21).cell0, ?_⟩
  refine Lp_count p.arrays.length (fun j st hh => st = ((j : Int), ()) ∧ h21 = hh) ⟨rfl, rfl⟩ ?_
  rintro j _ _ K5 hj ⟨rfl, rfl⟩ hK5
  refine cond_dec (fun hlt => ?_) (fun hge => T (l020.trans l21))
  have hj' : j < p.arrays.length := by simp only at hlt; omega
  refine ⟨ar, (b720.le l21).cell rfl, ((lab20.le' l21).arrs).ixn (by simpa using hj') fun a ha1 => ⟨_, ha1, ga, (b10'.le l21).cell rfl, (fh20.le l21).arr (i := (j : Int)) (by omega) (by simpa using hj') ?_⟩⟩
  refine c_level ⟨_, rfl, Le.refl _, cond_nei (fun e => absurd ?_ e) (fun _ => Wk_self (hK5 _ _ hj' ⟨by rw [wnat hj' ha.bd], rfl⟩))⟩
  simp only [List.getElem_map, List.getElem_range]
  exact (lvO (.arr j) fun f v e => by cases e).symm
end Go.Proofs.Ytaefmhephoilmaa

/- TaintLeast: the row. -/
namespace Go.Proofs.Ytaefmhephoilmaa
open Go Go.VL Go.ChangeShapes Go.WideShapes Go.ChangeAt Go.RowKit

theorem own : ownKnob Try.prog.godebug = none := by kernel_rfl
theorem laidOut : laidOutB Try.prog = true := by kernel_rfl
set_option maxRecDepth 100000 in
theorem lifted3 (os : Os) (started : os.Started) (H : Type) (enc : TypeId × Value → H) :
    ReturnsInHanded {} Try.checked os 3 .any (Rows.taintLeastSpec.pre6 enc Try.prog Try.f3 Rows.taintLeastRow.domain false) (Rows.taintLeastSpec.post enc Try.prog Try.f3 false true false false) := by
  refine returnsInHanded_of_change (C := Try.checked) own started (by kernel_rfl) Try.func3
    (ChangeSpec.witness6 (enc := enc) (C := Try.checked) false ⟨#[], #[.agg #[.slice none 0 0, .slice none 0 0, .int .i64 0], .slice none 0 0], []⟩ 8 (by kernel_rfl) (by kernel_rfl) (by kernel_rfl) (by kernel_rfl)) ?_
  intro W base args ds gs before hval0 hW hcnd _
  have hW' := hW
  obtain ⟨p, q, hA0, hV, rfl, hfz, hnd⟩ := hW
  have hA : DataW.TrodAll enc Try.prog W 0 (fun _ => true) true Try.f3.params.toList args.toList ds p := hA0
  have hval : ∀ (j : Nat) t v, Try.f3.params[j]? = some t → args[j]? = some v → Value.okWide Try.prog W .any base t v := hval0
  rw [show Try.f3.params = #[25, 26] from by kernel_rfl] at hA hval
  obtain ⟨v0, vs0, d0, ds0, p0, q0, hargs, rfl, rfl, h0, r0⟩ := trodAll_cons hA
  obtain ⟨v1, vs1, d1, ds1, p1, q1, rfl, rfl, rfl, h1, r1⟩ := trodAll_cons r0
  obtain ⟨rfl, rfl, rfl⟩ := trodAll_nil r1
  obtain rfl : args = #[v0, v1] := by cases args; simp_all
  obtain ⟨rfl, rfl⟩ := trodVars_none hV
  have k0 := h0
  have k1 := h1
  have lt0 : ∀ x ∈ p0, x.block < W.heap.size := by obtain ⟨m, hm⟩ := k0; exact DataW.trod_lt m _ _ _ hm
  have lt1 : ∀ x ∈ p1, x.block < W.heap.size := by obtain ⟨m, hm⟩ := k1; exact DataW.trod_lt m _ _ _ hm
  obtain ⟨m0, hm0⟩ := h0
  obtain ⟨m1, hm1⟩ := h1
  obtain ⟨sa, sf, pr, e0, ha, hf⟩ := rd_prog ⟨m0, _, hm0⟩
  obtain ⟨pc, cutIn, e1, hc⟩ := rd_cuts ⟨m1, _, hm1⟩
  have ev0 : v0 = .agg ⟨[sV sa, sV sf, iV pr.main]⟩ := by
    cases v0 <;> simp [Value.cells] at e0
    rename_i cs
    exact congrArg Value.agg (Array.ext' e0)
  have ev1 : v1 = sV pc := by
    obtain ⟨a, l, c, rfl⟩ := okWide_slice u26 (hval 1 26 v1 rfl rfl)
    simpa [Value.cells] using e1
  subst ev0 ev1
  refine ((walk3 ha hf hc).2 W (sees_of W)).mono fun e W' ⟨kept, v, h', he, hs, hv, hle⟩ => ?_
  subst he hv
  have bel := below_of kept hs hle
  exact ⟨_, rfl, _, _, _, [], _, [], hW', trodAll_mk1 (shut_bool u4 _), (trodAll_cons_mk (Below.trod laidOut (by kernel_rfl) (of_decide_eq_true (by kernel_rfl)) k0 bel lt0) (trodAll_cons_mk (Below.trod laidOut (by kernel_rfl) (of_decide_eq_true (by kernel_rfl)) k1 bel lt1) trodAll_mk0)), rfl, bel.frame _, fun h => by cases h⟩
theorem over3 : Rows.taintLeastRow.holds Try.pinned (OpenSpec.ofChange Rows.taintLeastSpec) :=
  OpenClaim.holds_of_wide 3 Try.f3 rfl rfl rfl rfl rfl rfl rfl ⟨rfl, rfl, rfl, rfl, rfl⟩ rfl rfl rfl rfl rfl (by kernel_rfl) Try.func3 (by kernel_rfl)
    (of_decide_eq_true (by kernel_rfl)) (by unfold Func.isWrapper; first | (rw [if_pos (by decide +kernel)]; kernel_rfl) | (rw [if_neg (by decide +kernel)]; exact ⟨rfl, rfl⟩))
    (fun os started H enc _ => lifted3 os started H enc)
theorem proved3 : Rows.TaintLeastSaid := over3
#print axioms proved3
end Go.Proofs.Ytaefmhephoilmaa
