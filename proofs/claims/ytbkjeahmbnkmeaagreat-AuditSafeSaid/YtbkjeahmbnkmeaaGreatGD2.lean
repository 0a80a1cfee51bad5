/- Printed by shallow.py (mine): the functions' WP formulas, and that the code computes them. -/
import Derived.Test.YtbkjeahmbnkmeaaGreatGC
set_option linter.unusedVariables false
set_option maxRecDepth 100000
namespace Go.Proofs.YtbkjeahmbnkmeaaGreat
open Go Ev

def S_ref20_Lock_Take (p0 : Option Addr) (p1 : Int) (p2 : Int) (h : Heap) (R : Int → Heap → Prop) : Prop :=
 C_ref20_Lock_may p0 p1 p2 h fun x11 h =>
 if (x11 != 0) = true then
 (
 R x11 h)
 else
 (
 C_ref20_Lock_Free p0 p2 h fun x17 h =>
 if (!x17) = true then
 (
 R 8 h)
 else
 (
 jn (α := Unit) (fun K8 =>
 pm p0 fun a20 =>
 ldS (a20.add 2) h fun x22 =>
 if (((x22.n : Nat) : Int) == 0) = true then
 (pm p0 fun a27 =>
 ldI .i64 ((a27.add 4).add 0) h fun x29_0 =>
 ldI .i64 ((a27.add 4).add 1) h fun x29_1 =>
 pm p0 fun a31 =>
 ldI .i64 (a31.add 1) h fun x33 =>
 C_ref19_May x29_0 x29_1 x33 p2 h fun x35 h =>
 cell h (a20.add 2) = some (.slice x22.p x22.n x22.c) ∧
 if (!x35) = true then
 (pm p0 fun a41 =>
 stF [.int .i64 p2, .int .i64 0] h (a41.add 4) 0 fun h =>
 K8 (()) h)
 else
 (K8 (()) h))
 else
 (
 K8 (()) h)) fun j8 h =>
 alc (.cells #[.int .i64 p1, .int .i64 p2, .bool false] 68) h fun b47 h =>
 pm p0 fun a49 =>
 ldS (a49.add 3) h fun x51 =>
 appW 68 3 24 (.agg #[.int .i64 0, .int .i64 0, .bool false]) (Sl.mk (some (Addr.mk b47 0 none)) 1 1) x51 h fun x52 h =>
 pm p0 fun a53 =>
 st (a53.add 3) (.slice x52.p x52.n x52.c) h fun h =>
 C_ref20_Lock_grant p0 0 h fun x56 h =>
 C_ref20_Lock_Settle p0 h fun h =>
 R 0 h))

def S_ref20_Lock_Queue (p0 : Option Addr) (p1 : Int) (p2 : Int) (h : Heap) (R : Int → Heap → Prop) : Prop :=
 C_ref20_Lock_may p0 p1 p2 h fun x11 h =>
 if (x11 != 0) = true then
 (
 R x11 h)
 else
 (
 C_ref20_Lock_Free p0 p2 h fun x17 h =>
 if x17 = true then
 (
 R 4 h)
 else
 (
 pm p0 fun a19 =>
 ldS (a19.add 3) h fun x21 =>
 if (decide (((x21.n : Nat) : Int) ≥ 8)) = true then
 (
 R 3 h)
 else
 (
 pm p0 fun a26 =>
 ldS (a26.add 3) h fun x28 =>
 alc (.cells #[.int .i64 p1, .int .i64 p2, .bool false] 68) h fun b32 h =>
 appW 68 3 24 (.agg #[.int .i64 0, .int .i64 0, .bool false]) x28 (Sl.mk (some (Addr.mk b32 0 none)) 1 1) h fun x33 h =>
 pm p0 fun a34 =>
 st (a34.add 3) (.slice x33.p x33.n x33.c) h fun h =>
 C_ref20_Lock_Settle p0 h fun h =>
 R 0 h)))

def S_ref26_Machine_take (p0 : Option Addr) (p1 : Int) (p2_0 : Int) (p2_1 : Int) (p2_2 : Int) (h : Heap) (R : Bool → Heap → Prop) : Prop :=
 alc (.cells #[.int .i64 p2_0, .int .i64 p2_1, .int .i64 p2_2] 168) h fun b5 h =>
 pm p0 fun a11 =>
 ldS (a11.add 8) h fun x13 =>
 ldI .i64 ((Addr.mk b5 0 none).add 1) h fun x15 =>
 pm x13.p fun a16 =>
 0 ≤ x15 ∧ x15 < ((x13.n : Nat) : Int) ∧
 ldP (a16.add (Int.toNat x15 * 1)) h fun x17 =>
 pm p0 fun a20 =>
 ldS (a20.add 11) h fun x22 =>
 pm x22.p fun a24 =>
 0 ≤ p1 ∧ p1 < ((x22.n : Nat) : Int) ∧
 ldI .i64 ((a24.add (Int.toNat p1 * 12)).add 2) h fun x26 =>
 ldI .i64 ((Addr.mk b5 0 none).add 0) h fun x28 =>
 C_ref20_Lock_Party x17 x26 (x28 == 3) h fun x30 h =>
 cell h ((Addr.mk b5 0 none).add 0) = some (.int .i64 x28) ∧
 cell h (a20.add 11) = some (.slice x22.p x22.n x22.c) ∧
 C_ref20_Lock_Take x17 p1 x30 h fun x34 h =>
 if (x34 == 0) = true then
 (ldI .i64 ((Addr.mk b5 0 none).add 1) h fun x40 =>
 ldI .i64 ((Addr.mk b5 0 none).add 1) h fun x43 =>
 C_ref26_Machine_how p0 x43 p1 h fun x45 h =>
 cell h ((Addr.mk b5 0 none).add 1) = some (.int .i64 x40) ∧
 C_ref26_Machine_tell p0 4 p1 x40 x45 h fun h =>
 cell h ((Addr.mk b5 0 none).add 1) = some (.int .i64 x43) ∧
 ldI .i64 ((Addr.mk b5 0 none).add 1) h fun x49 =>
 C_ref26_Machine_edges p0 x49 h fun h =>
 pm p0 fun a52 =>
 ldS (a52.add 11) h fun x54 =>
 pm x54.p fun a56 =>
 0 ≤ p1 ∧ p1 < ((x54.n : Nat) : Int) ∧
 ldI .i64 ((a56.add (Int.toNat p1 * 12)).add 4) h fun x58 =>
 pm x54.p fun a60 =>
 0 ≤ p1 ∧ p1 < ((x54.n : Nat) : Int) ∧
 st ((a60.add (Int.toNat p1 * 12)).add 4) (.int .i64 (IntKind.wrap .i64 (x58 + 1))) h fun h =>
 R false h)
 else
 (
 jn (α := Int × Unit) (fun K10 =>
 jn (α := Bool × Unit) (fun K11 =>
 if (x34 == 8) = true then
 (ldI .i64 ((Addr.mk b5 0 none).add 0) h fun x66 =>
 K11 ((x66 != 4), ()) h)
 else
 (K11 (false, ()) h)) fun j11 h =>
 if j11.1 = true then
 (
 pm p0 fun a70 =>
 ldP (a70.add 10) h fun x72 =>
 ldI .i64 ((Addr.mk b5 0 none).add 1) h fun x76 =>
 C_ref26_Machine_holders p0 x76 h fun x77 h =>
 cell h (a70.add 10) = some (.pointer x72) ∧
 C_ref22_Graph_Closes x72 p1 x77 h fun x78 h =>
 cell h ((Addr.mk b5 0 none).add 1) = some (.int .i64 x76) ∧
 if (!x78) = true then
 (C_ref20_Lock_Queue x17 p1 x30 h fun x83 h =>
 K10 (x83, ()) h)
 else
 (K10 (9, ()) h))
 else
 (K10 (x34, ()) h)) fun j10 h =>
 if (j10.1 != 0) = true then
 (ldI .i64 ((Addr.mk b5 0 none).add 1) h fun x89 =>
 C_ref26_Machine_tell p0 8 p1 x89 j10.1 h fun h =>
 pm p0 fun a93 =>
 ldS (a93.add 11) h fun x95 =>
 pm x95.p fun a97 =>
 0 ≤ p1 ∧ p1 < ((x95.n : Nat) : Int) ∧
 ldI .i64 ((a97.add (Int.toNat p1 * 12)).add 4) h fun x99 =>
 pm x95.p fun a101 =>
 0 ≤ p1 ∧ p1 < ((x95.n : Nat) : Int) ∧
 st ((a101.add (Int.toNat p1 * 12)).add 4) (.int .i64 (IntKind.wrap .i64 (x99 + 1))) h fun h =>
 R false h)
 else
 (
 ldI .i64 ((Addr.mk b5 0 none).add 1) h fun x106 =>
 C_ref26_Machine_tell p0 6 p1 x106 0 h fun h =>
 C_ref26_Machine_out p0 p1 h fun h =>
 pm p0 fun a112 =>
 ldS (a112.add 11) h fun x114 =>
 pm x114.p fun a116 =>
 0 ≤ p1 ∧ p1 < ((x114.n : Nat) : Int) ∧
 st ((a116.add (Int.toNat p1 * 12)).add 6) (.int .i64 4) h fun h =>
 pm p0 fun a119 =>
 ldS (a119.add 11) h fun x121 =>
 ldI .i64 ((Addr.mk b5 0 none).add 1) h fun x124 =>
 pm x121.p fun a125 =>
 0 ≤ p1 ∧ p1 < ((x121.n : Nat) : Int) ∧
 st ((a125.add (Int.toNat p1 * 12)).add 8) (.int .i64 x124) h fun h =>
 jn (α := Unit) (fun K23 =>
 ldI .i64 ((Addr.mk b5 0 none).add 0) h fun x128 =>
 if (x128 == 5) = true then
 (pm p0 fun a131 =>
 ldS (a131.add 11) h fun x133 =>
 pm p0 fun a136 =>
 ldI .u64 (a136.add 5) h fun x138 =>
 ldI .i64 ((Addr.mk b5 0 none).add 2) h fun x140 =>
 pm x133.p fun a143 =>
 0 ≤ p1 ∧ p1 < ((x133.n : Nat) : Int) ∧
 st ((a143.add (Int.toNat p1 * 12)).add 7) (.int .u64 (IntKind.wrap .u64 (x138 + (IntKind.wrap .u64 x140)))) h fun h =>
 K23 (()) h)
 else
 (K23 (()) h)) fun j23 h =>
 pm p0 fun a146 =>
 ldP (a146.add 10) h fun x148 =>
 ldI .i64 ((Addr.mk b5 0 none).add 1) h fun x152 =>
 C_ref26_Machine_holders p0 x152 h fun x153 h =>
 cell h (a146.add 10) = some (.pointer x148) ∧
 C_ref22_Graph_Wait x148 p1 x153 h fun x154 h =>
 cell h ((Addr.mk b5 0 none).add 1) = some (.int .i64 x152) ∧
 R true h))

def S_ref26_Machine_room (p0 : Option Addr) (h : Heap) (R : Bool → Heap → Prop) : Prop :=
 Lp (τ := Int × Int × Unit) (fun X3 s3 h => ∀ _ : Fr,
 pm p0 fun a7 =>
 ldS (a7.add 11) h fun x9 =>
 if (decide (s3.2.1 < ((x9.n : Nat) : Int))) = true then
 (
 pm p0 fun a15 =>
 ldS (a15.add 11) h fun x17 =>
 pm x17.p fun a19 =>
 0 ≤ s3.2.1 ∧ s3.2.1 < ((x17.n : Nat) : Int) ∧
 ldI .i64 ((a19.add (Int.toNat s3.2.1 * 12)).add 6) h fun x21 =>
 if (x21 != 5) = true then
 (
 X3 ((IntKind.wrap .i64 (s3.1 + 1)), (IntKind.wrap .i64 (s3.2.1 + 1)), ()) h)
 else
 (
 X3 (s3.1, (IntKind.wrap .i64 (s3.2.1 + 1)), ()) h))
 else
 (
 if (decide (s3.1 < 16)) = true then
 (pm p0 fun a29 =>
 ldS (a29.add 11) h fun x31 =>
 R (decide (((x31.n : Nat) : Int) < 64)) h)
 else
 (
 R false h))) ((0 : Int), (0 : Int), ()) h

def S_ref26_Machine_come (p0 : Option Addr) (p1 : Int) (p2 : Int) (p3 : Int) (p4 : Int) (h : Heap) (R : Heap → Prop) : Prop :=
 pm p0 fun a12 =>
 ldS (a12.add 11) h fun x14 =>
 pm p0 fun a18 =>
 ldS (a18.add 11) h fun x20 =>
 alc (.cells #[.int .i64 ((x14.n : Nat) : Int), .int .i64 p1, .int .i64 p2, .int .i64 p4, .int .i64 0, .int .i64 0, .int .i64 1, .int .u64 0, .int .i64 (-1), .int .i64 p3, .int .i64 p3, .int .i64 0] 66) h fun b28 h =>
 appW 66 12 96 (.agg #[.int .i64 0, .int .i64 0, .int .i64 0, .int .i64 0, .int .i64 0, .int .i64 0, .int .i64 0, .int .u64 0, .int .i64 0, .int .i64 0, .int .i64 0, .int .i64 0]) x20 (Sl.mk (some (Addr.mk b28 0 none)) 1 1) h fun x29 h =>
 pm p0 fun a30 =>
 st (a30.add 11) (.slice x29.p x29.n x29.c) h fun h =>
 pm p0 fun a34 =>
 ldS (a34.add 12) h fun x36 =>
 alc (.cells #[.int .u64 0] 41) h fun b37 h =>
 appW 41 1 8 (.int .u64 0) x36 (Sl.mk (some (Addr.mk b37 0 none)) 1 1) h fun x38 h =>
 pm p0 fun a39 =>
 st (a39.add 12) (.slice x38.p x38.n x38.c) h fun h =>
 pm p0 fun a42 =>
 ldP (a42.add 6) h fun x44 =>
 C_ref17_Cores_Add x44 p4 ((x14.n : Nat) : Int) 0 p3 h fun x48a x48b h =>
 C_ref26_Machine_tell p0 1 ((x14.n : Nat) : Int) (-1) p4 h fun h =>
 R h

def S_ref26_Machine_step (p0 : Option Addr) (p1 : Int) (p2 : Int) (h : Heap) (R : Bool → Heap → Prop) : Prop :=
 pm p0 fun a12 =>
 ldS ((a12.add 0).add 4) h fun x15 =>
 pm p0 fun a17 =>
 ldS (a17.add 11) h fun x19 =>
 pm x19.p fun a21 =>
 0 ≤ p1 ∧ p1 < ((x19.n : Nat) : Int) ∧
 ldI .i64 ((a21.add (Int.toNat p1 * 12)).add 1) h fun x23 =>
 pm x15.p fun a24 =>
 0 ≤ x23 ∧ x23 < ((x15.n : Nat) : Int) ∧
 ldB ((a24.add (Int.toNat x23 * 2)).add 0) h fun x25_0 =>
 ldS ((a24.add (Int.toNat x23 * 2)).add 1) h fun x25_1 =>
 alc (.cells #[.bool false, .slice none 0 0] 117) h fun b7 h =>
 cell h ((a24.add (Int.toNat x23 * 2)).add 0) = some (.bool x25_0) ∧
 cell h ((a24.add (Int.toNat x23 * 2)).add 1) = some (.slice x25_1.p x25_1.n x25_1.c) ∧
 cell h ((a21.add (Int.toNat p1 * 12)).add 1) = some (.int .i64 x23) ∧
 cell h (a17.add 11) = some (.slice x19.p x19.n x19.c) ∧
 cell h ((a12.add 0).add 4) = some (.slice x15.p x15.n x15.c) ∧
 stF [.bool x25_0, .slice x25_1.p x25_1.n x25_1.c] h (Addr.mk b7 0 none) 0 fun h =>
 jn (α := Unit) (fun K2 =>
 pm p0 fun a27 =>
 ldS (a27.add 11) h fun x29 =>
 pm x29.p fun a31 =>
 0 ≤ p1 ∧ p1 < ((x29.n : Nat) : Int) ∧
 ldI .i64 ((a31.add (Int.toNat p1 * 12)).add 4) h fun x33 =>
 ldS ((Addr.mk b7 0 none).add 1) h fun x35 =>
 if (decide (x33 ≥ ((x35.n : Nat) : Int))) = true then
 (ldB ((Addr.mk b7 0 none).add 0) h fun x39 =>
 if (!x39) = true then
 (C_ref26_Machine_die p0 p1 h fun h =>
 R true h)
 else
 (
 pm p0 fun a45 =>
 ldS (a45.add 11) h fun x47 =>
 pm x47.p fun a49 =>
 0 ≤ p1 ∧ p1 < ((x47.n : Nat) : Int) ∧
 st ((a49.add (Int.toNat p1 * 12)).add 4) (.int .i64 0) h fun h =>
 K2 (()) h))
 else
 (K2 (()) h)) fun j2 h =>
 ldS ((Addr.mk b7 0 none).add 1) h fun x52 =>
 pm p0 fun a54 =>
 ldS (a54.add 11) h fun x56 =>
 pm x56.p fun a58 =>
 0 ≤ p1 ∧ p1 < ((x56.n : Nat) : Int) ∧
 ldI .i64 ((a58.add (Int.toNat p1 * 12)).add 4) h fun x60 =>
 pm x52.p fun a61 =>
 0 ≤ x60 ∧ x60 < ((x52.n : Nat) : Int) ∧
 ldI .i64 ((a61.add (Int.toNat x60 * 3)).add 0) h fun x62_0 =>
 ldI .i64 ((a61.add (Int.toNat x60 * 3)).add 1) h fun x62_1 =>
 ldI .i64 ((a61.add (Int.toNat x60 * 3)).add 2) h fun x62_2 =>
 alc (.cells #[.int .i64 0, .int .i64 0, .int .i64 0] 168) h fun b8 h =>
 cell h ((a61.add (Int.toNat x60 * 3)).add 0) = some (.int .i64 x62_0) ∧
 cell h ((a61.add (Int.toNat x60 * 3)).add 1) = some (.int .i64 x62_1) ∧
 cell h ((a61.add (Int.toNat x60 * 3)).add 2) = some (.int .i64 x62_2) ∧
 cell h ((a58.add (Int.toNat p1 * 12)).add 4) = some (.int .i64 x60) ∧
 cell h (a54.add 11) = some (.slice x56.p x56.n x56.c) ∧
 cell h ((Addr.mk b7 0 none).add 1) = some (.slice x52.p x52.n x52.c) ∧
 stF [.int .i64 x62_0, .int .i64 x62_1, .int .i64 x62_2] h (Addr.mk b8 0 none) 0 fun h =>
 jn (α := Unit) (fun K9 =>
 ldI .i64 ((Addr.mk b8 0 none).add 0) h fun x64 =>
 if (x64 == 1) = true then
 (ldI .i64 ((Addr.mk b8 0 none).add 0) h fun x69_0 =>
 ldI .i64 ((Addr.mk b8 0 none).add 1) h fun x69_1 =>
 ldI .i64 ((Addr.mk b8 0 none).add 2) h fun x69_2 =>
 C_ref26_Machine_compute p0 p1 x69_0 x69_1 x69_2 h fun h =>
 R true h)
 else
 (jn (α := Bool × Unit) (fun K14 =>
 if (x64 == 2) = true then
 (K14 ((x64 == 2), ()) h)
 else
 (
 if (x64 == 3) = true then
 (K14 ((x64 == 3), ()) h)
 else
 (
 if (x64 == 4) = true then
 (K14 ((x64 == 4), ()) h)
 else
 (K14 ((x64 == 5), ()) h)))) fun j14 h =>
 if j14.1 = true then
 (ldI .i64 ((Addr.mk b8 0 none).add 0) h fun x78_0 =>
 ldI .i64 ((Addr.mk b8 0 none).add 1) h fun x78_1 =>
 ldI .i64 ((Addr.mk b8 0 none).add 2) h fun x78_2 =>
 C_ref26_Machine_take p0 p1 x78_0 x78_1 x78_2 h fun x79 h =>
 R x79 h)
 else
 (
 if (x64 == 6) = true then
 (pm p0 fun a84 =>
 ldS (a84.add 8) h fun x86 =>
 ldI .i64 ((Addr.mk b8 0 none).add 1) h fun x88 =>
 pm x86.p fun a89 =>
 0 ≤ x88 ∧ x88 < ((x86.n : Nat) : Int) ∧
 ldP (a89.add (Int.toNat x88 * 1)) h fun x90 =>
 C_ref20_Lock_Unlock x90 p1 h fun x92a x92b h =>
 cell h ((Addr.mk b8 0 none).add 1) = some (.int .i64 x88) ∧
 cell h (a84.add 8) = some (.slice x86.p x86.n x86.c) ∧
 if (x92b != 0) = true then
 (ldI .i64 ((Addr.mk b8 0 none).add 1) h fun x100 =>
 C_ref26_Machine_tell p0 8 p1 x100 x92b h fun h =>
 K9 (()) h)
 else
 (ldI .i64 ((Addr.mk b8 0 none).add 1) h fun x106 =>
 C_ref26_Machine_tell p0 5 p1 x106 0 h fun h =>
 ldI .i64 ((Addr.mk b8 0 none).add 1) h fun x110 =>
 C_ref26_Machine_give p0 x110 x92a h fun h =>
 K9 (()) h))
 else
 (
 if (x64 == 7) = true then
 (ldI .i64 ((Addr.mk b8 0 none).add 1) h fun x118 =>
 C_ref26_Machine_tell p0 9 p1 (-1) x118 h fun h =>
 C_ref26_Machine_out p0 p1 h fun h =>
 pm p0 fun a124 =>
 ldS (a124.add 11) h fun x126 =>
 pm x126.p fun a128 =>
 0 ≤ p1 ∧ p1 < ((x126.n : Nat) : Int) ∧
 st ((a128.add (Int.toNat p1 * 12)).add 6) (.int .i64 3) h fun h =>
 pm p0 fun a131 =>
 ldS (a131.add 11) h fun x133 =>
 pm p0 fun a136 =>
 ldI .u64 (a136.add 5) h fun x138 =>
 ldI .i64 ((Addr.mk b8 0 none).add 1) h fun x140 =>
 pm x133.p fun a143 =>
 0 ≤ p1 ∧ p1 < ((x133.n : Nat) : Int) ∧
 st ((a143.add (Int.toNat p1 * 12)).add 7) (.int .u64 (IntKind.wrap .u64 (x138 + (IntKind.wrap .u64 x140)))) h fun h =>
 pm p0 fun a146 =>
 ldS (a146.add 11) h fun x148 =>
 pm x148.p fun a150 =>
 0 ≤ p1 ∧ p1 < ((x148.n : Nat) : Int) ∧
 ldI .i64 ((a150.add (Int.toNat p1 * 12)).add 4) h fun x152 =>
 pm x148.p fun a154 =>
 0 ≤ p1 ∧ p1 < ((x148.n : Nat) : Int) ∧
 st ((a154.add (Int.toNat p1 * 12)).add 4) (.int .i64 (IntKind.wrap .i64 (x152 + 1))) h fun h =>
 R true h)
 else
 (
 if (x64 == 8) = true then
 (C_ref26_Machine_tell p0 10 p1 (-1) p2 h fun h =>
 pm p0 fun a163 =>
 ldP (a163.add 6) h fun x165 =>
 pm x165 fun a166 =>
 ldS (a166.add 0) h fun x168 =>
 pm x168.p fun a170 =>
 0 ≤ p2 ∧ p2 < ((x168.n : Nat) : Int) ∧
 ldP (a170.add (Int.toNat p2 * 1)) h fun x171 =>
 C_ref16_Queue_Back x171 h fun x172 h =>
 pm p0 fun a174 =>
 ldS (a174.add 11) h fun x176 =>
 pm x176.p fun a178 =>
 0 ≤ p1 ∧ p1 < ((x176.n : Nat) : Int) ∧
 st ((a178.add (Int.toNat p1 * 12)).add 6) (.int .i64 1) h fun h =>
 pm p0 fun a181 =>
 ldS (a181.add 11) h fun x183 =>
 pm x183.p fun a185 =>
 0 ≤ p1 ∧ p1 < ((x183.n : Nat) : Int) ∧
 ldI .i64 ((a185.add (Int.toNat p1 * 12)).add 4) h fun x187 =>
 pm x183.p fun a189 =>
 0 ≤ p1 ∧ p1 < ((x183.n : Nat) : Int) ∧
 st ((a189.add (Int.toNat p1 * 12)).add 4) (.int .i64 (IntKind.wrap .i64 (x187 + 1))) h fun h =>
 R true h)
 else
 (
 if (x64 == 9) = true then
 (C_ref26_Machine_room p0 h fun x194 h =>
 if x194 = true then
 (ldI .i64 ((Addr.mk b8 0 none).add 1) h fun x197 =>
 pm p0 fun a199 =>
 ldS (a199.add 11) h fun x201 =>
 pm x201.p fun a203 =>
 0 ≤ p1 ∧ p1 < ((x201.n : Nat) : Int) ∧
 ldI .i64 ((a203.add (Int.toNat p1 * 12)).add 2) h fun x205 =>
 pm p0 fun a207 =>
 ldS (a207.add 11) h fun x209 =>
 pm x209.p fun a211 =>
 0 ≤ p1 ∧ p1 < ((x209.n : Nat) : Int) ∧
 ldI .i64 ((a211.add (Int.toNat p1 * 12)).add 9) h fun x213 =>
 C_ref26_Machine_come p0 x197 x205 x213 p2 h fun h =>
 K9 (()) h)
 else
 (C_ref26_Machine_tell p0 8 p1 (-1) 3 h fun h =>
 K9 (()) h))
 else
 (
 if (x64 == 10) = true then
 (pm p0 fun a222 =>
 ldS (a222.add 11) h fun x224 =>
 ldI .i64 ((Addr.mk b8 0 none).add 1) h fun x227 =>
 pm x224.p fun a228 =>
 0 ≤ p1 ∧ p1 < ((x224.n : Nat) : Int) ∧
 st ((a228.add (Int.toNat p1 * 12)).add 9) (.int .i64 x227) h fun h =>
 ldI .i64 ((Addr.mk b8 0 none).add 1) h fun x233 =>
 C_ref26_Machine_tell p0 14 p1 (-1) x233 h fun h =>
 K9 (()) h)
 else
 (
 if (x64 == 11) = true then
 (C_ref26_Machine_die p0 p1 h fun h =>
 R true h)
 else
 (K9 (()) h))))))))) fun j9 h =>
 pm p0 fun a241 =>
 ldS (a241.add 11) h fun x243 =>
 pm x243.p fun a245 =>
 0 ≤ p1 ∧ p1 < ((x243.n : Nat) : Int) ∧
 ldI .i64 ((a245.add (Int.toNat p1 * 12)).add 4) h fun x247 =>
 pm x243.p fun a249 =>
 0 ≤ p1 ∧ p1 < ((x243.n : Nat) : Int) ∧
 st ((a249.add (Int.toNat p1 * 12)).add 4) (.int .i64 (IntKind.wrap .i64 (x247 + 1))) h fun h =>
 R false h

def S_ref22_Graph_Reach (p0 : Option Addr) (p1 : Int) (h : Heap) (R : Int → Heap → Prop) : Prop :=
 C_ref22_Is p1 h fun x6 h =>
 if (!x6) = true then
 (
 R 0 h)
 else
 (
 pm p0 fun a10 =>
 ldS (a10.add 0) h fun x12 =>
 pm x12.p fun a14 =>
 0 ≤ p1 ∧ p1 < ((x12.n : Nat) : Int) ∧
 ldI .u64 (a14.add (Int.toNat p1 * 1)) h fun x15 =>
 C_ref22_Graph_over p0 x15 h fun x16 h =>
 R x16 h)

def S_ref22_Graph_Behind (p0 : Option Addr) (p1 : Int) (h : Heap) (R : Int → Heap → Prop) : Prop :=
 Lp (τ := Int × Int × Unit) (fun X3 s3 h => ∀ _ : Fr,
 if (decide (s3.2.1 < 64)) = true then
 (
 C_ref22_Is p1 h fun x12 h =>
 if x12 = true then
 (pm p0 fun a15 =>
 ldS (a15.add 0) h fun x17 =>
 pm x17.p fun a19 =>
 0 ≤ s3.2.1 ∧ s3.2.1 < ((x17.n : Nat) : Int) ∧
 ldI .u64 (a19.add (Int.toNat s3.2.1 * 1)) h fun x20 =>
 if (x20 != 0) = true then
 (C_ref22_Graph_Reach p0 s3.2.1 h fun x26 h =>
 C_ref06_Has x26 p1 h fun x28 h =>
 if x28 = true then
 (C_ref06_With s3.1 s3.2.1 h fun x32 h =>
 X3 (x32, (IntKind.wrap .i64 (s3.2.1 + 1)), ()) h)
 else
 (
 X3 (s3.1, (IntKind.wrap .i64 (s3.2.1 + 1)), ()) h))
 else
 (
 X3 (s3.1, (IntKind.wrap .i64 (s3.2.1 + 1)), ()) h))
 else
 (
 X3 (s3.1, (IntKind.wrap .i64 (s3.2.1 + 1)), ()) h))
 else
 (
 R s3.1 h)) ((0 : Int), (0 : Int), ()) h

def S_ref23_Effective (p0 : Sl) (p1 : Option Addr) (h : Heap) (R : Sl → Heap → Prop) : Prop :=
 Lp (τ := Sl × Int × Unit) (fun X3 s3 h => ∀ _ : Fr,
 if (decide (s3.2.1 < ((p0.n : Nat) : Int))) = true then
 (
 if (decide (s3.2.1 < 64)) = true then
 (
 pm p0.p fun a22 =>
 0 ≤ s3.2.1 ∧ s3.2.1 < ((p0.n : Nat) : Int) ∧
 ldI .i64 (a22.add (Int.toNat s3.2.1 * 1)) h fun x23 =>
 C_ref15_Bring x23 0 16 h fun x24 h =>
 C_ref22_Graph_Behind p1 s3.2.1 h fun x27 h =>
 Lp (τ := Int × Int × Unit) (fun X8 s8 h => ∀ _ : Fr,
 if (decide (s8.2.1 < ((p0.n : Nat) : Int))) = true then
 (
 if (decide (s8.2.1 < 64)) = true then
 (
 jn (α := Bool × Unit) (fun K14 =>
 C_ref06_Has x27 s8.2.1 h fun x40 h =>
 if x40 = true then
 (K14 ((s8.2.1 != s3.2.1), ()) h)
 else
 (K14 (false, ()) h)) fun j14 h =>
 if j14.1 = true then
 (pm p0.p fun a49 =>
 0 ≤ s8.2.1 ∧ s8.2.1 < ((p0.n : Nat) : Int) ∧
 ldI .i64 (a49.add (Int.toNat s8.2.1 * 1)) h fun x50 =>
 C_ref15_Bring x50 0 16 h fun x51 h =>
 X8 ((IntKind.wrap .i64 (s8.1 + x51)), (IntKind.wrap .i64 (s8.2.1 + 1)), ()) h)
 else
 (
 X8 (s8.1, (IntKind.wrap .i64 (s8.2.1 + 1)), ()) h))
 else
 (
 alc (.cells #[.int .i64 s8.1] 3) h fun b55 h =>
 appW 3 1 8 (.int .i64 0) s3.1 (Sl.mk (some (Addr.mk b55 0 none)) 1 1) h fun x56 h =>
 X3 (x56, (IntKind.wrap .i64 (s3.2.1 + 1)), ()) h))
 else
 (
 alc (.cells #[.int .i64 s8.1] 3) h fun b55 h =>
 appW 3 1 8 (.int .i64 0) s3.1 (Sl.mk (some (Addr.mk b55 0 none)) 1 1) h fun x56 h =>
 X3 (x56, (IntKind.wrap .i64 (s3.2.1 + 1)), ()) h)) ((x24 : Int), (0 : Int), ()) h)
 else
 (
 R s3.1 h))
 else
 (
 R s3.1 h)) (((Sl.mk none 0 0) : Sl), (0 : Int), ()) h

def S_ref16_Queue_Weigh (p0 : Option Addr) (p1 : Int) (p2 : Int) (h : Heap) (R : Bool → Heap → Prop) : Prop :=
 C_ref16_Queue_At p0 p1 h fun x10 h =>
 if (decide (x10 < 0)) = true then
 (
 R false h)
 else
 (
 C_ref15_Bring p2 1 4096 h fun x14 h =>
 jn (α := Unit) (fun K6 =>
 jn (α := Bool × Unit) (fun K7 =>
 pm p0 fun a16 =>
 ldS (a16.add 2) h fun x18 =>
 pm x18.p fun a20 =>
 0 ≤ x10 ∧ x10 < ((x18.n : Nat) : Int) ∧
 ldI .i64 ((a20.add (Int.toNat x10 * 3)).add 2) h fun x22 =>
 if (x22 != x14) = true then
 (pm p0 fun a27 =>
 ldI .i64 (a27.add 3) h fun x29 =>
 K7 ((x29 == p1), ()) h)
 else
 (K7 (false, ()) h)) fun j7 h =>
 if j7.1 = true then
 (pm p0 fun a35 =>
 ldI .i64 (a35.add 0) h fun x37 =>
 pm p0 fun a38 =>
 st (a38.add 4) (.int .i64 x37) h fun h =>
 K6 (()) h)
 else
 (K6 (()) h)) fun j6 h =>
 pm p0 fun a41 =>
 ldS (a41.add 2) h fun x43 =>
 pm x43.p fun a46 =>
 0 ≤ x10 ∧ x10 < ((x43.n : Nat) : Int) ∧
 st ((a46.add (Int.toNat x10 * 3)).add 2) (.int .i64 x14) h fun h =>
 pm p0 fun a49 =>
 ldS (a49.add 2) h fun x51 =>
 pm p0 fun a55 =>
 ldS (a55.add 2) h fun x57 =>
 pm x57.p fun a59 =>
 0 ≤ x10 ∧ x10 < ((x57.n : Nat) : Int) ∧
 ldI .u64 ((a59.add (Int.toNat x10 * 3)).add 1) h fun x61 =>
 C_ref16_Queue_place p0 x61 x14 h fun x63 h =>
 cell h (a55.add 2) = some (.slice x57.p x57.n x57.c) ∧
 cell h (a49.add 2) = some (.slice x51.p x51.n x51.c) ∧
 pm x51.p fun a64 =>
 0 ≤ x10 ∧ x10 < ((x51.n : Nat) : Int) ∧
 st ((a64.add (Int.toNat x10 * 3)).add 1) (.int .u64 x63) h fun h =>
 R true h)

def S_ref16_Queue_Settle (p0 : Option Addr) (h : Heap) (R : Heap → Prop) : Prop :=
 pm p0 fun a5 =>
 ldS (a5.add 2) h fun x7 =>
 if (((x7.n : Nat) : Int) == 0) = true then
 (R h)
 else
 (
 pm p0 fun a11 =>
 ldS (a11.add 2) h fun x13 =>
 pm x13.p fun a14 =>
 0 ≤ (0 : Int) ∧ (0 : Int) < ((x13.n : Nat) : Int) ∧
 ldI .u64 ((a14.add (Int.toNat 0 * 3)).add 1) h fun x16 =>
 Lp (τ := Int × Int × Unit) (fun X3 s3 h => ∀ _ : Fr,
 pm p0 fun a19 =>
 ldS (a19.add 2) h fun x21 =>
 if (decide (s3.2.1 < ((x21.n : Nat) : Int))) = true then
 (
 pm p0 fun a27 =>
 ldS (a27.add 2) h fun x29 =>
 pm x29.p fun a31 =>
 0 ≤ s3.2.1 ∧ s3.2.1 < ((x29.n : Nat) : Int) ∧
 ldI .u64 ((a31.add (Int.toNat s3.2.1 * 3)).add 1) h fun x33 =>
 if (decide (x33 < s3.1)) = true then
 (pm p0 fun a37 =>
 ldS (a37.add 2) h fun x39 =>
 pm x39.p fun a41 =>
 0 ≤ s3.2.1 ∧ s3.2.1 < ((x39.n : Nat) : Int) ∧
 ldI .u64 ((a41.add (Int.toNat s3.2.1 * 3)).add 1) h fun x43 =>
 X3 (x43, (IntKind.wrap .i64 (s3.2.1 + 1)), ()) h)
 else
 (
 X3 (s3.1, (IntKind.wrap .i64 (s3.2.1 + 1)), ()) h))
 else
 (
 pm p0 fun a46 =>
 ldI .u64 (a46.add 1) h fun x48 =>
 if (decide (s3.1 > x48)) = true then
 (pm p0 fun a52 =>
 st (a52.add 1) (.int .u64 s3.1) h fun h =>
 R h)
 else
 (R h))) ((x16 : Int), (1 : Int), ()) h)

def S_ref26_Machine_Reckon (p0 : Option Addr) (h : Heap) (R : Heap → Prop) : Prop :=
 Lp (τ := Sl × Int × Unit) (fun X2 s2 h => ∀ _ : Fr,
 pm p0 fun a11 =>
 ldS (a11.add 11) h fun x13 =>
 if (decide (s2.2.1 < ((x13.n : Nat) : Int))) = true then
 (
 pm p0 fun a19 =>
 ldS (a19.add 11) h fun x21 =>
 pm x21.p fun a23 =>
 0 ≤ s2.2.1 ∧ s2.2.1 < ((x21.n : Nat) : Int) ∧
 ldI .i64 ((a23.add (Int.toNat s2.2.1 * 12)).add 9) h fun x25 =>
 pm p0 fun a27 =>
 ldS (a27.add 11) h fun x29 =>
 pm x29.p fun a31 =>
 0 ≤ s2.2.1 ∧ s2.2.1 < ((x29.n : Nat) : Int) ∧
 ldI .i64 ((a31.add (Int.toNat s2.2.1 * 12)).add 6) h fun x33 =>
 if (x33 == 5) = true then
 (
 alc (.cells #[.int .i64 0] 3) h fun b37 h =>
 appW 3 1 8 (.int .i64 0) s2.1 (Sl.mk (some (Addr.mk b37 0 none)) 1 1) h fun x38 h =>
 X2 (x38, (IntKind.wrap .i64 (s2.2.1 + 1)), ()) h)
 else
 (
 alc (.cells #[.int .i64 x25] 3) h fun b37 h =>
 appW 3 1 8 (.int .i64 0) s2.1 (Sl.mk (some (Addr.mk b37 0 none)) 1 1) h fun x38 h =>
 X2 (x38, (IntKind.wrap .i64 (s2.2.1 + 1)), ()) h))
 else
 (
 pm p0 fun a41 =>
 ldP (a41.add 10) h fun x43 =>
 C_ref23_Effective s2.1 x43 h fun x44 h =>
 Lp (τ := Int × Unit) (fun X10 s10 h => ∀ _ : Fr,
 pm p0 fun a47 =>
 ldS (a47.add 11) h fun x49 =>
 if (decide (s10.1 < ((x49.n : Nat) : Int))) = true then
 (
 pm p0 fun a55 =>
 ldS (a55.add 11) h fun x57 =>
 pm x57.p fun a59 =>
 0 ≤ s10.1 ∧ s10.1 < ((x57.n : Nat) : Int) ∧
 ldI .i64 ((a59.add (Int.toNat s10.1 * 12)).add 6) h fun x61 =>
 if (x61 == 5) = true then
 (
 X10 ((IntKind.wrap .i64 (s10.1 + 1)), ()) h)
 else
 (pm p0 fun a65 =>
 ldS (a65.add 11) h fun x67 =>
 pm x67.p fun a69 =>
 0 ≤ s10.1 ∧ s10.1 < ((x67.n : Nat) : Int) ∧
 ldI .i64 ((a69.add (Int.toNat s10.1 * 12)).add 10) h fun x71 =>
 pm x44.p fun a74 =>
 0 ≤ s10.1 ∧ s10.1 < ((x44.n : Nat) : Int) ∧
 ldI .i64 (a74.add (Int.toNat s10.1 * 1)) h fun x75 =>
 if (x71 == x75) = true then
 (
 X10 ((IntKind.wrap .i64 (s10.1 + 1)), ()) h)
 else
 (
 pm p0 fun a79 =>
 ldS (a79.add 11) h fun x81 =>
 pm x44.p fun a85 =>
 0 ≤ s10.1 ∧ s10.1 < ((x44.n : Nat) : Int) ∧
 ldI .i64 (a85.add (Int.toNat s10.1 * 1)) h fun x86 =>
 pm x81.p fun a87 =>
 0 ≤ s10.1 ∧ s10.1 < ((x81.n : Nat) : Int) ∧
 st ((a87.add (Int.toNat s10.1 * 12)).add 10) (.int .i64 x86) h fun h =>
 pm p0 fun a90 =>
 ldP (a90.add 6) h fun x92 =>
 C_ref17_Cores_Of x92 s10.1 h fun x94 h =>
 if (decide (x94 ≥ 0)) = true then
 (pm p0 fun a98 =>
 ldP (a98.add 6) h fun x100 =>
 pm x100 fun a101 =>
 ldS (a101.add 0) h fun x103 =>
 pm x103.p fun a105 =>
 0 ≤ x94 ∧ x94 < ((x103.n : Nat) : Int) ∧
 ldP (a105.add (Int.toNat x94 * 1)) h fun x106 =>
 pm x44.p fun a110 =>
 0 ≤ s10.1 ∧ s10.1 < ((x44.n : Nat) : Int) ∧
 ldI .i64 (a110.add (Int.toNat s10.1 * 1)) h fun x111 =>
 C_ref16_Queue_Weigh x106 s10.1 x111 h fun x112 h =>
 cell h (a101.add 0) = some (.slice x103.p x103.n x103.c) ∧
 cell h (a98.add 6) = some (.pointer x100) ∧
 X10 ((IntKind.wrap .i64 (s10.1 + 1)), ()) h)
 else
 (
 X10 ((IntKind.wrap .i64 (s10.1 + 1)), ()) h))))
 else
 (
 Lp (τ := Int × Unit) (fun X18 s18 h => ∀ _ : Fr,
 pm p0 fun a115 =>
 ldP (a115.add 6) h fun x117 =>
 pm x117 fun a118 =>
 ldS (a118.add 0) h fun x120 =>
 if (decide (s18.1 < ((x120.n : Nat) : Int))) = true then
 (
 pm p0 fun a126 =>
 ldP (a126.add 6) h fun x128 =>
 pm x128 fun a129 =>
 ldS (a129.add 0) h fun x131 =>
 pm x131.p fun a133 =>
 0 ≤ s18.1 ∧ s18.1 < ((x131.n : Nat) : Int) ∧
 ldP (a133.add (Int.toNat s18.1 * 1)) h fun x134 =>
 C_ref16_Queue_Settle x134 h fun h =>
 X18 ((IntKind.wrap .i64 (s18.1 + 1)), ()) h)
 else
 (R h)) ((0 : Int), ()) h)) ((0 : Int), ()) h)) (((Sl.mk none 0 0) : Sl), (0 : Int), ()) h

def S_ref26_Machine_Tick (p0 : Option Addr) (p1 : Int) (h : Heap) (R : Heap → Prop) : Prop :=
 pm p0 fun a10 =>
 ldI .u64 (a10.add 5) h fun x12 =>
 pm p0 fun a14 =>
 st (a14.add 5) (.int .u64 (IntKind.wrap .u64 (x12 + 1))) h fun h =>
 pm p0 fun a17 =>
 ldP (a17.add 6) h fun x19 =>
 pm x19 fun a20 =>
 ldS (a20.add 0) h fun x22 =>
 pm x22.p fun a24 =>
 0 ≤ p1 ∧ p1 < ((x22.n : Nat) : Int) ∧
 ldP (a24.add (Int.toNat p1 * 1)) h fun x25 =>
 jn (α := Unit) (fun K2 =>
 C_ref16_Queue_Due x25 h fun x27 h =>
 if x27 = true then
 (C_ref16_Queue_Back x25 h fun x29 h =>
 pm p0 fun a31 =>
 ldS (a31.add 11) h fun x33 =>
 pm x33.p fun a35 =>
 0 ≤ x29 ∧ x29 < ((x33.n : Nat) : Int) ∧
 st ((a35.add (Int.toNat x29 * 12)).add 6) (.int .i64 1) h fun h =>
 C_ref26_Machine_tell p0 3 x29 (-1) p1 h fun h =>
 K2 (()) h)
 else
 (K2 (()) h)) fun j2 h =>
 jn (α := Unit) (fun K6 =>
 jn (α := Bool × Unit) (fun K7 =>
 pm x25 fun a42 =>
 ldI .i64 (a42.add 3) h fun x44 =>
 if (decide (x44 < 0)) = true then
 (pm x25 fun a48 =>
 ldS (a48.add 2) h fun x50 =>
 K7 ((decide (((x50.n : Nat) : Int) > 0)), ()) h)
 else
 (K7 (false, ()) h)) fun j7 h =>
 if j7.1 = true then
 (C_ref16_Queue_Pick x25 h fun x55 h =>
 pm p0 fun a57 =>
 ldS (a57.add 11) h fun x59 =>
 pm x59.p fun a61 =>
 0 ≤ x55 ∧ x55 < ((x59.n : Nat) : Int) ∧
 st ((a61.add (Int.toNat x55 * 12)).add 6) (.int .i64 2) h fun h =>
 C_ref26_Machine_tell p0 2 x55 (-1) p1 h fun h =>
 K6 (()) h)
 else
 (K6 (()) h)) fun j6 h =>
 pm x25 fun a68 =>
 ldI .i64 (a68.add 3) h fun x70 =>
 if (decide (x70 < 0)) = true then
 (pm p0 fun a73 =>
 ldS (a73.add 7) h fun x75 =>
 pm x75.p fun a77 =>
 0 ≤ p1 ∧ p1 < ((x75.n : Nat) : Int) ∧
 ldI .i64 (a77.add (Int.toNat p1 * 1)) h fun x78 =>
 pm x75.p fun a80 =>
 0 ≤ p1 ∧ p1 < ((x75.n : Nat) : Int) ∧
 st (a80.add (Int.toNat p1 * 1)) (.int .i64 (IntKind.wrap .i64 (x78 + 1))) h fun h =>
 C_ref26_Machine_Reckon p0 h fun h =>
 R h)
 else
 (pm x25 fun a82 =>
 ldI .i64 (a82.add 3) h fun x84 =>
 C_ref16_Queue_Tick x25 h fun x86 h =>
 pm p0 fun a88 =>
 ldS (a88.add 11) h fun x90 =>
 pm x90.p fun a92 =>
 0 ≤ x84 ∧ x84 < ((x90.n : Nat) : Int) ∧
 ldI .i64 ((a92.add (Int.toNat x84 * 12)).add 11) h fun x94 =>
 pm x90.p fun a96 =>
 0 ≤ x84 ∧ x84 < ((x90.n : Nat) : Int) ∧
 st ((a96.add (Int.toNat x84 * 12)).add 11) (.int .i64 (IntKind.wrap .i64 (x94 + 1))) h fun h =>
 Lp (τ := Bool × Unit) (fun X16 s16 h => ∀ _ : Fr,
 if (!s16.1) = true then
 (
 C_ref26_Machine_step p0 x84 p1 h fun x103 h =>
 X16 (x103, ()) h)
 else
 (
 C_ref26_Machine_Reckon p0 h fun h =>
 R h)) (false, ()) h)

def S_ref26_Machine_due (p0 : Option Addr) (h : Heap) (R : Sl → Heap → Prop) : Prop :=
 Lp (τ := Sl × Int × Unit) (fun X3 s3 h => ∀ _ : Fr,
 pm p0 fun a9 =>
 ldS (a9.add 11) h fun x11 =>
 if (decide (s3.2.1 < ((x11.n : Nat) : Int))) = true then
 (
 pm p0 fun a17 =>
 ldS (a17.add 11) h fun x19 =>
 pm x19.p fun a21 =>
 0 ≤ s3.2.1 ∧ s3.2.1 < ((x19.n : Nat) : Int) ∧
 ldI .u64 ((a21.add (Int.toNat s3.2.1 * 12)).add 7) h fun x23 =>
 if (x23 == 0) = true then
 (
 X3 (s3.1, (IntKind.wrap .i64 (s3.2.1 + 1)), ()) h)
 else
 (pm p0 fun a27 =>
 ldS (a27.add 11) h fun x29 =>
 pm x29.p fun a31 =>
 0 ≤ s3.2.1 ∧ s3.2.1 < ((x29.n : Nat) : Int) ∧
 ldI .u64 ((a31.add (Int.toNat s3.2.1 * 12)).add 7) h fun x33 =>
 pm p0 fun a35 =>
 ldI .u64 (a35.add 5) h fun x37 =>
 if (decide (x33 > x37)) = true then
 (
 X3 (s3.1, (IntKind.wrap .i64 (s3.2.1 + 1)), ()) h)
 else
 (
 jn (α := Int × Unit) (fun K10 =>
 Lp (τ := Int × Unit) (fun X7 s7 h => ∀ _ : Fr,
 if (decide (s7.1 < ((s3.1.n : Nat) : Int))) = true then
 (pm p0 fun a46 =>
 ldS (a46.add 11) h fun x48 =>
 pm s3.1.p fun a51 =>
 0 ≤ s7.1 ∧ s7.1 < ((s3.1.n : Nat) : Int) ∧
 ldI .i64 (a51.add (Int.toNat s7.1 * 1)) h fun x52 =>
 pm x48.p fun a53 =>
 0 ≤ x52 ∧ x52 < ((x48.n : Nat) : Int) ∧
 ldI .u64 ((a53.add (Int.toNat x52 * 12)).add 7) h fun x55 =>
 pm p0 fun a57 =>
 ldS (a57.add 11) h fun x59 =>
 pm x59.p fun a61 =>
 0 ≤ s3.2.1 ∧ s3.2.1 < ((x59.n : Nat) : Int) ∧
 ldI .u64 ((a61.add (Int.toNat s3.2.1 * 12)).add 7) h fun x63 =>
 if (decide (x55 ≤ x63)) = true then
 (
 X7 ((IntKind.wrap .i64 (s7.1 + 1)), ()) h)
 else
 (K10 (s7.1, ()) h))
 else
 (
 K10 (s7.1, ()) h)) ((0 : Int), ()) h) fun j10 h =>
 alc (.cells #[] 3) h fun b68 h =>
 slc 1 s3.1.p s3.1.c (0 : Int) j10.1 fun x71 =>
 appW 3 1 8 (.int .i64 0) (Sl.mk (some (Addr.mk b68 0 none)) 0 0) x71 h fun x72 h =>
 alc (.cells #[.int .i64 s3.2.1] 3) h fun b75 h =>
 appW 3 1 8 (.int .i64 0) x72 (Sl.mk (some (Addr.mk b75 0 none)) 1 1) h fun x76 h =>
 slc 1 s3.1.p s3.1.c j10.1 (s3.1.n : Nat) fun x80 =>
 appW 3 1 8 (.int .i64 0) x76 x80 h fun x81 h =>
 X3 (x81, (IntKind.wrap .i64 (s3.2.1 + 1)), ()) h)))
 else
 (
 R s3.1 h)) (((Sl.mk none 0 0) : Sl), (0 : Int), ()) h

def S_ref26_Machine_Fire (p0 : Option Addr) (h : Heap) (R : Heap → Prop) : Prop :=
 C_ref26_Machine_due p0 h fun x9 h =>
 Lp (τ := Int × Unit) (fun X2 s2 h => ∀ _ : Fr,
 if (decide (s2.1 < ((x9.n : Nat) : Int))) = true then
 (
 pm x9.p fun a18 =>
 0 ≤ s2.1 ∧ s2.1 < ((x9.n : Nat) : Int) ∧
 ldI .i64 (a18.add (Int.toNat s2.1 * 1)) h fun x19 =>
 pm p0 fun a21 =>
 ldS (a21.add 11) h fun x23 =>
 pm x23.p fun a25 =>
 0 ≤ x19 ∧ x19 < ((x23.n : Nat) : Int) ∧
 ldI .u64 ((a25.add (Int.toNat x19 * 12)).add 7) h fun x27 =>
 if (x27 == 0) = true then
 (
 X2 ((IntKind.wrap .i64 (s2.1 + 1)), ()) h)
 else
 (
 pm p0 fun a30 =>
 ldS (a30.add 11) h fun x32 =>
 pm x32.p fun a34 =>
 0 ≤ x19 ∧ x19 < ((x32.n : Nat) : Int) ∧
 ldI .i64 ((a34.add (Int.toNat x19 * 12)).add 6) h fun x36 =>
 if (x36 == 3) = true then
 (C_ref26_Machine_back p0 x19 h fun h =>
 X2 ((IntKind.wrap .i64 (s2.1 + 1)), ()) h)
 else
 (
 pm p0 fun a42 =>
 ldS (a42.add 11) h fun x44 =>
 pm x44.p fun a46 =>
 0 ≤ x19 ∧ x19 < ((x44.n : Nat) : Int) ∧
 ldI .i64 ((a46.add (Int.toNat x19 * 12)).add 8) h fun x48 =>
 pm p0 fun a51 =>
 ldS (a51.add 8) h fun x53 =>
 pm x53.p fun a55 =>
 0 ≤ x48 ∧ x48 < ((x53.n : Nat) : Int) ∧
 ldP (a55.add (Int.toNat x48 * 1)) h fun x56 =>
 C_ref20_Lock_Leave x56 x19 h fun x58a x58b h =>
 C_ref26_Machine_tell p0 8 x19 x48 10 h fun h =>
 pm p0 fun a66 =>
 ldS (a66.add 11) h fun x68 =>
 pm x68.p fun a70 =>
 0 ≤ x19 ∧ x19 < ((x68.n : Nat) : Int) ∧
 ldI .i64 ((a70.add (Int.toNat x19 * 12)).add 4) h fun x72 =>
 pm x68.p fun a74 =>
 0 ≤ x19 ∧ x19 < ((x68.n : Nat) : Int) ∧
 st ((a74.add (Int.toNat x19 * 12)).add 4) (.int .i64 (IntKind.wrap .i64 (x72 + 1))) h fun h =>
 pm p0 fun a77 =>
 ldP (a77.add 10) h fun x79 =>
 pm x79 fun a80 =>
 ldS (a80.add 0) h fun x82 =>
 pm x82.p fun a84 =>
 0 ≤ x19 ∧ x19 < ((x82.n : Nat) : Int) ∧
 st (a84.add (Int.toNat x19 * 1)) (.int .u64 0) h fun h =>
 C_ref26_Machine_back p0 x19 h fun h =>
 C_ref26_Machine_give p0 x48 x58a h fun h =>
 X2 ((IntKind.wrap .i64 (s2.1 + 1)), ()) h)))
 else
 (
 C_ref26_Machine_Reckon p0 h fun h =>
 R h)) ((0 : Int), ()) h

def S_ref16_Queue_Load (p0 : Option Addr) (h : Heap) (R : Int → Heap → Prop) : Prop :=
 Lp (τ := Int × Int × Unit) (fun X3 s3 h => ∀ _ : Fr,
 pm p0 fun a7 =>
 ldS (a7.add 2) h fun x9 =>
 if (decide (s3.2.1 < ((x9.n : Nat) : Int))) = true then
 (
 pm p0 fun a16 =>
 ldS (a16.add 2) h fun x18 =>
 pm x18.p fun a20 =>
 0 ≤ s3.2.1 ∧ s3.2.1 < ((x18.n : Nat) : Int) ∧
 ldI .i64 ((a20.add (Int.toNat s3.2.1 * 3)).add 2) h fun x22 =>
 X3 ((IntKind.wrap .i64 (s3.1 + x22)), (IntKind.wrap .i64 (s3.2.1 + 1)), ()) h)
 else
 (
 R s3.1 h)) ((0 : Int), (0 : Int), ()) h

def S_ref01_Sub (p0 : Int) (p1 : Int) (h : Heap) (R : Int → Int → Heap → Prop) : Prop :=
 if (decide (p0 < p1)) = true then
 (
 R 0 2 h)
 else
 (
 R (IntKind.wrap .u64 (p0 - p1)) 0 h)

def S_ref17_Cores_move (p0 : Option Addr) (p1 : Int) (p2 : Int) (h : Heap) (R : Heap → Prop) : Prop :=
 pm p0 fun a13 =>
 ldS (a13.add 0) h fun x15 =>
 C_ref17_Cores_Of p0 p1 h fun x18 h =>
 cell h (a13.add 0) = some (.slice x15.p x15.n x15.c) ∧
 pm x15.p fun a19 =>
 0 ≤ x18 ∧ x18 < ((x15.n : Nat) : Int) ∧
 ldP (a19.add (Int.toNat x18 * 1)) h fun x20 =>
 jn (α := Addr × Unit) (fun K1 =>
 pm x20 fun a22 =>
 ldS (a22.add 2) h fun x24 =>
 (C_ref16_Queue_At x20 p1 h fun x27 h =>
 cell h (a22.add 2) = some (.slice x24.p x24.n x24.c) ∧
 pm x24.p fun a28 =>
 0 ≤ x27 ∧ x27 < ((x24.n : Nat) : Int) ∧
 ldI .i64 ((a28.add (Int.toNat x27 * 3)).add 0) h fun x29_0 =>
 ldI .u64 ((a28.add (Int.toNat x27 * 3)).add 1) h fun x29_1 =>
 ldI .i64 ((a28.add (Int.toNat x27 * 3)).add 2) h fun x29_2 =>
 alc (.cells #[.int .i64 0, .int .u64 0, .int .i64 0] 137) h fun b7 h =>
 cell h ((a28.add (Int.toNat x27 * 3)).add 0) = some (.int .i64 x29_0) ∧
 cell h ((a28.add (Int.toNat x27 * 3)).add 1) = some (.int .u64 x29_1) ∧
 cell h ((a28.add (Int.toNat x27 * 3)).add 2) = some (.int .i64 x29_2) ∧
 cell h (a22.add 2) = some (.slice x24.p x24.n x24.c) ∧
 stF [.int .i64 x29_0, .int .u64 x29_1, .int .i64 x29_2] h (Addr.mk b7 0 none) 0 fun h =>
 K1 ((Addr.mk b7 0 none), ()) h) ∧
 (alc (.cells #[.int .i64 0, .int .u64 0, .int .i64 0] 137) h fun b7 h =>
 cell h (a22.add 2) = some (.slice x24.p x24.n x24.c) ∧
 C_ref16_Queue_At x20 p1 h fun x27 h =>
 cell h (a22.add 2) = some (.slice x24.p x24.n x24.c) ∧
 pm x24.p fun a28 =>
 0 ≤ x27 ∧ x27 < ((x24.n : Nat) : Int) ∧
 ldI .i64 ((a28.add (Int.toNat x27 * 3)).add 0) h fun x29_0 =>
 ldI .u64 ((a28.add (Int.toNat x27 * 3)).add 1) h fun x29_1 =>
 ldI .i64 ((a28.add (Int.toNat x27 * 3)).add 2) h fun x29_2 =>
 stF [.int .i64 x29_0, .int .u64 x29_1, .int .i64 x29_2] h (Addr.mk b7 0 none) 0 fun h =>
 K1 ((Addr.mk b7 0 none), ()) h)) fun j1 h =>
 ldI .u64 (j1.1.add 1) h fun x32 =>
 pm x20 fun a34 =>
 ldI .u64 (a34.add 1) h fun x36 =>
 C_ref01_Sub x32 x36 h fun x37a x37b h =>
 C_ref16_Queue_Remove x20 p1 h fun x42a x42b h =>
 pm p0 fun a45 =>
 ldS (a45.add 0) h fun x47 =>
 pm x47.p fun a49 =>
 0 ≤ p2 ∧ p2 < ((x47.n : Nat) : Int) ∧
 ldP (a49.add (Int.toNat p2 * 1)) h fun x50 =>
 pm x50 fun a51 =>
 ldI .u64 (a51.add 1) h fun x53 =>
 C_ref01_Add x53 x37a h fun x55a x55b h =>
 pm p0 fun a59 =>
 ldS (a59.add 0) h fun x61 =>
 pm x61.p fun a63 =>
 0 ≤ p2 ∧ p2 < ((x61.n : Nat) : Int) ∧
 ldP (a63.add (Int.toNat p2 * 1)) h fun x64 =>
 ldI .i64 (j1.1.add 2) h fun x68 =>
 C_ref16_Queue_Add x64 p1 x55a x68 h fun x69a x69b h =>
 cell h (a59.add 0) = some (.slice x61.p x61.n x61.c) ∧
 R h

def S_ref17_Cores_Balance (p0 : Option Addr) (h : Heap) (R : Int → Int → Int → Heap → Prop) : Prop :=
 Lp (τ := Int × Int × Int × Unit) (fun X4 s4 h => ∀ _ : Fr,
 pm p0 fun a12 =>
 ldS (a12.add 0) h fun x14 =>
 if (decide (s4.2.2.1 < ((x14.n : Nat) : Int))) = true then
 (
 jn (α := Int × Unit) (fun K8 =>
 pm p0 fun a20 =>
 ldS (a20.add 0) h fun x22 =>
 pm x22.p fun a24 =>
 0 ≤ s4.2.2.1 ∧ s4.2.2.1 < ((x22.n : Nat) : Int) ∧
 ldP (a24.add (Int.toNat s4.2.2.1 * 1)) h fun x25 =>
 pm p0 fun a28 =>
 ldS (a28.add 0) h fun x30 =>
 pm x30.p fun a32 =>
 0 ≤ s4.1 ∧ s4.1 < ((x30.n : Nat) : Int) ∧
 ldP (a32.add (Int.toNat s4.1 * 1)) h fun x33 =>
 C_ref16_Queue_Load x25 h fun x26 h =>
 cell h (a32.add (Int.toNat s4.1 * 1)) = some (.pointer x33) ∧
 cell h (a28.add 0) = some (.slice x30.p x30.n x30.c) ∧
 cell h (a20.add 0) = some (.slice x22.p x22.n x22.c) ∧
 C_ref16_Queue_Load x33 h fun x34 h =>
 cell h (a28.add 0) = some (.slice x30.p x30.n x30.c) ∧
 cell h (a24.add (Int.toNat s4.2.2.1 * 1)) = some (.pointer x25) ∧
 cell h (a20.add 0) = some (.slice x22.p x22.n x22.c) ∧
 if (decide (x26 > x34)) = true then
 (K8 (s4.2.2.1, ()) h)
 else
 (K8 (s4.1, ()) h)) fun j8 h =>
 pm p0 fun a38 =>
 ldS (a38.add 0) h fun x40 =>
 pm x40.p fun a42 =>
 0 ≤ s4.2.2.1 ∧ s4.2.2.1 < ((x40.n : Nat) : Int) ∧
 ldP (a42.add (Int.toNat s4.2.2.1 * 1)) h fun x43 =>
 pm p0 fun a46 =>
 ldS (a46.add 0) h fun x48 =>
 pm x48.p fun a50 =>
 0 ≤ s4.2.1 ∧ s4.2.1 < ((x48.n : Nat) : Int) ∧
 ldP (a50.add (Int.toNat s4.2.1 * 1)) h fun x51 =>
 C_ref16_Queue_Load x43 h fun x44 h =>
 cell h (a50.add (Int.toNat s4.2.1 * 1)) = some (.pointer x51) ∧
 cell h (a46.add 0) = some (.slice x48.p x48.n x48.c) ∧
 cell h (a38.add 0) = some (.slice x40.p x40.n x40.c) ∧
 C_ref16_Queue_Load x51 h fun x52 h =>
 cell h (a46.add 0) = some (.slice x48.p x48.n x48.c) ∧
 cell h (a42.add (Int.toNat s4.2.2.1 * 1)) = some (.pointer x43) ∧
 cell h (a38.add 0) = some (.slice x40.p x40.n x40.c) ∧
 if (decide (x44 < x52)) = true then
 (
 X4 (j8.1, s4.2.2.1, (IntKind.wrap .i64 (s4.2.2.1 + 1)), ()) h)
 else
 (
 X4 (j8.1, s4.2.1, (IntKind.wrap .i64 (s4.2.2.1 + 1)), ()) h))
 else
 (
 pm p0 fun a56 =>
 ldS (a56.add 0) h fun x58 =>
 pm x58.p fun a60 =>
 0 ≤ s4.1 ∧ s4.1 < ((x58.n : Nat) : Int) ∧
 ldP (a60.add (Int.toNat s4.1 * 1)) h fun x61 =>
 C_ref16_Queue_Ready x61 h fun x62 h =>
 Lp (τ := Int × Unit) (fun X12 s12 h => ∀ _ : Fr,
 if (decide (s12.1 < ((x62.n : Nat) : Int))) = true then
 (
 pm x62.p fun a71 =>
 0 ≤ s12.1 ∧ s12.1 < ((x62.n : Nat) : Int) ∧
 ldI .i64 ((a71.add (Int.toNat s12.1 * 3)).add 2) h fun x73 =>
 pm p0 fun a75 =>
 ldS (a75.add 0) h fun x77 =>
 pm x77.p fun a79 =>
 0 ≤ s4.1 ∧ s4.1 < ((x77.n : Nat) : Int) ∧
 ldP (a79.add (Int.toNat s4.1 * 1)) h fun x80 =>
 pm p0 fun a83 =>
 ldS (a83.add 0) h fun x85 =>
 pm x85.p fun a87 =>
 0 ≤ s4.2.1 ∧ s4.2.1 < ((x85.n : Nat) : Int) ∧
 ldP (a87.add (Int.toNat s4.2.1 * 1)) h fun x88 =>
 C_ref16_Queue_Load x80 h fun x81 h =>
 cell h (a87.add (Int.toNat s4.2.1 * 1)) = some (.pointer x88) ∧
 cell h (a83.add 0) = some (.slice x85.p x85.n x85.c) ∧
 cell h (a75.add 0) = some (.slice x77.p x77.n x77.c) ∧
 cell h ((a71.add (Int.toNat s12.1 * 3)).add 2) = some (.int .i64 x73) ∧
 C_ref16_Queue_Load x88 h fun x89 h =>
 cell h (a83.add 0) = some (.slice x85.p x85.n x85.c) ∧
 cell h (a79.add (Int.toNat s4.1 * 1)) = some (.pointer x80) ∧
 cell h (a75.add 0) = some (.slice x77.p x77.n x77.c) ∧
 cell h ((a71.add (Int.toNat s12.1 * 3)).add 2) = some (.int .i64 x73) ∧
 if (decide (x73 < (IntKind.wrap .i64 (x81 - x89)))) = true then
 (pm x62.p fun a95 =>
 0 ≤ s12.1 ∧ s12.1 < ((x62.n : Nat) : Int) ∧
 ldI .i64 ((a95.add (Int.toNat s12.1 * 3)).add 0) h fun x97 =>
 C_ref17_Cores_move p0 x97 s4.2.1 h fun h =>
 pm x62.p fun a102 =>
 0 ≤ s12.1 ∧ s12.1 < ((x62.n : Nat) : Int) ∧
 ldI .i64 ((a102.add (Int.toNat s12.1 * 3)).add 0) h fun x104 =>
 R x104 s4.1 s4.2.1 h)
 else
 (
 X12 ((IntKind.wrap .i64 (s12.1 + 1)), ()) h))
 else
 (
 R (-1) (-1) (-1) h)) ((0 : Int), ()) h)) ((0 : Int), (0 : Int), (0 : Int), ()) h

def S_ref26_Machine_moved (p0 : Option Addr) (p1 : Int) (p2 : Int) (h : Heap) (R : Heap → Prop) : Prop :=
 pm p0 fun a7 =>
 ldS (a7.add 11) h fun x9 =>
 pm x9.p fun a12 =>
 0 ≤ p1 ∧ p1 < ((x9.n : Nat) : Int) ∧
 st ((a12.add (Int.toNat p1 * 12)).add 3) (.int .i64 p2) h fun h =>
 C_ref26_Machine_tell p0 13 p1 (-1) p2 h fun h =>
 C_ref26_Machine_Reckon p0 h fun h =>
 R h

def S_ref18_Ledger_Weigh (p0 : Option Addr) (p1 : Int) (p2 : Int) (h : Heap) (R : Bool → Heap → Prop) : Prop :=
 C_ref18_Ledger_Is p0 p1 h fun x9 h =>
 if (!x9) = true then
 (
 R false h)
 else
 (
 C_ref15_Bring p2 1 16 h fun x12 h =>
 pm p0 fun a15 =>
 ldS (a15.add 0) h fun x17 =>
 pm x17.p fun a19 =>
 0 ≤ p1 ∧ p1 < ((x17.n : Nat) : Int) ∧
 ldI .i64 ((a19.add (Int.toNat p1 * 4)).add 0) h fun x21 =>
 if (x12 != x21) = true then
 (pm p0 fun a24 =>
 ldS (a24.add 0) h fun x26 =>
 pm x26.p fun a29 =>
 0 ≤ p1 ∧ p1 < ((x26.n : Nat) : Int) ∧
 st ((a29.add (Int.toNat p1 * 4)).add 0) (.int .i64 x12) h fun h =>
 pm p0 fun a32 =>
 ldS (a32.add 0) h fun x34 =>
 pm p0 fun a37 =>
 ldS (a37.add 0) h fun x39 =>
 pm x39.p fun a41 =>
 0 ≤ p1 ∧ p1 < ((x39.n : Nat) : Int) ∧
 ldI .u64 ((a41.add (Int.toNat p1 * 4)).add 1) h fun x43 =>
 pm p0 fun a45 =>
 ldI .u64 (a45.add 3) h fun x47 =>
 pm p0 fun a51 =>
 ldI .i64 (a51.add 1) h fun x53 =>
 C_ref15_Lock x12 h fun x49 h =>
 cell h (a51.add 1) = some (.int .i64 x53) ∧
 cell h (a45.add 3) = some (.int .u64 x47) ∧
 cell h ((a41.add (Int.toNat p1 * 4)).add 1) = some (.int .u64 x43) ∧
 cell h (a37.add 0) = some (.slice x39.p x39.n x39.c) ∧
 cell h (a32.add 0) = some (.slice x34.p x34.n x34.c) ∧
 C_ref15_Clamp x43 x47 (IntKind.wrap .u64 (x49 * (IntKind.wrap .u64 x53))) h fun x56 h =>
 cell h (a51.add 1) = some (.int .i64 x53) ∧
 cell h (a37.add 0) = some (.slice x39.p x39.n x39.c) ∧
 cell h (a32.add 0) = some (.slice x34.p x34.n x34.c) ∧
 pm x34.p fun a57 =>
 0 ≤ p1 ∧ p1 < ((x34.n : Nat) : Int) ∧
 st ((a57.add (Int.toNat p1 * 4)).add 1) (.int .u64 x56) h fun h =>
 R true h)
 else
 (
 R true h))

def S_ref19_End (p0_0 : Int) (p0_1 : Int) (p1 : Int) (h : Heap) (R : Int → Int → Heap → Prop) : Prop :=
 alc (.cells #[.int .i64 p0_0, .int .i64 p0_1] 58) h fun b2 h =>
 alc (.cells #[.int .i64 0, .int .i64 0] 58) h fun b4 h =>
 C_ref15_Bring p1 1 16 h fun x7 h =>
 ldI .i64 ((Addr.mk b2 0 none).add 1) h fun x9 =>
 if (decide (x9 < x7)) = true then
 (st ((Addr.mk b2 0 none).add 1) (.int .i64 x7) h fun h =>
 ldI .i64 ((Addr.mk b2 0 none).add 0) h fun x14_0 =>
 ldI .i64 ((Addr.mk b2 0 none).add 1) h fun x14_1 =>
 stF [.int .i64 x14_0, .int .i64 x14_1] h (Addr.mk b4 0 none) 0 fun h =>
 ldI .i64 ((Addr.mk b4 0 none).add 0) h fun x9000_0 =>
 ldI .i64 ((Addr.mk b4 0 none).add 1) h fun x9000_1 =>
 R x9000_0 x9000_1 h)
 else
 (
 ldI .i64 ((Addr.mk b2 0 none).add 0) h fun x14_0 =>
 ldI .i64 ((Addr.mk b2 0 none).add 1) h fun x14_1 =>
 stF [.int .i64 x14_0, .int .i64 x14_1] h (Addr.mk b4 0 none) 0 fun h =>
 ldI .i64 ((Addr.mk b4 0 none).add 0) h fun x9000_0 =>
 ldI .i64 ((Addr.mk b4 0 none).add 1) h fun x9000_1 =>
 R x9000_0 x9000_1 h)

def S_ref20_Lock_Weigh (p0 : Option Addr) (p1 : Int) (p2 : Int) (h : Heap) (R : Bool → Heap → Prop) : Prop :=
 pm p0 fun a9 =>
 ldB (a9.add 0) h fun x11 =>
 if x11 = true then
 (
 R false h)
 else
 (pm p0 fun a14 =>
 ldP (a14.add 6) h fun x16 =>
 C_ref18_Ledger_Is x16 p1 h fun x18 h =>
 if (!x18) = true then
 (
 R false h)
 else
 (
 pm p0 fun a22 =>
 ldP (a22.add 6) h fun x24 =>
 pm x24 fun a25 =>
 ldS (a25.add 0) h fun x27 =>
 pm x27.p fun a29 =>
 0 ≤ p1 ∧ p1 < ((x27.n : Nat) : Int) ∧
 ldI .i64 ((a29.add (Int.toNat p1 * 4)).add 0) h fun x31 =>
 pm p0 fun a33 =>
 ldP (a33.add 6) h fun x35 =>
 C_ref18_Ledger_Weigh x35 p1 p2 h fun x38 h =>
 jn (α := Bool × Unit) (fun K8 =>
 pm p0 fun a40 =>
 ldI .i64 ((a40.add 4).add 0) h fun x43 =>
 if (x43 == p1) = true then
 (pm p0 fun a48 =>
 ldP (a48.add 6) h fun x50 =>
 pm x50 fun a51 =>
 ldS (a51.add 0) h fun x53 =>
 pm x53.p fun a55 =>
 0 ≤ p1 ∧ p1 < ((x53.n : Nat) : Int) ∧
 ldI .i64 ((a55.add (Int.toNat p1 * 4)).add 0) h fun x57 =>
 K8 ((x57 != x31), ()) h)
 else
 (K8 (false, ()) h)) fun j8 h =>
 if j8.1 = true then
 (pm p0 fun a63 =>
 ldI .i64 ((a63.add 4).add 0) h fun x65_0 =>
 ldI .i64 ((a63.add 4).add 1) h fun x65_1 =>
 pm p0 fun a67 =>
 ldI .i64 (a67.add 1) h fun x69 =>
 C_ref19_End x65_0 x65_1 x69 h fun x70_0 x70_1 h =>
 pm p0 fun a71 =>
 stF [.int .i64 x70_0, .int .i64 x70_1] h (a71.add 4) 0 fun h =>
 C_ref20_Lock_Settle p0 h fun h =>
 R true h)
 else
 (
 C_ref20_Lock_Settle p0 h fun h =>
 R true h)))

def S_ref17_Cores_Move (p0 : Option Addr) (p1 : Int) (p2 : Int) (h : Heap) (R : Int → Heap → Prop) : Prop :=
 C_ref17_Cores_Of p0 p1 h fun x10 h =>
 if (decide (x10 < 0)) = true then
 (
 R 4 h)
 else
 (
 if (decide (p2 < 0)) = true then
 (
 R 1 h)
 else
 (pm p0 fun a18 =>
 ldS (a18.add 0) h fun x20 =>
 if (decide (p2 ≥ ((x20.n : Nat) : Int))) = true then
 (
 R 1 h)
 else
 (
 if (x10 == p2) = true then
 (
 R 12 h)
 else
 (
 pm p0 fun a28 =>
 ldS (a28.add 0) h fun x30 =>
 pm x30.p fun a32 =>
 0 ≤ x10 ∧ x10 < ((x30.n : Nat) : Int) ∧
 ldP (a32.add (Int.toNat x10 * 1)) h fun x33 =>
 pm x33 fun a34 =>
 ldI .i64 (a34.add 3) h fun x36 =>
 if (x36 == p1) = true then
 (
 R 8 h)
 else
 (
 C_ref17_Cores_move p0 p1 p2 h fun h =>
 R 0 h)))))

def S_ref26_Machine_Do (p0 : Option Addr) (p1_0 : Int) (p1_1 : Int) (p1_2 : Int) (p1_3 : Int) (p1_4 : Int) (h : Heap) (R : Int → Heap → Prop) : Prop :=
 alc (.cells #[.int .i64 p1_0, .int .i64 p1_1, .int .i64 p1_2, .int .i64 p1_3, .int .i64 p1_4] 37) h fun b3 h =>
 pm p0 fun a13 =>
 ldS (a13.add 13) h fun x15 =>
 if (decide (((x15.n : Nat) : Int) ≥ 50000)) = true then
 (
 R 3 h)
 else
 (
 ldI .i64 ((Addr.mk b3 0 none).add 0) h fun x19 =>
 if (x19 == 1) = true then
 (ldI .i64 ((Addr.mk b3 0 none).add 1) h fun x23 =>
 if (decide (x23 < 0)) = true then
 (
 R 1 h)
 else
 (ldI .i64 ((Addr.mk b3 0 none).add 1) h fun x27 =>
 pm p0 fun a29 =>
 ldI .i64 ((a29.add 0).add 0) h fun x32 =>
 if (decide (x27 ≥ x32)) = true then
 (
 R 1 h)
 else
 (
 pm p0 fun a36 =>
 ldI .u64 (a36.add 5) h fun x38 =>
 if (decide (x38 ≥ 1048576)) = true then
 (
 R 2 h)
 else
 (
 ldI .i64 ((Addr.mk b3 0 none).add 1) h fun x42 =>
 C_ref26_Machine_Tick p0 x42 h fun h =>
 R 0 h))))
 else
 (
 if (x19 == 2) = true then
 (C_ref26_Machine_Fire p0 h fun h =>
 R 0 h)
 else
 (
 if (x19 == 3) = true then
 (pm p0 fun a52 =>
 ldP (a52.add 6) h fun x54 =>
 C_ref17_Cores_Balance x54 h fun x55a x55b x55c h =>
 if (decide (x55a < 0)) = true then
 (
 R 4 h)
 else
 (
 C_ref26_Machine_moved p0 x55a x55c h fun h =>
 R 0 h))
 else
 (
 if (x19 == 4) = true then
 (ldI .i64 ((Addr.mk b3 0 none).add 1) h fun x68 =>
 if (decide (x68 < 0)) = true then
 (
 R 1 h)
 else
 (ldI .i64 ((Addr.mk b3 0 none).add 1) h fun x72 =>
 pm p0 fun a74 =>
 ldS ((a74.add 0).add 4) h fun x77 =>
 if (decide (x72 ≥ ((x77.n : Nat) : Int))) = true then
 (
 R 1 h)
 else
 (ldI .i64 ((Addr.mk b3 0 none).add 2) h fun x83 =>
 if (decide (x83 < 0)) = true then
 (
 R 1 h)
 else
 (ldI .i64 ((Addr.mk b3 0 none).add 2) h fun x88 =>
 pm p0 fun a90 =>
 ldS (a90.add 9) h fun x92 =>
 if (decide (x88 ≥ ((x92.n : Nat) : Int))) = true then
 (
 R 1 h)
 else
 (ldI .i64 ((Addr.mk b3 0 none).add 3) h fun x98 =>
 if (decide (x98 < 1)) = true then
 (
 R 1 h)
 else
 (ldI .i64 ((Addr.mk b3 0 none).add 3) h fun x103 =>
 if (decide (x103 > 16)) = true then
 (
 R 1 h)
 else
 (ldI .i64 ((Addr.mk b3 0 none).add 4) h fun x108 =>
 if (decide (x108 < 0)) = true then
 (
 R 1 h)
 else
 (ldI .i64 ((Addr.mk b3 0 none).add 4) h fun x113 =>
 pm p0 fun a115 =>
 ldI .i64 ((a115.add 0).add 0) h fun x118 =>
 if (decide (x113 ≥ x118)) = true then
 (
 R 1 h)
 else
 (
 C_ref26_Machine_room p0 h fun x122 h =>
 if (!x122) = true then
 (
 R 3 h)
 else
 (
 ldI .i64 ((Addr.mk b3 0 none).add 1) h fun x126 =>
 ldI .i64 ((Addr.mk b3 0 none).add 2) h fun x128 =>
 ldI .i64 ((Addr.mk b3 0 none).add 3) h fun x130 =>
 ldI .i64 ((Addr.mk b3 0 none).add 4) h fun x132 =>
 C_ref26_Machine_come p0 x126 x128 x130 x132 h fun h =>
 C_ref26_Machine_Reckon p0 h fun h =>
 R 0 h))))))))))
 else
 (
 if (x19 == 5) = true then
 (ldI .i64 ((Addr.mk b3 0 none).add 1) h fun x139 =>
 if (decide (x139 < 0)) = true then
 (
 R 4 h)
 else
 (ldI .i64 ((Addr.mk b3 0 none).add 1) h fun x143 =>
 pm p0 fun a145 =>
 ldS (a145.add 11) h fun x147 =>
 if (decide (x143 ≥ ((x147.n : Nat) : Int))) = true then
 (
 R 4 h)
 else
 (
 pm p0 fun a152 =>
 ldS (a152.add 11) h fun x154 =>
 ldI .i64 ((Addr.mk b3 0 none).add 1) h fun x156 =>
 pm x154.p fun a157 =>
 0 ≤ x156 ∧ x156 < ((x154.n : Nat) : Int) ∧
 ldI .i64 ((a157.add (Int.toNat x156 * 12)).add 6) h fun x159 =>
 if (x159 == 5) = true then
 (
 R 11 h)
 else
 (
 ldI .i64 ((Addr.mk b3 0 none).add 1) h fun x163 =>
 C_ref26_Machine_die p0 x163 h fun h =>
 C_ref26_Machine_Reckon p0 h fun h =>
 R 0 h))))
 else
 (
 if (x19 == 6) = true then
 (ldI .i64 ((Addr.mk b3 0 none).add 1) h fun x170 =>
 if (decide (x170 < 0)) = true then
 (
 R 1 h)
 else
 (ldI .i64 ((Addr.mk b3 0 none).add 1) h fun x174 =>
 pm p0 fun a176 =>
 ldS (a176.add 9) h fun x178 =>
 if (decide (x174 ≥ ((x178.n : Nat) : Int))) = true then
 (
 R 1 h)
 else
 (ldI .i64 ((Addr.mk b3 0 none).add 2) h fun x184 =>
 if (decide (x184 < 1)) = true then
 (
 R 1 h)
 else
 (ldI .i64 ((Addr.mk b3 0 none).add 2) h fun x189 =>
 if (decide (x189 > 16)) = true then
 (
 R 1 h)
 else
 (
 pm p0 fun a193 =>
 ldS (a193.add 9) h fun x195 =>
 ldI .i64 ((Addr.mk b3 0 none).add 1) h fun x197 =>
 ldI .i64 ((Addr.mk b3 0 none).add 2) h fun x199 =>
 pm x195.p fun a200 =>
 0 ≤ x197 ∧ x197 < ((x195.n : Nat) : Int) ∧
 st (a200.add (Int.toNat x197 * 1)) (.int .i64 x199) h fun h =>
 Lp (τ := Int × Unit) (fun X37 s37 h => ∀ _ : Fr,
 pm p0 fun a203 =>
 ldS (a203.add 8) h fun x205 =>
 if (decide (s37.1 < ((x205.n : Nat) : Int))) = true then
 (
 pm p0 fun a211 =>
 ldS (a211.add 8) h fun x213 =>
 pm x213.p fun a215 =>
 0 ≤ s37.1 ∧ s37.1 < ((x213.n : Nat) : Int) ∧
 ldP (a215.add (Int.toNat s37.1 * 1)) h fun x216 =>
 ldI .i64 ((Addr.mk b3 0 none).add 1) h fun x218 =>
 ldI .i64 ((Addr.mk b3 0 none).add 2) h fun x220 =>
 C_ref20_Lock_Weigh x216 x218 x220 h fun x221 h =>
 cell h (a211.add 8) = some (.slice x213.p x213.n x213.c) ∧
 X37 ((IntKind.wrap .i64 (s37.1 + 1)), ()) h)
 else
 (
 R 0 h)) ((0 : Int), ()) h)))))
 else
 (
 if (x19 == 7) = true then
 (pm p0 fun a225 =>
 ldP (a225.add 6) h fun x227 =>
 ldI .i64 ((Addr.mk b3 0 none).add 1) h fun x229 =>
 ldI .i64 ((Addr.mk b3 0 none).add 2) h fun x231 =>
 C_ref17_Cores_Move x227 x229 x231 h fun x232 h =>
 if (x232 != 0) = true then
 (
 R x232 h)
 else
 (
 ldI .i64 ((Addr.mk b3 0 none).add 1) h fun x238 =>
 ldI .i64 ((Addr.mk b3 0 none).add 2) h fun x240 =>
 C_ref26_Machine_moved p0 x238 x240 h fun h =>
 R 0 h))
 else
 (
 if (x19 == 8) = true then
 (ldI .i64 ((Addr.mk b3 0 none).add 1) h fun x245 =>
 if (decide (x245 < 0)) = true then
 (
 R 1 h)
 else
 (ldI .i64 ((Addr.mk b3 0 none).add 1) h fun x249 =>
 if (decide (x249 > 200)) = true then
 (
 R 1 h)
 else
 (
 pm p0 fun a253 =>
 ldI .u64 (a253.add 5) h fun x255 =>
 ldI .i64 ((Addr.mk b3 0 none).add 1) h fun x257 =>
 pm p0 fun a259 =>
 ldI .i64 ((a259.add 0).add 0) h fun x262 =>
 if (decide ((IntKind.wrap .u64 (x255 + (IntKind.wrap .u64 (IntKind.wrap .i64 (x257 * x262))))) > 1048576)) = true then
 (
 R 2 h)
 else
 (
 Lp (τ := Int × Unit) (fun X51 s51 h => ∀ _ : Fr,
 ldI .i64 ((Addr.mk b3 0 none).add 1) h fun x269 =>
 if (decide (s51.1 < x269)) = true then
 (
 Lp (τ := Int × Unit) (fun X54 s54 h => ∀ _ : Fr,
 pm p0 fun a275 =>
 ldI .i64 ((a275.add 0).add 0) h fun x278 =>
 if (decide (s54.1 < x278)) = true then
 (
 C_ref26_Machine_Tick p0 s54.1 h fun h =>
 X54 ((IntKind.wrap .i64 (s54.1 + 1)), ()) h)
 else
 (
 C_ref26_Machine_Fire p0 h fun h =>
 X51 ((IntKind.wrap .i64 (s51.1 + 1)), ()) h)) ((0 : Int), ()) h)
 else
 (
 R 0 h)) ((0 : Int), ()) h))))
 else
 (
 R 1 h)))))))))

def S_law28_AuditSafe (p0_0 : ByteArray) (p0_1 : Sl) (h : Heap) (R : Bool → Heap → Prop) : Prop :=
 alc (.cells #[.string p0_0, .slice p0_1.p p0_1.n p0_1.c] 24) h fun b1 h =>
 C_law28_awake h fun x22 h =>
 if (!x22) = true then
 (
 R false h)
 else
 (
 ldStr ((Addr.mk b1 0 none).add 0) h fun x25_0 =>
 ldS ((Addr.mk b1 0 none).add 1) h fun x25_1 =>
 C_law26_Play_Of x25_0 x25_1 60 150 h fun x26a_0 x26a_1 x26a_2 x26a_3 x26a_4 x26b h =>
 alc (.cells #[.int .i64 0, .int .i64 0, .slice none 0 0, .slice none 0 0, .slice none 0 0] 30) h fun b3 h =>
 stF [.int .i64 x26a_0, .int .i64 x26a_1, .slice x26a_2.p x26a_2.n x26a_2.c, .slice x26a_3.p x26a_3.n x26a_3.c, .slice x26a_4.p x26a_4.n x26a_4.c] h (Addr.mk b3 0 none) 0 fun h =>
 if (!x26b) = true then
 (
 R true h)
 else
 (
 ldI .i64 ((Addr.mk b3 0 none).add 0) h fun x32_0 =>
 ldI .i64 ((Addr.mk b3 0 none).add 1) h fun x32_1 =>
 ldS ((Addr.mk b3 0 none).add 2) h fun x32_2 =>
 ldS ((Addr.mk b3 0 none).add 3) h fun x32_3 =>
 ldS ((Addr.mk b3 0 none).add 4) h fun x32_4 =>
 C_ref26_New x32_0 x32_1 x32_2 x32_3 x32_4 h fun x33a x33b h =>
 ldS ((Addr.mk b1 0 none).add 1) h fun x37 =>
 Lp (τ := Int × Unit) (fun X8 s8 h => ∀ _ : Fr,
 if (decide (s8.1 < ((x37.n : Nat) : Int))) = true then
 (
 pm x37.p fun a41 =>
 0 ≤ s8.1 ∧ s8.1 < ((x37.n : Nat) : Int) ∧
 ldI .i64 ((a41.add (Int.toNat s8.1 * 5)).add 0) h fun x42_0 =>
 ldI .i64 ((a41.add (Int.toNat s8.1 * 5)).add 1) h fun x42_1 =>
 ldI .i64 ((a41.add (Int.toNat s8.1 * 5)).add 2) h fun x42_2 =>
 ldI .i64 ((a41.add (Int.toNat s8.1 * 5)).add 3) h fun x42_3 =>
 ldI .i64 ((a41.add (Int.toNat s8.1 * 5)).add 4) h fun x42_4 =>
 alc (.cells #[.int .i64 0, .int .i64 0, .int .i64 0, .int .i64 0, .int .i64 0] 37) h fun b8 h =>
 stF [.int .i64 x42_0, .int .i64 x42_1, .int .i64 x42_2, .int .i64 x42_3, .int .i64 x42_4] h (Addr.mk b8 0 none) 0 fun h =>
 ldI .i64 ((Addr.mk b8 0 none).add 0) h fun x44_0 =>
 ldI .i64 ((Addr.mk b8 0 none).add 1) h fun x44_1 =>
 ldI .i64 ((Addr.mk b8 0 none).add 2) h fun x44_2 =>
 ldI .i64 ((Addr.mk b8 0 none).add 3) h fun x44_3 =>
 ldI .i64 ((Addr.mk b8 0 none).add 4) h fun x44_4 =>
 C_ref26_Machine_Do x33a x44_0 x44_1 x44_2 x44_3 x44_4 h fun x45 h =>
 X8 ((IntKind.wrap .i64 (s8.1 + 1)), ()) h)
 else
 (
 pm x33a fun a48 =>
 ldS (a48.add 13) h fun x50 =>
 pm x33a fun a53 =>
 ldS (a53.add 13) h fun x55 =>
 C_audit_Holds x50 h fun x51 h =>
 cell h (a53.add 13) = some (.slice x55.p x55.n x55.c) ∧
 C_audit_Waits x55 h fun x56 h =>
 cell h (a48.add 13) = some (.slice x50.p x50.n x50.c) ∧
 C_audit_Beside x51 h fun x59a x59b x59c h =>
 if x59c = true then
 (
 R false h)
 else
 (
 Lp (τ := Int × Int × Unit) (fun X18 s18 h => ∀ _ : Fr,
 if (decide (s18.2.1 < ((x51.n : Nat) : Int))) = true then
 (
 pm x51.p fun a68 =>
 0 ≤ s18.2.1 ∧ s18.2.1 < ((x51.n : Nat) : Int) ∧
 ldI .i64 ((a68.add (Int.toNat s18.2.1 * 6)).add 0) h fun x69_0 =>
 ldI .i64 ((a68.add (Int.toNat s18.2.1 * 6)).add 1) h fun x69_1 =>
 ldI .u64 ((a68.add (Int.toNat s18.2.1 * 6)).add 2) h fun x69_2 =>
 ldI .u64 ((a68.add (Int.toNat s18.2.1 * 6)).add 3) h fun x69_3 =>
 ldI .i64 ((a68.add (Int.toNat s18.2.1 * 6)).add 4) h fun x69_4 =>
 ldB ((a68.add (Int.toNat s18.2.1 * 6)).add 5) h fun x69_5 =>
 alc (.cells #[.int .i64 0, .int .i64 0, .int .u64 0, .int .u64 0, .int .i64 0, .bool false] 53) h fun b17 h =>
 stF [.int .i64 x69_0, .int .i64 x69_1, .int .u64 x69_2, .int .u64 x69_3, .int .i64 x69_4, .bool x69_5] h (Addr.mk b17 0 none) 0 fun h =>
 ldI .i64 ((Addr.mk b17 0 none).add 4) h fun x71 =>
 if (x71 == 0) = true then
 (
 ldI .i64 ((Addr.mk b17 0 none).add 1) h fun x76 =>
 if (decide (x76 < 0)) = true then
 (
 R false h)
 else
 (ldI .i64 ((Addr.mk b17 0 none).add 1) h fun x80 =>
 pm x33a fun a82 =>
 ldS (a82.add 8) h fun x84 =>
 if (decide (x80 ≥ ((x84.n : Nat) : Int))) = true then
 (
 R false h)
 else
 (pm x33a fun a90 =>
 ldS (a90.add 8) h fun x92 =>
 ldI .i64 ((Addr.mk b17 0 none).add 1) h fun x94 =>
 pm x92.p fun a95 =>
 0 ≤ x94 ∧ x94 < ((x92.n : Nat) : Int) ∧
 ldP (a95.add (Int.toNat x94 * 1)) h fun x96 =>
 ldI .i64 ((Addr.mk b17 0 none).add 0) h fun x98 =>
 C_ref20_Lock_Holds x96 x98 h fun x99 h =>
 cell h ((Addr.mk b17 0 none).add 1) = some (.int .i64 x94) ∧
 cell h (a90.add 8) = some (.slice x92.p x92.n x92.c) ∧
 cell h (a82.add 8) = some (.slice x84.p x84.n x84.c) ∧
 cell h ((Addr.mk b17 0 none).add 1) = some (.int .i64 x80) ∧
 cell h ((Addr.mk b17 0 none).add 1) = some (.int .i64 x76) ∧
 if (!x99) = true then
 (
 R false h)
 else
 (
 X18 ((IntKind.wrap .i64 (s18.1 + 1)), (IntKind.wrap .i64 (s18.2.1 + 1)), ()) h))))
 else
 (ldI .u64 ((Addr.mk b17 0 none).add 3) h fun x103 =>
 ldI .u64 ((Addr.mk b17 0 none).add 2) h fun x105 =>
 if (decide (x103 < x105)) = true then
 (
 R false h)
 else
 (
 X18 (s18.1, (IntKind.wrap .i64 (s18.2.1 + 1)), ()) h)))
 else
 (
 Lp (τ := Int × Int × Unit) (fun X28 s28 h => ∀ _ : Fr,
 if (decide (s28.2.1 < ((x56.n : Nat) : Int))) = true then
 (
 pm x56.p fun a112 =>
 0 ≤ s28.2.1 ∧ s28.2.1 < ((x56.n : Nat) : Int) ∧
 ldI .i64 ((a112.add (Int.toNat s28.2.1 * 6)).add 0) h fun x113_0 =>
 ldI .i64 ((a112.add (Int.toNat s28.2.1 * 6)).add 1) h fun x113_1 =>
 ldI .u64 ((a112.add (Int.toNat s28.2.1 * 6)).add 2) h fun x113_2 =>
 ldI .u64 ((a112.add (Int.toNat s28.2.1 * 6)).add 3) h fun x113_3 =>
 ldI .i64 ((a112.add (Int.toNat s28.2.1 * 6)).add 4) h fun x113_4 =>
 ldB ((a112.add (Int.toNat s28.2.1 * 6)).add 5) h fun x113_5 =>
 alc (.cells #[.int .i64 0, .int .i64 0, .int .u64 0, .int .u64 0, .int .i64 0, .bool false] 53) h fun b19 h =>
 stF [.int .i64 x113_0, .int .i64 x113_1, .int .u64 x113_2, .int .u64 x113_3, .int .i64 x113_4, .bool x113_5] h (Addr.mk b19 0 none) 0 fun h =>
 ldI .i64 ((Addr.mk b19 0 none).add 4) h fun x115 =>
 if (x115 == 0) = true then
 (
 ldI .i64 ((Addr.mk b19 0 none).add 1) h fun x120 =>
 if (decide (x120 < 0)) = true then
 (
 R false h)
 else
 (ldI .i64 ((Addr.mk b19 0 none).add 1) h fun x124 =>
 pm x33a fun a126 =>
 ldS (a126.add 8) h fun x128 =>
 if (decide (x124 ≥ ((x128.n : Nat) : Int))) = true then
 (
 R false h)
 else
 (pm x33a fun a134 =>
 ldS (a134.add 8) h fun x136 =>
 ldI .i64 ((Addr.mk b19 0 none).add 1) h fun x138 =>
 pm x136.p fun a139 =>
 0 ≤ x138 ∧ x138 < ((x136.n : Nat) : Int) ∧
 ldP (a139.add (Int.toNat x138 * 1)) h fun x140 =>
 ldI .i64 ((Addr.mk b19 0 none).add 0) h fun x142 =>
 C_ref20_Lock_Waits x140 x142 h fun x143 h =>
 cell h ((Addr.mk b19 0 none).add 1) = some (.int .i64 x138) ∧
 cell h (a134.add 8) = some (.slice x136.p x136.n x136.c) ∧
 cell h (a126.add 8) = some (.slice x128.p x128.n x128.c) ∧
 cell h ((Addr.mk b19 0 none).add 1) = some (.int .i64 x124) ∧
 cell h ((Addr.mk b19 0 none).add 1) = some (.int .i64 x120) ∧
 if (!x143) = true then
 (
 R false h)
 else
 (
 X28 ((IntKind.wrap .i64 (s28.1 + 1)), (IntKind.wrap .i64 (s28.2.1 + 1)), ()) h))))
 else
 (ldI .u64 ((Addr.mk b19 0 none).add 3) h fun x147 =>
 ldI .u64 ((Addr.mk b19 0 none).add 2) h fun x149 =>
 if (decide (x147 < x149)) = true then
 (
 R false h)
 else
 (
 X28 (s28.1, (IntKind.wrap .i64 (s28.2.1 + 1)), ()) h)))
 else
 (
 pm x33a fun a153 =>
 ldS (a153.add 8) h fun x155 =>
 Lp (τ := Int × Int × Int × Unit) (fun X38 s38 h => ∀ _ : Fr,
 if (decide (s38.2.2.1 < ((x155.n : Nat) : Int))) = true then
 (
 pm x155.p fun a159 =>
 0 ≤ s38.2.2.1 ∧ s38.2.2.1 < ((x155.n : Nat) : Int) ∧
 ldP (a159.add (Int.toNat s38.2.2.1 * 1)) h fun x160 =>
 pm x160 fun a163 =>
 ldS (a163.add 2) h fun x165 =>
 pm x160 fun a170 =>
 ldS (a170.add 3) h fun x172 =>
 X38 ((IntKind.wrap .i64 (s38.1 - ((x165.n : Nat) : Int))), (IntKind.wrap .i64 (s38.2.1 - ((x172.n : Nat) : Int))), (IntKind.wrap .i64 (s38.2.2.1 + 1)), ()) h)
 else
 (
 if (s38.1 == 0) = true then
 (
 R (s38.2.1 == 0) h)
 else
 (
 R false h))) ((s18.1 : Int), (s28.1 : Int), (0 : Int), ()) h)) ((0 : Int), (0 : Int), ()) h)) ((0 : Int), (0 : Int), ()) h))) ((0 : Int), ()) h))

end Go.Proofs.YtbkjeahmbnkmeaaGreat
