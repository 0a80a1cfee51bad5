/- Printed by shallow.py (mine): the functions' WP formulas, and that the code computes them. -/
import Derived.Test.YtbkjeahmbnkmeaaGreatGC
set_option linter.unusedVariables false
set_option maxRecDepth 100000
namespace Go.Proofs.YtbkjeahmbnkmeaaGreat
open Go Ev

def S_law26_Play_Of (p0_0 : ByteArray) (p0_1 : Sl) (p1 : Int) (p2 : Int) (h : Heap) (R : Int → Int → Sl → Sl → Sl → Bool → Heap → Prop) : Prop :=
 alc (.cells #[.string p0_0, .slice p0_1.p p0_1.n p0_1.c] 24) h fun b3 h =>
 alc (.cells #[.int .i64 0, .int .i64 0, .slice none 0 0, .slice none 0 0, .slice none 0 0] 30) h fun b6 h =>
 ldStr ((Addr.mk b3 0 none).add 0) h fun x14 =>
 if (decide ((x14.size : Int) > 700)) = true then
 (
 stF [.int .i64 0, .int .i64 0, .slice none 0 0, .slice none 0 0, .slice none 0 0] h (Addr.mk b6 0 none) 0 fun h =>
 ldI .i64 ((Addr.mk b6 0 none).add 0) h fun x9000_0 =>
 ldI .i64 ((Addr.mk b6 0 none).add 1) h fun x9000_1 =>
 ldS ((Addr.mk b6 0 none).add 2) h fun x9000_2 =>
 ldS ((Addr.mk b6 0 none).add 3) h fun x9000_3 =>
 ldS ((Addr.mk b6 0 none).add 4) h fun x9000_4 =>
 R x9000_0 x9000_1 x9000_2 x9000_3 x9000_4 false h)
 else
 (ldS ((Addr.mk b3 0 none).add 1) h fun x19 =>
 if (decide (((x19.n : Nat) : Int) > p1)) = true then
 (stF [.int .i64 0, .int .i64 0, .slice none 0 0, .slice none 0 0, .slice none 0 0] h (Addr.mk b6 0 none) 0 fun h =>
 ldI .i64 ((Addr.mk b6 0 none).add 0) h fun x9000_0 =>
 ldI .i64 ((Addr.mk b6 0 none).add 1) h fun x9000_1 =>
 ldS ((Addr.mk b6 0 none).add 2) h fun x9000_2 =>
 ldS ((Addr.mk b6 0 none).add 3) h fun x9000_3 =>
 ldS ((Addr.mk b6 0 none).add 4) h fun x9000_4 =>
 R x9000_0 x9000_1 x9000_2 x9000_3 x9000_4 false h)
 else
 (
 ldS ((Addr.mk b3 0 none).add 1) h fun x26 =>
 Lp (τ := Int × Int × Unit) (fun X4 s4 h => ∀ _ : Fr,
 if (decide (s4.2.1 < ((x26.n : Nat) : Int))) = true then
 (
 pm x26.p fun a30 =>
 0 ≤ s4.2.1 ∧ s4.2.1 < ((x26.n : Nat) : Int) ∧
 ldI .i64 ((a30.add (Int.toNat s4.2.1 * 5)).add 0) h fun x31_0 =>
 ldI .i64 ((a30.add (Int.toNat s4.2.1 * 5)).add 1) h fun x31_1 =>
 ldI .i64 ((a30.add (Int.toNat s4.2.1 * 5)).add 2) h fun x31_2 =>
 ldI .i64 ((a30.add (Int.toNat s4.2.1 * 5)).add 3) h fun x31_3 =>
 ldI .i64 ((a30.add (Int.toNat s4.2.1 * 5)).add 4) h fun x31_4 =>
 alc (.cells #[.int .i64 0, .int .i64 0, .int .i64 0, .int .i64 0, .int .i64 0] 37) h fun b9 h =>
 stF [.int .i64 x31_0, .int .i64 x31_1, .int .i64 x31_2, .int .i64 x31_3, .int .i64 x31_4] h (Addr.mk b9 0 none) 0 fun h =>
 ldI .i64 ((Addr.mk b9 0 none).add 0) h fun x33 =>
 if (x33 != 8) = true then
 (
 X4 (s4.1, (IntKind.wrap .i64 (s4.2.1 + 1)), ()) h)
 else
 (ldI .i64 ((Addr.mk b9 0 none).add 1) h fun x37 =>
 if (decide (x37 < 0)) = true then
 (
 X4 (s4.1, (IntKind.wrap .i64 (s4.2.1 + 1)), ()) h)
 else
 (ldI .i64 ((Addr.mk b9 0 none).add 1) h fun x42 =>
 if (decide (x42 > 200)) = true then
 (
 X4 (s4.1, (IntKind.wrap .i64 (s4.2.1 + 1)), ()) h)
 else
 (
 ldI .i64 ((Addr.mk b9 0 none).add 1) h fun x47 =>
 if (decide ((IntKind.wrap .i64 (s4.1 - x47)) < 0)) = true then
 (stF [.int .i64 0, .int .i64 0, .slice none 0 0, .slice none 0 0, .slice none 0 0] h (Addr.mk b6 0 none) 0 fun h =>
 ldI .i64 ((Addr.mk b6 0 none).add 0) h fun x9000_0 =>
 ldI .i64 ((Addr.mk b6 0 none).add 1) h fun x9000_1 =>
 ldS ((Addr.mk b6 0 none).add 2) h fun x9000_2 =>
 ldS ((Addr.mk b6 0 none).add 3) h fun x9000_3 =>
 ldS ((Addr.mk b6 0 none).add 4) h fun x9000_4 =>
 R x9000_0 x9000_1 x9000_2 x9000_3 x9000_4 false h)
 else
 (
 X4 ((IntKind.wrap .i64 (s4.1 - x47)), (IntKind.wrap .i64 (s4.2.1 + 1)), ()) h)))))
 else
 (
 ldStr ((Addr.mk b3 0 none).add 0) h fun x55 =>
 C_ref14_Parse x55 h fun x56a_0 x56a_1 x56a_2 x56a_3 x56a_4 x56a_5 x56b x56c h =>
 alc (.cells #[.int .i64 0, .int .i64 0, .slice none 0 0, .slice none 0 0, .slice none 0 0, .slice none 0 0] 75) h fun b10 h =>
 stF [.int .i64 x56a_0, .int .i64 x56a_1, .slice x56a_2.p x56a_2.n x56a_2.c, .slice x56a_3.p x56a_3.n x56a_3.c, .slice x56a_4.p x56a_4.n x56a_4.c, .slice x56a_5.p x56a_5.n x56a_5.c] h (Addr.mk b10 0 none) 0 fun h =>
 ldI .i64 (((Addr.mk b10 0 none).add 0).add 0) h fun x61_0 =>
 ldI .i64 (((Addr.mk b10 0 none).add 0).add 1) h fun x61_1 =>
 ldS (((Addr.mk b10 0 none).add 0).add 2) h fun x61_2 =>
 ldS (((Addr.mk b10 0 none).add 0).add 3) h fun x61_3 =>
 ldS (((Addr.mk b10 0 none).add 0).add 4) h fun x61_4 =>
 if (x56c == 0) = true then
 (ldS ((Addr.mk b10 0 none).add 5) h fun x66 =>
 stF [.int .i64 x61_0, .int .i64 x61_1, .slice x61_2.p x61_2.n x61_2.c, .slice x61_3.p x61_3.n x61_3.c, .slice x61_4.p x61_4.n x61_4.c] h (Addr.mk b6 0 none) 0 fun h =>
 cell h ((Addr.mk b10 0 none).add 5) = some (.slice x66.p x66.n x66.c) ∧
 ldI .i64 ((Addr.mk b6 0 none).add 0) h fun x9000_0 =>
 ldI .i64 ((Addr.mk b6 0 none).add 1) h fun x9000_1 =>
 ldS ((Addr.mk b6 0 none).add 2) h fun x9000_2 =>
 ldS ((Addr.mk b6 0 none).add 3) h fun x9000_3 =>
 ldS ((Addr.mk b6 0 none).add 4) h fun x9000_4 =>
 R x9000_0 x9000_1 x9000_2 x9000_3 x9000_4 (((x66.n : Nat) : Int) == 0) h)
 else
 (stF [.int .i64 x61_0, .int .i64 x61_1, .slice x61_2.p x61_2.n x61_2.c, .slice x61_3.p x61_3.n x61_3.c, .slice x61_4.p x61_4.n x61_4.c] h (Addr.mk b6 0 none) 0 fun h =>
 ldI .i64 ((Addr.mk b6 0 none).add 0) h fun x9000_0 =>
 ldI .i64 ((Addr.mk b6 0 none).add 1) h fun x9000_1 =>
 ldS ((Addr.mk b6 0 none).add 2) h fun x9000_2 =>
 ldS ((Addr.mk b6 0 none).add 3) h fun x9000_3 =>
 ldS ((Addr.mk b6 0 none).add 4) h fun x9000_4 =>
 R x9000_0 x9000_1 x9000_2 x9000_3 x9000_4 false h))) ((p2 : Int), (0 : Int), ()) h))

def S_ref12_within (p0 : Int) (p1 : Int) (h : Heap) (R : Bool → Heap → Prop) : Prop :=
 if (decide (p0 ≥ 1)) = true then
 (
 R (decide (p0 ≤ p1)) h)
 else
 (
 R false h)

def S_ref12_May (p0_0 : Int) (p0_1 : Int) (p0_2 : Sl) (p0_3 : Sl) (p0_4 : Sl) (h : Heap) (R : Bool → Heap → Prop) : Prop :=
 alc (.cells #[.int .i64 p0_0, .int .i64 p0_1, .slice p0_2.p p0_2.n p0_2.c, .slice p0_3.p p0_3.n p0_3.c, .slice p0_4.p p0_4.n p0_4.c] 30) h fun b1 h =>
 ldI .i64 ((Addr.mk b1 0 none).add 0) h fun x10 =>
 C_ref12_within x10 4 h fun x11 h =>
 if (!x11) = true then
 (
 R false h)
 else
 (ldI .i64 ((Addr.mk b1 0 none).add 1) h fun x15 =>
 C_ref12_within x15 8 h fun x16 h =>
 if (!x16) = true then
 (
 R false h)
 else
 (ldS ((Addr.mk b1 0 none).add 2) h fun x21 =>
 C_ref12_within ((x21.n : Nat) : Int) 4 h fun x23 h =>
 if (!x23) = true then
 (
 R false h)
 else
 (ldS ((Addr.mk b1 0 none).add 3) h fun x28 =>
 if (decide (((x28.n : Nat) : Int) > 8)) = true then
 (
 R false h)
 else
 (ldS ((Addr.mk b1 0 none).add 4) h fun x34 =>
 C_ref12_within ((x34.n : Nat) : Int) 8 h fun x36 h =>
 if (!x36) = true then
 (
 R false h)
 else
 (
 Lp (τ := Int × Unit) (fun X4 s4 h => ∀ _ : Fr,
 ldS ((Addr.mk b1 0 none).add 2) h fun x41 =>
 if (decide (s4.1 < ((x41.n : Nat) : Int))) = true then
 (
 ldS ((Addr.mk b1 0 none).add 2) h fun x47 =>
 pm x47.p fun a49 =>
 0 ≤ s4.1 ∧ s4.1 < ((x47.n : Nat) : Int) ∧
 ldI .i64 (a49.add (Int.toNat s4.1 * 1)) h fun x50 =>
 C_ref12_within x50 16 h fun x51 h =>
 if (!x51) = true then
 (
 R false h)
 else
 (
 X4 ((IntKind.wrap .i64 (s4.1 + 1)), ()) h))
 else
 (
 Lp (τ := Int × Unit) (fun X9 s9 h => ∀ _ : Fr,
 ldS ((Addr.mk b1 0 none).add 3) h fun x55 =>
 if (decide (s9.1 < ((x55.n : Nat) : Int))) = true then
 (
 ldS ((Addr.mk b1 0 none).add 3) h fun x61 =>
 pm x61.p fun a63 =>
 0 ≤ s9.1 ∧ s9.1 < ((x61.n : Nat) : Int) ∧
 ldB ((a63.add (Int.toNat s9.1 * 5)).add 0) h fun x64_0 =>
 ldI .i64 ((a63.add (Int.toNat s9.1 * 5)).add 1) h fun x64_1 =>
 ldI .i64 ((a63.add (Int.toNat s9.1 * 5)).add 2) h fun x64_2 =>
 ldI .i64 ((a63.add (Int.toNat s9.1 * 5)).add 3) h fun x64_3 =>
 ldI .i64 ((a63.add (Int.toNat s9.1 * 5)).add 4) h fun x64_4 =>
 alc (.cells #[.bool false, .int .i64 0, .int .i64 0, .int .i64 0, .int .i64 0] 83) h fun b5 h =>
 stF [.bool x64_0, .int .i64 x64_1, .int .i64 x64_2, .int .i64 x64_3, .int .i64 x64_4] h (Addr.mk b5 0 none) 0 fun h =>
 ldI .i64 ((Addr.mk b5 0 none).add 1) h fun x66 =>
 C_ref12_within x66 16 h fun x67 h =>
 if (!x67) = true then
 (
 R false h)
 else
 (ldI .i64 ((Addr.mk b5 0 none).add 2) h fun x71 =>
 C_ref12_within x71 32 h fun x72 h =>
 if (!x72) = true then
 (
 R false h)
 else
 (
 ldB ((Addr.mk b5 0 none).add 0) h fun x76 =>
 if x76 = true then
 (ldI .i64 ((Addr.mk b5 0 none).add 3) h fun x79 =>
 C_ref12_within x79 16 h fun x80 h =>
 if (!x80) = true then
 (
 R false h)
 else
 (ldI .i64 ((Addr.mk b5 0 none).add 4) h fun x84 =>
 C_ref12_within x84 16 h fun x85 h =>
 if (!x85) = true then
 (
 R false h)
 else
 (ldB ((Addr.mk b5 0 none).add 0) h fun x91 =>
 if (!x91) = true then
 (ldI .i64 ((Addr.mk b5 0 none).add 3) h fun x95 =>
 if (x95 != 0) = true then
 (
 R false h)
 else
 (ldI .i64 ((Addr.mk b5 0 none).add 4) h fun x99 =>
 if (x99 != 0) = true then
 (
 R false h)
 else
 (
 X9 ((IntKind.wrap .i64 (s9.1 + 1)), ()) h)))
 else
 (
 X9 ((IntKind.wrap .i64 (s9.1 + 1)), ()) h))))
 else
 (ldB ((Addr.mk b5 0 none).add 0) h fun x91 =>
 if (!x91) = true then
 (ldI .i64 ((Addr.mk b5 0 none).add 3) h fun x95 =>
 if (x95 != 0) = true then
 (
 R false h)
 else
 (ldI .i64 ((Addr.mk b5 0 none).add 4) h fun x99 =>
 if (x99 != 0) = true then
 (
 R false h)
 else
 (
 X9 ((IntKind.wrap .i64 (s9.1 + 1)), ()) h)))
 else
 (
 X9 ((IntKind.wrap .i64 (s9.1 + 1)), ()) h)))))
 else
 (
 Lp (τ := Int × Unit) (fun X17 s17 h => ∀ _ : Fr,
 ldS ((Addr.mk b1 0 none).add 4) h fun x106 =>
 if (decide (s17.1 < ((x106.n : Nat) : Int))) = true then
 (
 ldS ((Addr.mk b1 0 none).add 4) h fun x113 =>
 pm x113.p fun a115 =>
 0 ≤ s17.1 ∧ s17.1 < ((x113.n : Nat) : Int) ∧
 ldB ((a115.add (Int.toNat s17.1 * 2)).add 0) h fun x116_0 =>
 ldS ((a115.add (Int.toNat s17.1 * 2)).add 1) h fun x116_1 =>
 ldS ((Addr.mk b1 0 none).add 3) h fun x118 =>
 ldS ((Addr.mk b1 0 none).add 4) h fun x120 =>
 C_ref11_Check x116_0 x116_1 x118 ((x120.n : Nat) : Int) h fun x122a x122b h =>
 cell h ((Addr.mk b1 0 none).add 4) = some (.slice x120.p x120.n x120.c) ∧
 cell h ((Addr.mk b1 0 none).add 4) = some (.slice x113.p x113.n x113.c) ∧
 if (x122b != 0) = true then
 (
 R false h)
 else
 (
 X17 ((IntKind.wrap .i64 (s17.1 + 1)), ()) h))
 else
 (
 R true h)) ((0 : Int), ()) h)) ((0 : Int), ()) h)) ((0 : Int), ()) h)))))

def S_ref15_Bring (p0 : Int) (p1 : Int) (p2 : Int) (h : Heap) (R : Int → Heap → Prop) : Prop :=
 if (decide (p0 < p1)) = true then
 (
 R p1 h)
 else
 (
 if (decide (p0 > p2)) = true then
 (
 R p2 h)
 else
 (
 R p0 h))

def S_ref16_New (p0 : Int) (h : Heap) (R : (Option Addr) → Heap → Prop) : Prop :=
 C_ref15_Bring p0 1 8 h fun x4 h =>
 alc (.cells #[.int .i64 x4, .int .u64 0, .slice none 0 0, .int .i64 (-1), .int .i64 0] 130) h fun b6 h =>
 R (some (Addr.mk b6 0 none)) h

def S_ref17_New (p0 : Int) (p1 : Int) (h : Heap) (R : (Option Addr) → Heap → Prop) : Prop :=
 alc (.cells #[.slice none 0 0] 120) h fun b8 h =>
 Lp (τ := Int × Unit) (fun X3 s3 h => ∀ _ : Fr,
 C_ref15_Bring p0 1 4 h fun x11 h =>
 if (decide (s3.1 < x11)) = true then
 (
 ldS ((Addr.mk b8 0 none).add 0) h fun x19 =>
 C_ref16_New p1 h fun x21 h =>
 cell h ((Addr.mk b8 0 none).add 0) = some (.slice x19.p x19.n x19.c) ∧
 alc (.cells #[.pointer x21] 122) h fun b22 h =>
 cell h ((Addr.mk b8 0 none).add 0) = some (.slice x19.p x19.n x19.c) ∧
 appW 122 1 8 (.pointer none) x19 (Sl.mk (some (Addr.mk b22 0 none)) 1 1) h fun x23 h =>
 st ((Addr.mk b8 0 none).add 0) (.slice x23.p x23.n x23.c) h fun h =>
 X3 ((IntKind.wrap .i64 (s3.1 + 1)), ()) h)
 else
 (
 R (some (Addr.mk b8 0 none)) h)) ((0 : Int), ()) h

def S_ref22_New (h : Heap) (R : (Option Addr) → Heap → Prop) : Prop :=
 0 ≤ (64 : Int) ∧ (64 : Int) ≤ (64 : Int) ∧ (64 : Int) ≤ 1000000 ∧ 8 ≤ 1000000 ∧
 alc (.cells (fillL (Int.toNat (64 : Int)) 1 [.int .u64 0]).toArray 41) h fun b1 h =>
 alc (.cells #[.slice (some (Addr.mk b1 0 none)) (Int.toNat (64 : Int)) (Int.toNat (64 : Int))] 125) h fun b3 h =>
 R (some (Addr.mk b3 0 none)) h

def S_ref18_New (p0 : Sl) (p1 : Int) (p2 : Int) (h : Heap) (R : (Option Addr) → Heap → Prop) : Prop :=
 C_ref15_Bring p1 1 32 h fun x10 h =>
 C_ref15_Bring p2 1 32 h fun x12 h =>
 alc (.cells #[.slice none 0 0, .int .i64 x10, .int .i64 x12, .int .u64 0] 146) h fun b14 h =>
 Lp (τ := Int × Unit) (fun X3 s3 h => ∀ _ : Fr,
 if (decide (s3.1 < ((p0.n : Nat) : Int))) = true then
 (
 if (decide (s3.1 < 8)) = true then
 (
 ldS ((Addr.mk b14 0 none).add 0) h fun x29 =>
 pm p0.p fun a32 =>
 0 ≤ s3.1 ∧ s3.1 < ((p0.n : Nat) : Int) ∧
 ldI .i64 (a32.add (Int.toNat s3.1 * 1)) h fun x33 =>
 C_ref15_Bring x33 1 16 h fun x34 h =>
 cell h ((Addr.mk b14 0 none).add 0) = some (.slice x29.p x29.n x29.c) ∧
 alc (.cells #[.int .i64 x34, .int .u64 0, .int .i64 0, .bool false] 143) h fun b36 h =>
 cell h (a32.add (Int.toNat s3.1 * 1)) = some (.int .i64 x33) ∧
 cell h ((Addr.mk b14 0 none).add 0) = some (.slice x29.p x29.n x29.c) ∧
 appW 143 4 32 (.agg #[.int .i64 0, .int .u64 0, .int .i64 0, .bool false]) x29 (Sl.mk (some (Addr.mk b36 0 none)) 1 1) h fun x37 h =>
 cell h (a32.add (Int.toNat s3.1 * 1)) = some (.int .i64 x33) ∧
 st ((Addr.mk b14 0 none).add 0) (.slice x37.p x37.n x37.c) h fun h =>
 X3 ((IntKind.wrap .i64 (s3.1 + 1)), ()) h)
 else
 (
 R (some (Addr.mk b14 0 none)) h))
 else
 (
 R (some (Addr.mk b14 0 none)) h)) ((0 : Int), ()) h

def S_ref20_New (p0_0 : Bool) (p0_1 : Int) (p0_2 : Int) (p0_3 : Int) (p0_4 : Int) (p1 : Sl) (h : Heap) (R : (Option Addr) → Heap → Prop) : Prop :=
 alc (.cells #[.bool p0_0, .int .i64 p0_1, .int .i64 p0_2, .int .i64 p0_3, .int .i64 p0_4] 83) h fun b2 h =>
 jn (α := Sl × Unit) (fun K2 =>
 if (decide (((p1.n : Nat) : Int) > 4)) = true then
 (slc 1 p1.p p1.c (0 : Int) 4 fun x12 =>
 K2 (x12, ()) h)
 else
 (K2 (p1, ()) h)) fun j2 h =>
 jn (α := Sl × Unit) (fun K4 =>
 if (((j2.1.n : Nat) : Int) == 0) = true then
 (alc (.cells #[.int .i64 1] 3) h fun b16 h =>
 K4 ((Sl.mk (some (Addr.mk b16 0 none)) 1 1), ()) h)
 else
 (K4 (j2.1, ()) h)) fun j4 h =>
 jn (α := Sl × Unit) (fun K6 =>
 ldB ((Addr.mk b2 0 none).add 0) h fun x18 =>
 if x18 = true then
 (ldI .i64 ((Addr.mk b2 0 none).add 3) h fun x20 =>
 ldI .i64 ((Addr.mk b2 0 none).add 4) h fun x22 =>
 alc (.cells #[.int .i64 x20, .int .i64 x22] 3) h fun b23 h =>
 K6 ((Sl.mk (some (Addr.mk b23 0 none)) 2 2), ()) h)
 else
 (K6 (j4.1, ()) h)) fun j6 h =>
 ldI .i64 ((Addr.mk b2 0 none).add 1) h fun x25 =>
 C_ref15_Bring x25 1 16 h fun x26 h =>
 ldB ((Addr.mk b2 0 none).add 0) h fun x28 =>
 ldI .i64 ((Addr.mk b2 0 none).add 2) h fun x34 =>
 C_ref15_Bring x34 1 32 h fun x35 h =>
 cell h ((Addr.mk b2 0 none).add 0) = some (.bool x28) ∧
 C_ref18_New j6.1 x26 x35 h fun x36 h =>
 cell h ((Addr.mk b2 0 none).add 2) = some (.int .i64 x34) ∧
 cell h ((Addr.mk b2 0 none).add 0) = some (.bool x28) ∧
 alc (.cells #[.bool x28, .int .i64 x26, .slice none 0 0, .slice none 0 0, .int .i64 (-1), .int .i64 0, .pointer x36, .bool false] 61) h fun b38 h =>
 cell h ((Addr.mk b2 0 none).add 2) = some (.int .i64 x34) ∧
 cell h ((Addr.mk b2 0 none).add 0) = some (.bool x28) ∧
 R (some (Addr.mk b38 0 none)) h

def S_ref26_New (p0_0 : Int) (p0_1 : Int) (p0_2 : Sl) (p0_3 : Sl) (p0_4 : Sl) (h : Heap) (R : (Option Addr) → Bool → Heap → Prop) : Prop :=
 alc (.cells #[.int .i64 p0_0, .int .i64 p0_1, .slice p0_2.p p0_2.n p0_2.c, .slice p0_3.p p0_3.n p0_3.c, .slice p0_4.p p0_4.n p0_4.c] 30) h fun b1 h =>
 ldI .i64 ((Addr.mk b1 0 none).add 0) h fun x6_0 =>
 ldI .i64 ((Addr.mk b1 0 none).add 1) h fun x6_1 =>
 ldS ((Addr.mk b1 0 none).add 2) h fun x6_2 =>
 ldS ((Addr.mk b1 0 none).add 3) h fun x6_3 =>
 ldS ((Addr.mk b1 0 none).add 4) h fun x6_4 =>
 C_ref12_May x6_0 x6_1 x6_2 x6_3 x6_4 h fun x7 h =>
 if (!x7) = true then
 (
 R none false h)
 else
 (
 jn (α := Addr × Unit) (fun K4 =>
 ldI .i64 ((Addr.mk b1 0 none).add 0) h fun x9_0 =>
 ldI .i64 ((Addr.mk b1 0 none).add 1) h fun x9_1 =>
 ldS ((Addr.mk b1 0 none).add 2) h fun x9_2 =>
 ldS ((Addr.mk b1 0 none).add 3) h fun x9_3 =>
 ldS ((Addr.mk b1 0 none).add 4) h fun x9_4 =>
 ldI .i64 ((Addr.mk b1 0 none).add 0) h fun x11 =>
 ldI .i64 ((Addr.mk b1 0 none).add 1) h fun x13 =>
 ldI .i64 ((Addr.mk b1 0 none).add 0) h fun x16 =>
 (C_ref17_New x11 x13 h fun x14 h =>
 cell h ((Addr.mk b1 0 none).add 0) = some (.int .i64 x16) ∧
 cell h ((Addr.mk b1 0 none).add 0) = some (.int .i64 x9_0) ∧
 cell h ((Addr.mk b1 0 none).add 1) = some (.int .i64 x9_1) ∧
 cell h ((Addr.mk b1 0 none).add 2) = some (.slice x9_2.p x9_2.n x9_2.c) ∧
 cell h ((Addr.mk b1 0 none).add 3) = some (.slice x9_3.p x9_3.n x9_3.c) ∧
 cell h ((Addr.mk b1 0 none).add 4) = some (.slice x9_4.p x9_4.n x9_4.c) ∧
 (0 ≤ x16 ∧ x16 ≤ x16 ∧ x16 ≤ 1000000 ∧ 8 ≤ 1000000 ∧
 alc (.cells (fillL (Int.toNat x16) 1 [.int .i64 0]).toArray 3) h fun b17 h =>
 cell h ((Addr.mk b1 0 none).add 1) = some (.int .i64 x13) ∧
 cell h ((Addr.mk b1 0 none).add 0) = some (.int .i64 x11) ∧
 cell h ((Addr.mk b1 0 none).add 0) = some (.int .i64 x9_0) ∧
 cell h ((Addr.mk b1 0 none).add 1) = some (.int .i64 x9_1) ∧
 cell h ((Addr.mk b1 0 none).add 2) = some (.slice x9_2.p x9_2.n x9_2.c) ∧
 cell h ((Addr.mk b1 0 none).add 3) = some (.slice x9_3.p x9_3.n x9_3.c) ∧
 cell h ((Addr.mk b1 0 none).add 4) = some (.slice x9_4.p x9_4.n x9_4.c) ∧
 C_ref22_New h fun x18 h =>
 cell h ((Addr.mk b1 0 none).add 0) = some (.int .i64 x16) ∧
 cell h ((Addr.mk b1 0 none).add 1) = some (.int .i64 x13) ∧
 cell h ((Addr.mk b1 0 none).add 0) = some (.int .i64 x11) ∧
 cell h ((Addr.mk b1 0 none).add 0) = some (.int .i64 x9_0) ∧
 cell h ((Addr.mk b1 0 none).add 1) = some (.int .i64 x9_1) ∧
 cell h ((Addr.mk b1 0 none).add 2) = some (.slice x9_2.p x9_2.n x9_2.c) ∧
 cell h ((Addr.mk b1 0 none).add 3) = some (.slice x9_3.p x9_3.n x9_3.c) ∧
 cell h ((Addr.mk b1 0 none).add 4) = some (.slice x9_4.p x9_4.n x9_4.c) ∧
 alc (.cells #[.int .i64 x9_0, .int .i64 x9_1, .slice x9_2.p x9_2.n x9_2.c, .slice x9_3.p x9_3.n x9_3.c, .slice x9_4.p x9_4.n x9_4.c, .int .u64 0, .pointer x14, .slice (some (Addr.mk b17 0 none)) (Int.toNat x16) (Int.toNat x16), .slice none 0 0, .slice none 0 0, .pointer x18, .slice none 0 0, .slice none 0 0, .slice none 0 0] 49) h fun b20 h =>
 cell h ((Addr.mk b1 0 none).add 0) = some (.int .i64 x16) ∧
 cell h ((Addr.mk b1 0 none).add 1) = some (.int .i64 x13) ∧
 cell h ((Addr.mk b1 0 none).add 0) = some (.int .i64 x11) ∧
 cell h ((Addr.mk b1 0 none).add 0) = some (.int .i64 x9_0) ∧
 cell h ((Addr.mk b1 0 none).add 1) = some (.int .i64 x9_1) ∧
 cell h ((Addr.mk b1 0 none).add 2) = some (.slice x9_2.p x9_2.n x9_2.c) ∧
 cell h ((Addr.mk b1 0 none).add 3) = some (.slice x9_3.p x9_3.n x9_3.c) ∧
 cell h ((Addr.mk b1 0 none).add 4) = some (.slice x9_4.p x9_4.n x9_4.c) ∧
 K4 ((Addr.mk b20 0 none), ()) h) ∧
 (C_ref22_New h fun x18 h =>
 cell h ((Addr.mk b1 0 none).add 0) = some (.int .i64 x16) ∧
 cell h ((Addr.mk b1 0 none).add 1) = some (.int .i64 x13) ∧
 cell h ((Addr.mk b1 0 none).add 0) = some (.int .i64 x11) ∧
 cell h ((Addr.mk b1 0 none).add 0) = some (.int .i64 x9_0) ∧
 cell h ((Addr.mk b1 0 none).add 1) = some (.int .i64 x9_1) ∧
 cell h ((Addr.mk b1 0 none).add 2) = some (.slice x9_2.p x9_2.n x9_2.c) ∧
 cell h ((Addr.mk b1 0 none).add 3) = some (.slice x9_3.p x9_3.n x9_3.c) ∧
 cell h ((Addr.mk b1 0 none).add 4) = some (.slice x9_4.p x9_4.n x9_4.c) ∧
 0 ≤ x16 ∧ x16 ≤ x16 ∧ x16 ≤ 1000000 ∧ 8 ≤ 1000000 ∧
 alc (.cells (fillL (Int.toNat x16) 1 [.int .i64 0]).toArray 3) h fun b17 h =>
 cell h ((Addr.mk b1 0 none).add 1) = some (.int .i64 x13) ∧
 cell h ((Addr.mk b1 0 none).add 0) = some (.int .i64 x11) ∧
 cell h ((Addr.mk b1 0 none).add 0) = some (.int .i64 x9_0) ∧
 cell h ((Addr.mk b1 0 none).add 1) = some (.int .i64 x9_1) ∧
 cell h ((Addr.mk b1 0 none).add 2) = some (.slice x9_2.p x9_2.n x9_2.c) ∧
 cell h ((Addr.mk b1 0 none).add 3) = some (.slice x9_3.p x9_3.n x9_3.c) ∧
 cell h ((Addr.mk b1 0 none).add 4) = some (.slice x9_4.p x9_4.n x9_4.c) ∧
 alc (.cells #[.int .i64 x9_0, .int .i64 x9_1, .slice x9_2.p x9_2.n x9_2.c, .slice x9_3.p x9_3.n x9_3.c, .slice x9_4.p x9_4.n x9_4.c, .int .u64 0, .pointer x14, .slice (some (Addr.mk b17 0 none)) (Int.toNat x16) (Int.toNat x16), .slice none 0 0, .slice none 0 0, .pointer x18, .slice none 0 0, .slice none 0 0, .slice none 0 0] 49) h fun b20 h =>
 cell h ((Addr.mk b1 0 none).add 0) = some (.int .i64 x16) ∧
 cell h ((Addr.mk b1 0 none).add 1) = some (.int .i64 x13) ∧
 cell h ((Addr.mk b1 0 none).add 0) = some (.int .i64 x11) ∧
 cell h ((Addr.mk b1 0 none).add 0) = some (.int .i64 x9_0) ∧
 cell h ((Addr.mk b1 0 none).add 1) = some (.int .i64 x9_1) ∧
 cell h ((Addr.mk b1 0 none).add 2) = some (.slice x9_2.p x9_2.n x9_2.c) ∧
 cell h ((Addr.mk b1 0 none).add 3) = some (.slice x9_3.p x9_3.n x9_3.c) ∧
 cell h ((Addr.mk b1 0 none).add 4) = some (.slice x9_4.p x9_4.n x9_4.c) ∧
 K4 ((Addr.mk b20 0 none), ()) h)) ∧
 (0 ≤ x16 ∧ x16 ≤ x16 ∧ x16 ≤ 1000000 ∧ 8 ≤ 1000000 ∧
 alc (.cells (fillL (Int.toNat x16) 1 [.int .i64 0]).toArray 3) h fun b17 h =>
 cell h ((Addr.mk b1 0 none).add 1) = some (.int .i64 x13) ∧
 cell h ((Addr.mk b1 0 none).add 0) = some (.int .i64 x11) ∧
 cell h ((Addr.mk b1 0 none).add 0) = some (.int .i64 x9_0) ∧
 cell h ((Addr.mk b1 0 none).add 1) = some (.int .i64 x9_1) ∧
 cell h ((Addr.mk b1 0 none).add 2) = some (.slice x9_2.p x9_2.n x9_2.c) ∧
 cell h ((Addr.mk b1 0 none).add 3) = some (.slice x9_3.p x9_3.n x9_3.c) ∧
 cell h ((Addr.mk b1 0 none).add 4) = some (.slice x9_4.p x9_4.n x9_4.c) ∧
 C_ref17_New x11 x13 h fun x14 h =>
 cell h ((Addr.mk b1 0 none).add 0) = some (.int .i64 x16) ∧
 cell h ((Addr.mk b1 0 none).add 0) = some (.int .i64 x9_0) ∧
 cell h ((Addr.mk b1 0 none).add 1) = some (.int .i64 x9_1) ∧
 cell h ((Addr.mk b1 0 none).add 2) = some (.slice x9_2.p x9_2.n x9_2.c) ∧
 cell h ((Addr.mk b1 0 none).add 3) = some (.slice x9_3.p x9_3.n x9_3.c) ∧
 cell h ((Addr.mk b1 0 none).add 4) = some (.slice x9_4.p x9_4.n x9_4.c) ∧
 C_ref22_New h fun x18 h =>
 cell h ((Addr.mk b1 0 none).add 0) = some (.int .i64 x16) ∧
 cell h ((Addr.mk b1 0 none).add 1) = some (.int .i64 x13) ∧
 cell h ((Addr.mk b1 0 none).add 0) = some (.int .i64 x11) ∧
 cell h ((Addr.mk b1 0 none).add 0) = some (.int .i64 x9_0) ∧
 cell h ((Addr.mk b1 0 none).add 1) = some (.int .i64 x9_1) ∧
 cell h ((Addr.mk b1 0 none).add 2) = some (.slice x9_2.p x9_2.n x9_2.c) ∧
 cell h ((Addr.mk b1 0 none).add 3) = some (.slice x9_3.p x9_3.n x9_3.c) ∧
 cell h ((Addr.mk b1 0 none).add 4) = some (.slice x9_4.p x9_4.n x9_4.c) ∧
 alc (.cells #[.int .i64 x9_0, .int .i64 x9_1, .slice x9_2.p x9_2.n x9_2.c, .slice x9_3.p x9_3.n x9_3.c, .slice x9_4.p x9_4.n x9_4.c, .int .u64 0, .pointer x14, .slice (some (Addr.mk b17 0 none)) (Int.toNat x16) (Int.toNat x16), .slice none 0 0, .slice none 0 0, .pointer x18, .slice none 0 0, .slice none 0 0, .slice none 0 0] 49) h fun b20 h =>
 cell h ((Addr.mk b1 0 none).add 0) = some (.int .i64 x16) ∧
 cell h ((Addr.mk b1 0 none).add 1) = some (.int .i64 x13) ∧
 cell h ((Addr.mk b1 0 none).add 0) = some (.int .i64 x11) ∧
 cell h ((Addr.mk b1 0 none).add 0) = some (.int .i64 x9_0) ∧
 cell h ((Addr.mk b1 0 none).add 1) = some (.int .i64 x9_1) ∧
 cell h ((Addr.mk b1 0 none).add 2) = some (.slice x9_2.p x9_2.n x9_2.c) ∧
 cell h ((Addr.mk b1 0 none).add 3) = some (.slice x9_3.p x9_3.n x9_3.c) ∧
 cell h ((Addr.mk b1 0 none).add 4) = some (.slice x9_4.p x9_4.n x9_4.c) ∧
 K4 ((Addr.mk b20 0 none), ()) h)) fun j4 h =>
 ldS (j4.1.add 9) h fun x25 =>
 ldS ((Addr.mk b1 0 none).add 2) h fun x27 =>
 appW 3 1 8 (.int .i64 0) x25 x27 h fun x28 h =>
 st (j4.1.add 9) (.slice x28.p x28.n x28.c) h fun h =>
 Lp (τ := Int × Unit) (fun X6 s6 h => ∀ _ : Fr,
 ldS ((Addr.mk b1 0 none).add 3) h fun x33 =>
 if (decide (s6.1 < ((x33.n : Nat) : Int))) = true then
 (
 ldS (j4.1.add 8) h fun x42 =>
 ldS ((Addr.mk b1 0 none).add 3) h fun x44 =>
 pm x44.p fun a46 =>
 0 ≤ s6.1 ∧ s6.1 < ((x44.n : Nat) : Int) ∧
 ldB ((a46.add (Int.toNat s6.1 * 5)).add 0) h fun x47_0 =>
 ldI .i64 ((a46.add (Int.toNat s6.1 * 5)).add 1) h fun x47_1 =>
 ldI .i64 ((a46.add (Int.toNat s6.1 * 5)).add 2) h fun x47_2 =>
 ldI .i64 ((a46.add (Int.toNat s6.1 * 5)).add 3) h fun x47_3 =>
 ldI .i64 ((a46.add (Int.toNat s6.1 * 5)).add 4) h fun x47_4 =>
 ldS ((Addr.mk b1 0 none).add 2) h fun x49 =>
 C_ref20_New x47_0 x47_1 x47_2 x47_3 x47_4 x49 h fun x50 h =>
 cell h ((Addr.mk b1 0 none).add 3) = some (.slice x44.p x44.n x44.c) ∧
 cell h (j4.1.add 8) = some (.slice x42.p x42.n x42.c) ∧
 alc (.cells #[.pointer x50] 54) h fun b51 h =>
 cell h ((Addr.mk b1 0 none).add 2) = some (.slice x49.p x49.n x49.c) ∧
 cell h ((a46.add (Int.toNat s6.1 * 5)).add 0) = some (.bool x47_0) ∧
 cell h ((a46.add (Int.toNat s6.1 * 5)).add 1) = some (.int .i64 x47_1) ∧
 cell h ((a46.add (Int.toNat s6.1 * 5)).add 2) = some (.int .i64 x47_2) ∧
 cell h ((a46.add (Int.toNat s6.1 * 5)).add 3) = some (.int .i64 x47_3) ∧
 cell h ((a46.add (Int.toNat s6.1 * 5)).add 4) = some (.int .i64 x47_4) ∧
 cell h ((Addr.mk b1 0 none).add 3) = some (.slice x44.p x44.n x44.c) ∧
 cell h (j4.1.add 8) = some (.slice x42.p x42.n x42.c) ∧
 appW 54 1 8 (.pointer none) x42 (Sl.mk (some (Addr.mk b51 0 none)) 1 1) h fun x52 h =>
 cell h ((Addr.mk b1 0 none).add 2) = some (.slice x49.p x49.n x49.c) ∧
 cell h ((a46.add (Int.toNat s6.1 * 5)).add 0) = some (.bool x47_0) ∧
 cell h ((a46.add (Int.toNat s6.1 * 5)).add 1) = some (.int .i64 x47_1) ∧
 cell h ((a46.add (Int.toNat s6.1 * 5)).add 2) = some (.int .i64 x47_2) ∧
 cell h ((a46.add (Int.toNat s6.1 * 5)).add 3) = some (.int .i64 x47_3) ∧
 cell h ((a46.add (Int.toNat s6.1 * 5)).add 4) = some (.int .i64 x47_4) ∧
 cell h ((Addr.mk b1 0 none).add 3) = some (.slice x44.p x44.n x44.c) ∧
 st (j4.1.add 8) (.slice x52.p x52.n x52.c) h fun h =>
 X6 ((IntKind.wrap .i64 (s6.1 + 1)), ()) h)
 else
 (
 R (some j4.1) true h)) ((0 : Int), ()) h)

def S_ref16_Queue_Ready (p0 : Option Addr) (h : Heap) (R : Sl → Heap → Prop) : Prop :=
 Lp (τ := Sl × Int × Unit) (fun X3 s3 h => ∀ _ : Fr,
 pm p0 fun a10 =>
 ldS (a10.add 2) h fun x12 =>
 if (decide (s3.2.1 < ((x12.n : Nat) : Int))) = true then
 (
 pm p0 fun a18 =>
 ldS (a18.add 2) h fun x20 =>
 pm x20.p fun a22 =>
 0 ≤ s3.2.1 ∧ s3.2.1 < ((x20.n : Nat) : Int) ∧
 ldI .i64 ((a22.add (Int.toNat s3.2.1 * 3)).add 0) h fun x23_0 =>
 ldI .u64 ((a22.add (Int.toNat s3.2.1 * 3)).add 1) h fun x23_1 =>
 ldI .i64 ((a22.add (Int.toNat s3.2.1 * 3)).add 2) h fun x23_2 =>
 alc (.cells #[.int .i64 0, .int .u64 0, .int .i64 0] 137) h fun b5 h =>
 stF [.int .i64 x23_0, .int .u64 x23_1, .int .i64 x23_2] h (Addr.mk b5 0 none) 0 fun h =>
 ldI .i64 ((Addr.mk b5 0 none).add 0) h fun x25 =>
 pm p0 fun a27 =>
 ldI .i64 (a27.add 3) h fun x29 =>
 if (x25 == x29) = true then
 (
 X3 (s3.1, (IntKind.wrap .i64 (s3.2.1 + 1)), ()) h)
 else
 (
 jn (α := Int × Unit) (fun K11 =>
 Lp (τ := Int × Unit) (fun X8 s8 h => ∀ _ : Fr,
 if (decide (s8.1 < ((s3.1.n : Nat) : Int))) = true then
 (pm s3.1.p fun a38 =>
 0 ≤ s8.1 ∧ s8.1 < ((s3.1.n : Nat) : Int) ∧
 ldI .u64 ((a38.add (Int.toNat s8.1 * 3)).add 1) h fun x40 =>
 ldI .u64 ((Addr.mk b5 0 none).add 1) h fun x42 =>
 if (decide (x40 < x42)) = true then
 (
 X8 ((IntKind.wrap .i64 (s8.1 + 1)), ()) h)
 else
 (pm s3.1.p fun a47 =>
 0 ≤ s8.1 ∧ s8.1 < ((s3.1.n : Nat) : Int) ∧
 ldI .u64 ((a47.add (Int.toNat s8.1 * 3)).add 1) h fun x49 =>
 ldI .u64 ((Addr.mk b5 0 none).add 1) h fun x51 =>
 if (x49 == x51) = true then
 (pm s3.1.p fun a56 =>
 0 ≤ s8.1 ∧ s8.1 < ((s3.1.n : Nat) : Int) ∧
 ldI .i64 ((a56.add (Int.toNat s8.1 * 3)).add 0) h fun x58 =>
 ldI .i64 ((Addr.mk b5 0 none).add 0) h fun x60 =>
 if (decide (x58 < x60)) = true then
 (
 X8 ((IntKind.wrap .i64 (s8.1 + 1)), ()) h)
 else
 (K11 (s8.1, ()) h))
 else
 (
 K11 (s8.1, ()) h)))
 else
 (
 K11 (s8.1, ()) h)) ((0 : Int), ()) h) fun j11 h =>
 alc (.cells #[] 137) h fun b67 h =>
 slc 3 s3.1.p s3.1.c (0 : Int) j11.1 fun x70 =>
 appW 137 3 24 (.agg #[.int .i64 0, .int .u64 0, .int .i64 0]) (Sl.mk (some (Addr.mk b67 0 none)) 0 0) x70 h fun x71 h =>
 ldI .i64 ((Addr.mk b5 0 none).add 0) h fun x73_0 =>
 ldI .u64 ((Addr.mk b5 0 none).add 1) h fun x73_1 =>
 ldI .i64 ((Addr.mk b5 0 none).add 2) h fun x73_2 =>
 alc (.cells #[.int .i64 x73_0, .int .u64 x73_1, .int .i64 x73_2] 137) h fun b74 h =>
 appW 137 3 24 (.agg #[.int .i64 0, .int .u64 0, .int .i64 0]) x71 (Sl.mk (some (Addr.mk b74 0 none)) 1 1) h fun x75 h =>
 slc 3 s3.1.p s3.1.c j11.1 (s3.1.n : Nat) fun x79 =>
 appW 137 3 24 (.agg #[.int .i64 0, .int .u64 0, .int .i64 0]) x75 x79 h fun x80 h =>
 X3 (x80, (IntKind.wrap .i64 (s3.2.1 + 1)), ()) h))
 else
 (
 R s3.1 h)) (((Sl.mk none 0 0) : Sl), (0 : Int), ()) h

def S_ref16_Queue_At (p0 : Option Addr) (p1 : Int) (h : Heap) (R : Int → Heap → Prop) : Prop :=
 Lp (τ := Int × Unit) (fun X2 s2 h => ∀ _ : Fr,
 pm p0 fun a8 =>
 ldS (a8.add 2) h fun x10 =>
 if (decide (s2.1 < ((x10.n : Nat) : Int))) = true then
 (
 pm p0 fun a16 =>
 ldS (a16.add 2) h fun x18 =>
 pm x18.p fun a20 =>
 0 ≤ s2.1 ∧ s2.1 < ((x18.n : Nat) : Int) ∧
 ldI .i64 ((a20.add (Int.toNat s2.1 * 3)).add 0) h fun x22 =>
 if (x22 == p1) = true then
 (
 R s2.1 h)
 else
 (
 X2 ((IntKind.wrap .i64 (s2.1 + 1)), ()) h))
 else
 (
 R (-1) h)) ((0 : Int), ()) h

def S_ref16_Queue_Due (p0 : Option Addr) (h : Heap) (R : Bool → Heap → Prop) : Prop :=
 C_ref16_Queue_Ready p0 h fun x5 h =>
 pm p0 fun a7 =>
 ldI .i64 (a7.add 3) h fun x9 =>
 if (decide (x9 ≥ 0)) = true then
 (pm p0 fun a13 =>
 ldI .i64 (a13.add 4) h fun x15 =>
 pm p0 fun a17 =>
 ldI .i64 (a17.add 0) h fun x19 =>
 if (decide (x15 ≥ x19)) = true then
 (if (decide (((x5.n : Nat) : Int) > 0)) = true then
 (pm x5.p fun a29 =>
 0 ≤ (0 : Int) ∧ (0 : Int) < ((x5.n : Nat) : Int) ∧
 ldI .u64 ((a29.add (Int.toNat 0 * 3)).add 1) h fun x31 =>
 pm p0 fun a33 =>
 ldS (a33.add 2) h fun x35 =>
 pm p0 fun a38 =>
 ldI .i64 (a38.add 3) h fun x40 =>
 C_ref16_Queue_At p0 x40 h fun x41 h =>
 cell h (a33.add 2) = some (.slice x35.p x35.n x35.c) ∧
 cell h ((a29.add (Int.toNat 0 * 3)).add 1) = some (.int .u64 x31) ∧
 cell h (a17.add 0) = some (.int .i64 x19) ∧
 cell h (a13.add 4) = some (.int .i64 x15) ∧
 cell h (a7.add 3) = some (.int .i64 x9) ∧
 pm x35.p fun a42 =>
 0 ≤ x41 ∧ x41 < ((x35.n : Nat) : Int) ∧
 ldI .u64 ((a42.add (Int.toNat x41 * 3)).add 1) h fun x44 =>
 R (decide (x31 < x44)) h)
 else
 (
 R false h))
 else
 (
 R false h))
 else
 (
 R false h)

def S_ref16_Queue_Back (p0 : Option Addr) (h : Heap) (R : Int → Heap → Prop) : Prop :=
 pm p0 fun a5 =>
 ldI .i64 (a5.add 3) h fun x7 =>
 pm p0 fun a9 =>
 st (a9.add 3) (.int .i64 (-1)) h fun h =>
 pm p0 fun a12 =>
 st (a12.add 4) (.int .i64 0) h fun h =>
 R x7 h

def S_ref26_Machine_tell (p0 : Option Addr) (p1 : Int) (p2 : Int) (p3 : Int) (p4 : Int) (h : Heap) (R : Heap → Prop) : Prop :=
 pm p0 fun a12 =>
 ldS (a12.add 13) h fun x14 =>
 pm p0 fun a16 =>
 ldI .u64 (a16.add 5) h fun x18 =>
 alc (.cells #[.int .u64 x18, .int .i64 p1, .int .i64 p2, .int .i64 p3, .int .i64 p4] 72) h fun b24 h =>
 cell h (a16.add 5) = some (.int .u64 x18) ∧
 cell h (a12.add 13) = some (.slice x14.p x14.n x14.c) ∧
 appW 72 5 40 (.agg #[.int .u64 0, .int .i64 0, .int .i64 0, .int .i64 0, .int .i64 0]) x14 (Sl.mk (some (Addr.mk b24 0 none)) 1 1) h fun x25 h =>
 cell h (a16.add 5) = some (.int .u64 x18) ∧
 pm p0 fun a26 =>
 st (a26.add 13) (.slice x25.p x25.n x25.c) h fun h =>
 R h

def S_ref16_Queue_Pick (p0 : Option Addr) (h : Heap) (R : Int → Heap → Prop) : Prop :=
 C_ref16_Queue_Ready p0 h fun x5 h =>
 pm p0 fun a7 =>
 ldI .i64 (a7.add 3) h fun x9 =>
 if (decide (x9 ≥ 0)) = true then
 (
 R (-1) h)
 else
 (
 if (((x5.n : Nat) : Int) == 0) = true then
 (
 R (-1) h)
 else
 (
 pm x5.p fun a18 =>
 0 ≤ (0 : Int) ∧ (0 : Int) < ((x5.n : Nat) : Int) ∧
 ldI .i64 ((a18.add (Int.toNat 0 * 3)).add 0) h fun x20 =>
 pm p0 fun a21 =>
 st (a21.add 3) (.int .i64 x20) h fun h =>
 pm p0 fun a24 =>
 st (a24.add 4) (.int .i64 0) h fun h =>
 pm p0 fun a27 =>
 ldI .i64 (a27.add 3) h fun x29 =>
 R x29 h))

def S_ref15_Core (p0 : Int) (h : Heap) (R : Int → Heap → Prop) : Prop :=
 C_ref15_Bring p0 1 4096 h fun x4 h =>
 (IntKind.wrap .u64 x4) ≠ 0 ∧
 R (IntKind.wrap .u64 (Int.tdiv 1099511627776 (IntKind.wrap .u64 x4))) h

def S_ref01_number (p0 : Int) (h : Heap) (R : Sl → Heap → Prop) : Prop :=
 (65536 : Int) ≠ 0 ∧
 (65536 : Int) ≠ 0 ∧
 (65536 : Int) ≠ 0 ∧
 (4294967296 : Int) ≠ 0 ∧
 (65536 : Int) ≠ 0 ∧
 (281474976710656 : Int) ≠ 0 ∧
 alc (.cells #[.int .u64 (Int.tmod p0 65536), .int .u64 (Int.tmod (IntKind.wrap .u64 (Int.tdiv p0 65536)) 65536), .int .u64 (Int.tmod (IntKind.wrap .u64 (Int.tdiv p0 4294967296)) 65536), .int .u64 (IntKind.wrap .u64 (Int.tdiv p0 281474976710656))] 41) h fun b13 h =>
 R (Sl.mk (some (Addr.mk b13 0 none)) 4 4) h

def S_ref01_longer (p0 : Sl) (p1 : Sl) (h : Heap) (R : Int → Heap → Prop) : Prop :=
 if (decide (((p0.n : Nat) : Int) > ((p1.n : Nat) : Int))) = true then
 (
 R ((p0.n : Nat) : Int) h)
 else
 (
 R ((p1.n : Nat) : Int) h)

def S_ref01_at (p0 : Sl) (p1 : Int) (h : Heap) (R : Int → Heap → Prop) : Prop :=
 if (decide (p1 < ((p0.n : Nat) : Int))) = true then
 (pm p0.p fun a11 =>
 0 ≤ p1 ∧ p1 < ((p0.n : Nat) : Int) ∧
 ldI .u64 (a11.add (Int.toNat p1 * 1)) h fun x12 =>
 R x12 h)
 else
 (
 R 0 h)

def S_ref01_Sum (p0 : Sl) (p1 : Sl) (h : Heap) (R : Sl → Heap → Prop) : Prop :=
 C_ref01_longer p0 p1 h fun x12 h =>
 Lp (τ := Sl × Int × Int × Unit) (fun X5 s5 h => ∀ _ : Fr,
 if (decide (s5.2.2.1 ≤ x12)) = true then
 (
 C_ref01_at p0 s5.2.2.1 h fun x20 h =>
 C_ref01_at p1 s5.2.2.1 h fun x23 h =>
 (65536 : Int) ≠ 0 ∧
 alc (.cells #[.int .u64 (Int.tmod (IntKind.wrap .u64 ((IntKind.wrap .u64 (x20 + x23)) + s5.2.1)) 65536)] 41) h fun b30 h =>
 appW 41 1 8 (.int .u64 0) s5.1 (Sl.mk (some (Addr.mk b30 0 none)) 1 1) h fun x31 h =>
 (65536 : Int) ≠ 0 ∧
 X5 (x31, (IntKind.wrap .u64 (Int.tdiv (IntKind.wrap .u64 ((IntKind.wrap .u64 (x20 + x23)) + s5.2.1)) 65536)), (IntKind.wrap .i64 (s5.2.2.1 + 1)), ()) h)
 else
 (
 R s5.1 h)) (((Sl.mk none 0 0) : Sl), (0 : Int), (0 : Int), ()) h

def S_ref01_Fits (p0 : Sl) (h : Heap) (R : Int → Int → Heap → Prop) : Prop :=
 Lp (τ := Int × Unit) (fun X2 s2 h => ∀ _ : Fr,
 if (decide (s2.1 < ((p0.n : Nat) : Int))) = true then
 (
 pm p0.p fun a13 =>
 0 ≤ s2.1 ∧ s2.1 < ((p0.n : Nat) : Int) ∧
 ldI .u64 (a13.add (Int.toNat s2.1 * 1)) h fun x14 =>
 if (decide (x14 > 0)) = true then
 (
 R 18446744073709551615 2 h)
 else
 (
 X2 ((IntKind.wrap .i64 (s2.1 + 1)), ()) h))
 else
 (
 C_ref01_at p0 0 h fun x17 h =>
 C_ref01_at p0 1 h fun x19 h =>
 C_ref01_at p0 2 h fun x23 h =>
 C_ref01_at p0 3 h fun x27 h =>
 R (IntKind.wrap .u64 ((IntKind.wrap .u64 ((IntKind.wrap .u64 (x17 + (IntKind.wrap .u64 (x19 * 65536)))) + (IntKind.wrap .u64 (x23 * 4294967296)))) + (IntKind.wrap .u64 (x27 * 281474976710656)))) 0 h)) ((4 : Int), ()) h

def S_ref01_Add (p0 : Int) (p1 : Int) (h : Heap) (R : Int → Int → Heap → Prop) : Prop :=
 C_ref01_number p0 h fun x7 h =>
 C_ref01_number p1 h fun x9 h =>
 C_ref01_Sum x7 x9 h fun x10 h =>
 C_ref01_Fits x10 h fun x11a x11b h =>
 R x11a x11b h

def S_ref16_Queue_Tick (p0 : Option Addr) (h : Heap) (R : Int → Heap → Prop) : Prop :=
 pm p0 fun a5 =>
 ldI .i64 (a5.add 3) h fun x7 =>
 if (decide (x7 ≥ 0)) = true then
 (pm p0 fun a11 =>
 ldI .i64 (a11.add 3) h fun x13 =>
 C_ref16_Queue_At p0 x13 h fun x14 h =>
 pm p0 fun a17 =>
 ldS (a17.add 2) h fun x19 =>
 pm p0 fun a22 =>
 ldS (a22.add 2) h fun x24 =>
 pm x24.p fun a26 =>
 0 ≤ x14 ∧ x14 < ((x24.n : Nat) : Int) ∧
 ldI .u64 ((a26.add (Int.toNat x14 * 3)).add 1) h fun x28 =>
 pm p0 fun a30 =>
 ldS (a30.add 2) h fun x32 =>
 pm x32.p fun a34 =>
 0 ≤ x14 ∧ x14 < ((x32.n : Nat) : Int) ∧
 ldI .i64 ((a34.add (Int.toNat x14 * 3)).add 2) h fun x36 =>
 C_ref15_Core x36 h fun x37 h =>
 cell h (a30.add 2) = some (.slice x32.p x32.n x32.c) ∧
 cell h ((a26.add (Int.toNat x14 * 3)).add 1) = some (.int .u64 x28) ∧
 cell h (a22.add 2) = some (.slice x24.p x24.n x24.c) ∧
 cell h (a17.add 2) = some (.slice x19.p x19.n x19.c) ∧
 C_ref01_Add x28 x37 h fun x38a x38b h =>
 cell h ((a34.add (Int.toNat x14 * 3)).add 2) = some (.int .i64 x36) ∧
 cell h (a30.add 2) = some (.slice x32.p x32.n x32.c) ∧
 cell h (a22.add 2) = some (.slice x24.p x24.n x24.c) ∧
 cell h (a17.add 2) = some (.slice x19.p x19.n x19.c) ∧
 pm x19.p fun a41 =>
 0 ≤ x14 ∧ x14 < ((x19.n : Nat) : Int) ∧
 st ((a41.add (Int.toNat x14 * 3)).add 1) (.int .u64 x38a) h fun h =>
 pm p0 fun a44 =>
 ldI .i64 (a44.add 4) h fun x46 =>
 pm p0 fun a48 =>
 st (a48.add 4) (.int .i64 (IntKind.wrap .i64 (x46 + 1))) h fun h =>
 pm p0 fun a51 =>
 ldI .i64 (a51.add 3) h fun x53 =>
 R x53 h)
 else
 (
 pm p0 fun a51 =>
 ldI .i64 (a51.add 3) h fun x53 =>
 R x53 h)

def S_ref20_at (p0 : Sl) (p1 : Int) (h : Heap) (R : Int → Heap → Prop) : Prop :=
 Lp (τ := Int × Unit) (fun X2 s2 h => ∀ _ : Fr,
 if (decide (s2.1 < ((p0.n : Nat) : Int))) = true then
 (
 pm p0.p fun a14 =>
 0 ≤ s2.1 ∧ s2.1 < ((p0.n : Nat) : Int) ∧
 ldI .i64 ((a14.add (Int.toNat s2.1 * 3)).add 0) h fun x16 =>
 if (x16 == p1) = true then
 (
 R s2.1 h)
 else
 (
 X2 ((IntKind.wrap .i64 (s2.1 + 1)), ()) h))
 else
 (
 R (-1) h)) ((0 : Int), ()) h

def S_ref20_drop (p0 : Sl) (p1 : Int) (h : Heap) (R : Sl → Heap → Prop) : Prop :=
 slc 3 p0.p p0.c (0 : Int) p1 fun x8 =>
 slc 3 p0.p p0.c (IntKind.wrap .i64 (p1 + 1)) (p0.n : Nat) fun x13 =>
 alc (.cells #[] 68) h fun b5 h =>
 appW 68 3 24 (.agg #[.int .i64 0, .int .i64 0, .bool false]) (Sl.mk (some (Addr.mk b5 0 none)) 0 0) x8 h fun x9 h =>
 appW 68 3 24 (.agg #[.int .i64 0, .int .i64 0, .bool false]) x9 x13 h fun x14 h =>
 R x14 h

def S_ref06_Has (p0 : Int) (p1 : Int) (h : Heap) (R : Bool → Heap → Prop) : Prop :=
 if (decide (p1 ≥ 0)) = true then
 (if (decide (p1 < 64)) = true then
 (0 ≤ p1 ∧
 (2 : Int) ≠ 0 ∧
 R ((Int.tmod (Int.fdiv p0 (2 ^ (min (Int.toNat p1) 64))) 2) == 1) h)
 else
 (
 R false h))
 else
 (
 R false h)

def S_ref06_With (p0 : Int) (p1 : Int) (h : Heap) (R : Int → Heap → Prop) : Prop :=
 if (decide (p1 < 0)) = true then
 (
 R p0 h)
 else
 (if (decide (p1 > 63)) = true then
 (
 R p0 h)
 else
 (C_ref06_Has p0 p1 h fun x14 h =>
 if x14 = true then
 (
 R p0 h)
 else
 (
 0 ≤ p1 ∧
 R (IntKind.wrap .u64 (p0 + (IntKind.wrap .u64 (1 * 2 ^ (min (Int.toNat p1) 64))))) h)))

def S_ref20_set (p0 : Int) (p1 : Sl) (h : Heap) (R : Int → Heap → Prop) : Prop :=
 Lp (τ := Int × Int × Unit) (fun X2 s2 h => ∀ _ : Fr,
 if (decide (s2.2.1 < ((p1.n : Nat) : Int))) = true then
 (
 pm p1.p fun a15 =>
 0 ≤ s2.2.1 ∧ s2.2.1 < ((p1.n : Nat) : Int) ∧
 ldI .i64 ((a15.add (Int.toNat s2.2.1 * 3)).add 1) h fun x17 =>
 C_ref06_With s2.1 x17 h fun x18 h =>
 X2 (x18, (IntKind.wrap .i64 (s2.2.1 + 1)), ()) h)
 else
 (
 R s2.1 h)) ((p0 : Int), (0 : Int), ()) h

def S_ref18_Ledger_Least (p0 : Option Addr) (p1 : Int) (h : Heap) (R : Int → Heap → Prop) : Prop :=
 Lp (τ := Int × Int × Unit) (fun X3 s3 h => ∀ _ : Fr,
 pm p0 fun a9 =>
 ldS (a9.add 0) h fun x11 =>
 if (decide (s3.2.1 < ((x11.n : Nat) : Int))) = true then
 (
 C_ref06_Has p1 s3.2.1 h fun x18 h =>
 if x18 = true then
 (if (decide (s3.1 < 0)) = true then
 (
 X3 (s3.2.1, (IntKind.wrap .i64 (s3.2.1 + 1)), ()) h)
 else
 (pm p0 fun a24 =>
 ldS (a24.add 0) h fun x26 =>
 pm x26.p fun a28 =>
 0 ≤ s3.2.1 ∧ s3.2.1 < ((x26.n : Nat) : Int) ∧
 ldI .u64 ((a28.add (Int.toNat s3.2.1 * 4)).add 1) h fun x30 =>
 pm p0 fun a32 =>
 ldS (a32.add 0) h fun x34 =>
 pm x34.p fun a36 =>
 0 ≤ s3.1 ∧ s3.1 < ((x34.n : Nat) : Int) ∧
 ldI .u64 ((a36.add (Int.toNat s3.1 * 4)).add 1) h fun x38 =>
 if (decide (x30 < x38)) = true then
 (
 X3 (s3.2.1, (IntKind.wrap .i64 (s3.2.1 + 1)), ()) h)
 else
 (
 X3 (s3.1, (IntKind.wrap .i64 (s3.2.1 + 1)), ()) h)))
 else
 (
 X3 (s3.1, (IntKind.wrap .i64 (s3.2.1 + 1)), ()) h))
 else
 (
 R s3.1 h)) (((-1) : Int), (0 : Int), ()) h

def S_ref19_May (p0_0 : Int) (p0_1 : Int) (p1 : Int) (p2 : Int) (h : Heap) (R : Bool → Heap → Prop) : Prop :=
 alc (.cells #[.int .i64 p0_0, .int .i64 p0_1] 58) h fun b3 h =>
 if (decide (p2 ≥ 0)) = true then
 (ldI .i64 ((Addr.mk b3 0 none).add 0) h fun x11 =>
 if (x11 == p2) = true then
 (ldI .i64 ((Addr.mk b3 0 none).add 1) h fun x17 =>
 C_ref15_Bring p1 1 16 h fun x19 h =>
 cell h ((Addr.mk b3 0 none).add 1) = some (.int .i64 x17) ∧
 cell h ((Addr.mk b3 0 none).add 0) = some (.int .i64 x11) ∧
 R (decide (x17 < x19)) h)
 else
 (
 R false h))
 else
 (
 R false h)

def S_ref19_Next (p0_0 : Int) (p0_1 : Int) (p1 : Int) (p2 : Int) (p3 : Int) (h : Heap) (R : Int → Int → Heap → Prop) : Prop :=
 alc (.cells #[.int .i64 p0_0, .int .i64 p0_1] 58) h fun b4 h =>
 alc (.cells #[.int .i64 0, .int .i64 0] 58) h fun b8 h =>
 if (p2 == 0) = true then
 (
 ldI .i64 ((Addr.mk b4 0 none).add 0) h fun x24_0 =>
 ldI .i64 ((Addr.mk b4 0 none).add 1) h fun x24_1 =>
 stF [.int .i64 x24_0, .int .i64 x24_1] h (Addr.mk b8 0 none) 0 fun h =>
 ldI .i64 ((Addr.mk b8 0 none).add 0) h fun x9000_0 =>
 ldI .i64 ((Addr.mk b8 0 none).add 1) h fun x9000_1 =>
 R x9000_0 x9000_1 h)
 else
 (ldI .i64 ((Addr.mk b4 0 none).add 0) h fun x14 =>
 C_ref06_Has p2 x14 h fun x15 h =>
 if x15 = true then
 (ldI .i64 ((Addr.mk b4 0 none).add 0) h fun x17_0 =>
 ldI .i64 ((Addr.mk b4 0 none).add 1) h fun x17_1 =>
 ldI .i64 ((Addr.mk b4 0 none).add 0) h fun x20 =>
 C_ref19_May x17_0 x17_1 p1 x20 h fun x21 h =>
 if x21 = true then
 (ldI .i64 ((Addr.mk b4 0 none).add 0) h fun x24_0 =>
 ldI .i64 ((Addr.mk b4 0 none).add 1) h fun x24_1 =>
 stF [.int .i64 x24_0, .int .i64 x24_1] h (Addr.mk b8 0 none) 0 fun h =>
 ldI .i64 ((Addr.mk b8 0 none).add 0) h fun x9000_0 =>
 ldI .i64 ((Addr.mk b8 0 none).add 1) h fun x9000_1 =>
 R x9000_0 x9000_1 h)
 else
 (
 stF [.int .i64 p3, .int .i64 0] h (Addr.mk b8 0 none) 0 fun h =>
 ldI .i64 ((Addr.mk b8 0 none).add 0) h fun x9000_0 =>
 ldI .i64 ((Addr.mk b8 0 none).add 1) h fun x9000_1 =>
 R x9000_0 x9000_1 h))
 else
 (
 stF [.int .i64 p3, .int .i64 0] h (Addr.mk b8 0 none) 0 fun h =>
 ldI .i64 ((Addr.mk b8 0 none).add 0) h fun x9000_0 =>
 ldI .i64 ((Addr.mk b8 0 none).add 1) h fun x9000_1 =>
 R x9000_0 x9000_1 h))

def S_ref20_Lock_grant (p0 : Option Addr) (p1 : Int) (h : Heap) (R : Int → Heap → Prop) : Prop :=
 pm p0 fun a7 =>
 ldS (a7.add 3) h fun x9 =>
 pm x9.p fun a11 =>
 0 ≤ p1 ∧ p1 < ((x9.n : Nat) : Int) ∧
 ldI .i64 ((a11.add (Int.toNat p1 * 3)).add 0) h fun x12_0 =>
 ldI .i64 ((a11.add (Int.toNat p1 * 3)).add 1) h fun x12_1 =>
 ldB ((a11.add (Int.toNat p1 * 3)).add 2) h fun x12_2 =>
 alc (.cells #[.int .i64 0, .int .i64 0, .bool false] 68) h fun b5 h =>
 stF [.int .i64 x12_0, .int .i64 x12_1, .bool x12_2] h (Addr.mk b5 0 none) 0 fun h =>
 pm p0 fun a15 =>
 ldS (a15.add 3) h fun x17 =>
 C_ref20_drop x17 p1 h fun x19 h =>
 pm p0 fun a20 =>
 st (a20.add 3) (.slice x19.p x19.n x19.c) h fun h =>
 pm p0 fun a23 =>
 ldB (a23.add 7) h fun x25 =>
 st ((Addr.mk b5 0 none).add 2) (.bool x25) h fun h =>
 pm p0 fun a28 =>
 st (a28.add 7) (.bool false) h fun h =>
 pm p0 fun a32 =>
 ldS (a32.add 2) h fun x34 =>
 ldI .i64 ((Addr.mk b5 0 none).add 0) h fun x35_0 =>
 ldI .i64 ((Addr.mk b5 0 none).add 1) h fun x35_1 =>
 ldB ((Addr.mk b5 0 none).add 2) h fun x35_2 =>
 alc (.cells #[.int .i64 x35_0, .int .i64 x35_1, .bool x35_2] 68) h fun b36 h =>
 cell h (a32.add 2) = some (.slice x34.p x34.n x34.c) ∧
 appW 68 3 24 (.agg #[.int .i64 0, .int .i64 0, .bool false]) x34 (Sl.mk (some (Addr.mk b36 0 none)) 1 1) h fun x37 h =>
 cell h ((Addr.mk b5 0 none).add 0) = some (.int .i64 x35_0) ∧
 cell h ((Addr.mk b5 0 none).add 1) = some (.int .i64 x35_1) ∧
 cell h ((Addr.mk b5 0 none).add 2) = some (.bool x35_2) ∧
 pm p0 fun a38 =>
 st (a38.add 2) (.slice x37.p x37.n x37.c) h fun h =>
 ldI .i64 ((Addr.mk b5 0 none).add 0) h fun x41 =>
 R x41 h

def S_ref20_Lock_grants (p0 : Option Addr) (p1 : Int) (p2 : Bool) (h : Heap) (R : Sl → Heap → Prop) : Prop :=
 Lp (τ := Sl × Int × Unit) (fun X3 s3 h => ∀ _ : Fr,
 pm p0 fun a11 =>
 ldS (a11.add 3) h fun x13 =>
 if (decide (s3.2.1 < ((x13.n : Nat) : Int))) = true then
 (
 pm p0 fun a17 =>
 ldS (a17.add 3) h fun x19 =>
 pm x19.p fun a21 =>
 0 ≤ s3.2.1 ∧ s3.2.1 < ((x19.n : Nat) : Int) ∧
 ldI .i64 ((a21.add (Int.toNat s3.2.1 * 3)).add 1) h fun x23 =>
 if (x23 != p1) = true then
 (
 X3 (s3.1, (IntKind.wrap .i64 (s3.2.1 + 1)), ()) h)
 else
 (if (decide (((s3.1.n : Nat) : Int) > 0)) = true then
 (
 if (!p2) = true then
 (
 X3 (s3.1, (IntKind.wrap .i64 (s3.2.1 + 1)), ()) h)
 else
 (
 C_ref20_Lock_grant p0 s3.2.1 h fun x40 h =>
 alc (.cells #[.int .i64 x40] 3) h fun b41 h =>
 appW 3 1 8 (.int .i64 0) s3.1 (Sl.mk (some (Addr.mk b41 0 none)) 1 1) h fun x42 h =>
 X3 (x42, s3.2.1, ()) h))
 else
 (
 C_ref20_Lock_grant p0 s3.2.1 h fun x40 h =>
 alc (.cells #[.int .i64 x40] 3) h fun b41 h =>
 appW 3 1 8 (.int .i64 0) s3.1 (Sl.mk (some (Addr.mk b41 0 none)) 1 1) h fun x42 h =>
 X3 (x42, s3.2.1, ()) h)))
 else
 (
 R s3.1 h)) (((Sl.mk none 0 0) : Sl), (0 : Int), ()) h

def S_ref20_has (p0 : Sl) (p1 : Int) (h : Heap) (R : Bool → Heap → Prop) : Prop :=
 Lp (τ := Int × Unit) (fun X2 s2 h => ∀ _ : Fr,
 if (decide (s2.1 < ((p0.n : Nat) : Int))) = true then
 (
 pm p0.p fun a14 =>
 0 ≤ s2.1 ∧ s2.1 < ((p0.n : Nat) : Int) ∧
 ldI .i64 ((a14.add (Int.toNat s2.1 * 3)).add 1) h fun x16 =>
 if (x16 == p1) = true then
 (
 R true h)
 else
 (
 X2 ((IntKind.wrap .i64 (s2.1 + 1)), ()) h))
 else
 (
 R false h)) ((0 : Int), ()) h

def S_ref20_Lock_on (p0 : Option Addr) (h : Heap) (R : Sl → Heap → Prop) : Prop :=
 pm p0 fun a5 =>
 ldS (a5.add 3) h fun x7 =>
 if (((x7.n : Nat) : Int) == 0) = true then
 (
 R (Sl.mk none 0 0) h)
 else
 (
 pm p0 fun a11 =>
 ldS (a11.add 2) h fun x13 =>
 if (((x13.n : Nat) : Int) == 0) = true then
 (pm p0 fun a17 =>
 ldS (a17.add 3) h fun x19 =>
 C_ref20_set 0 x19 h fun x20 h =>
 pm p0 fun a23 =>
 ldI .i64 ((a23.add 4).add 0) h fun x25_0 =>
 ldI .i64 ((a23.add 4).add 1) h fun x25_1 =>
 pm p0 fun a27 =>
 ldI .i64 (a27.add 1) h fun x29 =>
 pm p0 fun a32 =>
 ldP (a32.add 6) h fun x34 =>
 C_ref18_Ledger_Least x34 x20 h fun x36 h =>
 cell h (a27.add 1) = some (.int .i64 x29) ∧
 cell h ((a23.add 4).add 0) = some (.int .i64 x25_0) ∧
 cell h ((a23.add 4).add 1) = some (.int .i64 x25_1) ∧
 C_ref19_Next x25_0 x25_1 x29 x20 x36 h fun x37_0 x37_1 h =>
 cell h (a32.add 6) = some (.pointer x34) ∧
 pm p0 fun a38 =>
 stF [.int .i64 x37_0, .int .i64 x37_1] h (a38.add 4) 0 fun h =>
 pm p0 fun a42 =>
 ldI .i64 ((a42.add 4).add 0) h fun x45 =>
 pm p0 fun a47 =>
 ldB (a47.add 0) h fun x49 =>
 if x49 = true then
 (pm p0 fun a52 =>
 ldI .i64 ((a52.add 4).add 0) h fun x55 =>
 C_ref20_Lock_grants p0 x45 (x55 == 0) h fun x58 h =>
 cell h ((a52.add 4).add 0) = some (.int .i64 x55) ∧
 cell h (a47.add 0) = some (.bool x49) ∧
 R x58 h)
 else
 (C_ref20_Lock_grants p0 x45 false h fun x58 h =>
 cell h (a47.add 0) = some (.bool x49) ∧
 R x58 h))
 else
 (
 pm p0 fun a60 =>
 ldB (a60.add 0) h fun x62 =>
 if x62 = true then
 (pm p0 fun a65 =>
 ldS (a65.add 2) h fun x67 =>
 C_ref20_has x67 1 h fun x68 h =>
 if (!x68) = true then
 (pm p0 fun a73 =>
 ldS (a73.add 3) h fun x75 =>
 C_ref20_has x75 1 h fun x76 h =>
 if (!x76) = true then
 (C_ref20_Lock_grants p0 0 true h fun x80 h =>
 R x80 h)
 else
 (
 R (Sl.mk none 0 0) h))
 else
 (
 R (Sl.mk none 0 0) h))
 else
 (
 R (Sl.mk none 0 0) h)))

def S_ref15_Lock (p0 : Int) (h : Heap) (R : Int → Heap → Prop) : Prop :=
 C_ref15_Bring p0 1 16 h fun x4 h =>
 (IntKind.wrap .u64 x4) ≠ 0 ∧
 R (IntKind.wrap .u64 (Int.tdiv 720720 (IntKind.wrap .u64 x4))) h

def S_ref15_Slack (p0 : Int) (p1 : Int) (p2 : Int) (h : Heap) (R : Int → Heap → Prop) : Prop :=
 C_ref15_Lock p0 h fun x8 h =>
 C_ref15_Bring p1 1 32 h fun x10 h =>
 C_ref15_Bring p2 1 32 h fun x12 h =>
 R (IntKind.wrap .u64 (x8 * (IntKind.wrap .u64 (IntKind.wrap .i64 (x10 + x12))))) h

def S_ref15_Clamp (p0 : Int) (p1 : Int) (p2 : Int) (h : Heap) (R : Int → Heap → Prop) : Prop :=
 if (decide (p0 < p1)) = true then
 (
 R p1 h)
 else
 (
 C_ref01_Add p1 p2 h fun x16a x16b h =>
 if (decide (p0 > x16a)) = true then
 (
 R x16a h)
 else
 (
 R p0 h))

def S_ref18_Ledger_Settle (p0 : Option Addr) (p1 : Int) (h : Heap) (R : Heap → Prop) : Prop :=
 Lp (τ := Int × Bool × Int × Unit) (fun X3 s3 h => ∀ _ : Fr,
 pm p0 fun a10 =>
 ldS (a10.add 0) h fun x12 =>
 if (decide (s3.2.2.1 < ((x12.n : Nat) : Int))) = true then
 (
 C_ref06_Has p1 s3.2.2.1 h fun x19 h =>
 jn (α := Unit) (fun K8 =>
 jn (α := Bool × Unit) (fun K9 =>
 if x19 = true then
 (pm p0 fun a23 =>
 ldS (a23.add 0) h fun x25 =>
 pm x25.p fun a27 =>
 0 ≤ s3.2.2.1 ∧ s3.2.2.1 < ((x25.n : Nat) : Int) ∧
 ldB ((a27.add (Int.toNat s3.2.2.1 * 4)).add 3) h fun x29 =>
 K9 ((!x29), ()) h)
 else
 (K9 (false, ()) h)) fun j9 h =>
 if j9.1 = true then
 (pm p0 fun a33 =>
 ldS (a33.add 0) h fun x35 =>
 pm p0 fun a38 =>
 ldS (a38.add 0) h fun x40 =>
 pm x40.p fun a42 =>
 0 ≤ s3.2.2.1 ∧ s3.2.2.1 < ((x40.n : Nat) : Int) ∧
 ldI .u64 ((a42.add (Int.toNat s3.2.2.1 * 4)).add 1) h fun x44 =>
 pm p0 fun a46 =>
 ldI .u64 (a46.add 3) h fun x48 =>
 pm p0 fun a50 =>
 ldS (a50.add 0) h fun x52 =>
 pm x52.p fun a54 =>
 0 ≤ s3.2.2.1 ∧ s3.2.2.1 < ((x52.n : Nat) : Int) ∧
 ldI .i64 ((a54.add (Int.toNat s3.2.2.1 * 4)).add 0) h fun x56 =>
 pm p0 fun a58 =>
 ldI .i64 (a58.add 1) h fun x60 =>
 pm p0 fun a62 =>
 ldI .i64 (a62.add 2) h fun x64 =>
 C_ref15_Slack x56 x60 x64 h fun x65 h =>
 cell h (a50.add 0) = some (.slice x52.p x52.n x52.c) ∧
 cell h (a46.add 3) = some (.int .u64 x48) ∧
 cell h ((a42.add (Int.toNat s3.2.2.1 * 4)).add 1) = some (.int .u64 x44) ∧
 cell h (a38.add 0) = some (.slice x40.p x40.n x40.c) ∧
 cell h (a33.add 0) = some (.slice x35.p x35.n x35.c) ∧
 C_ref15_Clamp x44 x48 x65 h fun x66 h =>
 cell h (a62.add 2) = some (.int .i64 x64) ∧
 cell h (a58.add 1) = some (.int .i64 x60) ∧
 cell h ((a54.add (Int.toNat s3.2.2.1 * 4)).add 0) = some (.int .i64 x56) ∧
 cell h (a50.add 0) = some (.slice x52.p x52.n x52.c) ∧
 cell h (a38.add 0) = some (.slice x40.p x40.n x40.c) ∧
 cell h (a33.add 0) = some (.slice x35.p x35.n x35.c) ∧
 pm x35.p fun a67 =>
 0 ≤ s3.2.2.1 ∧ s3.2.2.1 < ((x35.n : Nat) : Int) ∧
 st ((a67.add (Int.toNat s3.2.2.1 * 4)).add 1) (.int .u64 x66) h fun h =>
 K8 (()) h)
 else
 (K8 (()) h)) fun j8 h =>
 pm p0 fun a70 =>
 ldS (a70.add 0) h fun x72 =>
 pm x72.p fun a75 =>
 0 ≤ s3.2.2.1 ∧ s3.2.2.1 < ((x72.n : Nat) : Int) ∧
 st ((a75.add (Int.toNat s3.2.2.1 * 4)).add 3) (.bool x19) h fun h =>
 jn (α := Bool × Unit) (fun K11 =>
 if x19 = true then
 (if (!s3.2.1) = true then
 (K11 (true, ()) h)
 else
 (pm p0 fun a83 =>
 ldS (a83.add 0) h fun x85 =>
 pm x85.p fun a87 =>
 0 ≤ s3.2.2.1 ∧ s3.2.2.1 < ((x85.n : Nat) : Int) ∧
 ldI .u64 ((a87.add (Int.toNat s3.2.2.1 * 4)).add 1) h fun x89 =>
 K11 ((decide (x89 < s3.1)), ()) h))
 else
 (K11 (false, ()) h)) fun j11 h =>
 if j11.1 = true then
 (pm p0 fun a95 =>
 ldS (a95.add 0) h fun x97 =>
 pm x97.p fun a99 =>
 0 ≤ s3.2.2.1 ∧ s3.2.2.1 < ((x97.n : Nat) : Int) ∧
 ldI .u64 ((a99.add (Int.toNat s3.2.2.1 * 4)).add 1) h fun x101 =>
 X3 (x101, true, (IntKind.wrap .i64 (s3.2.2.1 + 1)), ()) h)
 else
 (
 X3 (s3.1, s3.2.1, (IntKind.wrap .i64 (s3.2.2.1 + 1)), ()) h))
 else
 (
 if s3.2.1 = true then
 (pm p0 fun a106 =>
 ldI .u64 (a106.add 3) h fun x108 =>
 if (decide (s3.1 > x108)) = true then
 (pm p0 fun a113 =>
 st (a113.add 3) (.int .u64 s3.1) h fun h =>
 R h)
 else
 (R h))
 else
 (
 R h))) ((0 : Int), false, (0 : Int), ()) h

def S_ref20_Lock_Settle (p0 : Option Addr) (h : Heap) (R : Heap → Prop) : Prop :=
 pm p0 fun a3 =>
 ldP (a3.add 6) h fun x5 =>
 pm p0 fun a7 =>
 ldS (a7.add 2) h fun x9 =>
 pm p0 fun a12 =>
 ldS (a12.add 3) h fun x14 =>
 C_ref20_set 0 x9 h fun x10 h =>
 cell h (a12.add 3) = some (.slice x14.p x14.n x14.c) ∧
 cell h (a3.add 6) = some (.pointer x5) ∧
 C_ref20_set x10 x14 h fun x15 h =>
 cell h (a7.add 2) = some (.slice x9.p x9.n x9.c) ∧
 cell h (a3.add 6) = some (.pointer x5) ∧
 C_ref18_Ledger_Settle x5 x15 h fun h =>
 cell h (a12.add 3) = some (.slice x14.p x14.n x14.c) ∧
 cell h (a7.add 2) = some (.slice x9.p x9.n x9.c) ∧
 R h

def S_ref20_Lock_Leave (p0 : Option Addr) (p1 : Int) (h : Heap) (R : Sl → Bool → Heap → Prop) : Prop :=
 pm p0 fun a9 =>
 ldS (a9.add 3) h fun x11 =>
 C_ref20_at x11 p1 h fun x13 h =>
 if (decide (x13 < 0)) = true then
 (
 R (Sl.mk none 0 0) false h)
 else
 (
 pm p0 fun a18 =>
 ldS (a18.add 3) h fun x20 =>
 C_ref20_drop x20 x13 h fun x22 h =>
 pm p0 fun a23 =>
 st (a23.add 3) (.slice x22.p x22.n x22.c) h fun h =>
 C_ref20_Lock_on p0 h fun x26 h =>
 C_ref20_Lock_Settle p0 h fun h =>
 R x26 true h)

def S_ref26_Machine_how (p0 : Option Addr) (p1 : Int) (p2 : Int) (h : Heap) (R : Int → Heap → Prop) : Prop :=
 pm p0 fun a11 =>
 ldS (a11.add 8) h fun x13 =>
 pm x13.p fun a15 =>
 0 ≤ p1 ∧ p1 < ((x13.n : Nat) : Int) ∧
 ldP (a15.add (Int.toNat p1 * 1)) h fun x16 =>
 Lp (τ := Int × Unit) (fun X3 s3 h => ∀ _ : Fr,
 pm x16 fun a19 =>
 ldS (a19.add 2) h fun x21 =>
 if (decide (s3.1 < ((x21.n : Nat) : Int))) = true then
 (
 pm x16 fun a27 =>
 ldS (a27.add 2) h fun x29 =>
 pm x29.p fun a31 =>
 0 ≤ s3.1 ∧ s3.1 < ((x29.n : Nat) : Int) ∧
 ldI .i64 ((a31.add (Int.toNat s3.1 * 3)).add 0) h fun x33 =>
 if (x33 == p2) = true then
 (
 jn (α := Int × Unit) (fun K9 =>
 pm x16 fun a37 =>
 ldS (a37.add 2) h fun x39 =>
 pm x39.p fun a41 =>
 0 ≤ s3.1 ∧ s3.1 < ((x39.n : Nat) : Int) ∧
 ldB ((a41.add (Int.toNat s3.1 * 3)).add 2) h fun x43 =>
 if x43 = true then
 (K9 (1, ()) h)
 else
 (K9 (0, ()) h)) fun j9 h =>
 pm x16 fun a45 =>
 ldB (a45.add 0) h fun x47 =>
 if x47 = true then
 (pm x16 fun a50 =>
 ldS (a50.add 2) h fun x52 =>
 pm x52.p fun a54 =>
 0 ≤ s3.1 ∧ s3.1 < ((x52.n : Nat) : Int) ∧
 ldI .i64 ((a54.add (Int.toNat s3.1 * 3)).add 1) h fun x56 =>
 if (x56 == 0) = true then
 (
 R (IntKind.wrap .i64 (j9.1 + 2)) h)
 else
 (
 R j9.1 h))
 else
 (
 R j9.1 h))
 else
 (
 X3 ((IntKind.wrap .i64 (s3.1 + 1)), ()) h))
 else
 (
 R 0 h)) ((0 : Int), ()) h

def S_ref17_Cores_Of (p0 : Option Addr) (p1 : Int) (h : Heap) (R : Int → Heap → Prop) : Prop :=
 Lp (τ := Int × Unit) (fun X2 s2 h => ∀ _ : Fr,
 pm p0 fun a8 =>
 ldS (a8.add 0) h fun x10 =>
 if (decide (s2.1 < ((x10.n : Nat) : Int))) = true then
 (
 pm p0 fun a16 =>
 ldS (a16.add 0) h fun x18 =>
 pm x18.p fun a20 =>
 0 ≤ s2.1 ∧ s2.1 < ((x18.n : Nat) : Int) ∧
 ldP (a20.add (Int.toNat s2.1 * 1)) h fun x21 =>
 C_ref16_Queue_At x21 p1 h fun x23 h =>
 if (decide (x23 ≥ 0)) = true then
 (
 R s2.1 h)
 else
 (
 X2 ((IntKind.wrap .i64 (s2.1 + 1)), ()) h))
 else
 (
 R (-1) h)) ((0 : Int), ()) h

def S_ref17_Cores_All (p0 : Option Addr) (h : Heap) (R : Int → Heap → Prop) : Prop :=
 Lp (τ := Int × Int × Unit) (fun X3 s3 h => ∀ _ : Fr,
 pm p0 fun a7 =>
 ldS (a7.add 0) h fun x9 =>
 if (decide (s3.2.1 < ((x9.n : Nat) : Int))) = true then
 (
 pm p0 fun a16 =>
 ldS (a16.add 0) h fun x18 =>
 pm x18.p fun a20 =>
 0 ≤ s3.2.1 ∧ s3.2.1 < ((x18.n : Nat) : Int) ∧
 ldP (a20.add (Int.toNat s3.2.1 * 1)) h fun x21 =>
 pm x21 fun a22 =>
 ldS (a22.add 2) h fun x24 =>
 X3 ((IntKind.wrap .i64 (s3.1 + ((x24.n : Nat) : Int))), (IntKind.wrap .i64 (s3.2.1 + 1)), ()) h)
 else
 (
 R s3.1 h)) ((0 : Int), (0 : Int), ()) h

def S_ref15_Reach (p0 : Int) (p1 : Int) (h : Heap) (R : Int → Heap → Prop) : Prop :=
 C_ref15_Core p0 h fun x6 h =>
 C_ref15_Bring p1 1 8 h fun x8 h =>
 R (IntKind.wrap .u64 (x6 * (IntKind.wrap .u64 x8))) h

def S_ref16_Queue_place (p0 : Option Addr) (p1 : Int) (p2 : Int) (h : Heap) (R : Int → Heap → Prop) : Prop :=
 pm p0 fun a9 =>
 ldI .u64 (a9.add 1) h fun x11 =>
 pm p0 fun a14 =>
 ldI .i64 (a14.add 0) h fun x16 =>
 C_ref15_Reach p2 x16 h fun x17 h =>
 cell h (a9.add 1) = some (.int .u64 x11) ∧
 C_ref15_Clamp p1 x11 x17 h fun x18 h =>
 cell h (a14.add 0) = some (.int .i64 x16) ∧
 R x18 h

def S_ref16_Queue_Add (p0 : Option Addr) (p1 : Int) (p2 : Int) (p3 : Int) (h : Heap) (R : Int → Int → Heap → Prop) : Prop :=
 if (decide (p1 < 0)) = true then
 (
 R 0 1 h)
 else
 (
 C_ref16_Queue_At p0 p1 h fun x14 h =>
 if (decide (x14 ≥ 0)) = true then
 (
 R 0 12 h)
 else
 (
 pm p0 fun a17 =>
 ldS (a17.add 2) h fun x19 =>
 if (decide (((x19.n : Nat) : Int) ≥ 16)) = true then
 (
 R 0 3 h)
 else
 (
 C_ref15_Bring p3 1 4096 h fun x23 h =>
 C_ref16_Queue_place p0 p2 x23 h fun x27 h =>
 pm p0 fun a30 =>
 ldS (a30.add 2) h fun x32 =>
 alc (.cells #[.int .i64 p1, .int .u64 x27, .int .i64 x23] 137) h fun b37 h =>
 appW 137 3 24 (.agg #[.int .i64 0, .int .u64 0, .int .i64 0]) x32 (Sl.mk (some (Addr.mk b37 0 none)) 1 1) h fun x38 h =>
 pm p0 fun a39 =>
 st (a39.add 2) (.slice x38.p x38.n x38.c) h fun h =>
 R x27 0 h)))

def S_ref17_Cores_Add (p0 : Option Addr) (p1 : Int) (p2 : Int) (p3 : Int) (p4 : Int) (h : Heap) (R : Int → Int → Heap → Prop) : Prop :=
 if (decide (p1 < 0)) = true then
 (
 R 0 1 h)
 else
 (pm p0 fun a17 =>
 ldS (a17.add 0) h fun x19 =>
 if (decide (p1 ≥ ((x19.n : Nat) : Int))) = true then
 (
 R 0 1 h)
 else
 (
 if (decide (p2 < 0)) = true then
 (
 R 0 1 h)
 else
 (
 C_ref17_Cores_Of p0 p2 h fun x29 h =>
 if (decide (x29 ≥ 0)) = true then
 (
 R 0 12 h)
 else
 (
 C_ref17_Cores_All p0 h fun x32 h =>
 if (decide (x32 ≥ 16)) = true then
 (
 R 0 3 h)
 else
 (
 pm p0 fun a35 =>
 ldS (a35.add 0) h fun x37 =>
 pm x37.p fun a39 =>
 0 ≤ p1 ∧ p1 < ((x37.n : Nat) : Int) ∧
 ldP (a39.add (Int.toNat p1 * 1)) h fun x40 =>
 C_ref16_Queue_Add x40 p2 p3 p4 h fun x44a x44b h =>
 R x44a x44b h)))))

def S_ref26_Machine_back (p0 : Option Addr) (p1 : Int) (h : Heap) (R : Heap → Prop) : Prop :=
 pm p0 fun a5 =>
 ldS (a5.add 11) h fun x7 =>
 pm x7.p fun a9 =>
 0 ≤ p1 ∧ p1 < ((x7.n : Nat) : Int) ∧
 st ((a9.add (Int.toNat p1 * 12)).add 6) (.int .i64 1) h fun h =>
 pm p0 fun a12 =>
 ldS (a12.add 11) h fun x14 =>
 pm x14.p fun a16 =>
 0 ≤ p1 ∧ p1 < ((x14.n : Nat) : Int) ∧
 st ((a16.add (Int.toNat p1 * 12)).add 7) (.int .u64 0) h fun h =>
 pm p0 fun a19 =>
 ldS (a19.add 11) h fun x21 =>
 pm x21.p fun a23 =>
 0 ≤ p1 ∧ p1 < ((x21.n : Nat) : Int) ∧
 st ((a23.add (Int.toNat p1 * 12)).add 8) (.int .i64 (-1)) h fun h =>
 pm p0 fun a26 =>
 ldP (a26.add 6) h fun x28 =>
 pm p0 fun a30 =>
 ldS (a30.add 11) h fun x32 =>
 pm x32.p fun a34 =>
 0 ≤ p1 ∧ p1 < ((x32.n : Nat) : Int) ∧
 ldI .i64 ((a34.add (Int.toNat p1 * 12)).add 3) h fun x36 =>
 pm p0 fun a39 =>
 ldS (a39.add 12) h fun x41 =>
 pm x41.p fun a43 =>
 0 ≤ p1 ∧ p1 < ((x41.n : Nat) : Int) ∧
 ldI .u64 (a43.add (Int.toNat p1 * 1)) h fun x44 =>
 pm p0 fun a46 =>
 ldS (a46.add 11) h fun x48 =>
 pm x48.p fun a50 =>
 0 ≤ p1 ∧ p1 < ((x48.n : Nat) : Int) ∧
 ldI .i64 ((a50.add (Int.toNat p1 * 12)).add 10) h fun x52 =>
 C_ref17_Cores_Add x28 x36 p1 x44 x52 h fun x53a x53b h =>
 cell h (a46.add 11) = some (.slice x48.p x48.n x48.c) ∧
 cell h (a39.add 12) = some (.slice x41.p x41.n x41.c) ∧
 cell h (a30.add 11) = some (.slice x32.p x32.n x32.c) ∧
 pm p0 fun a57 =>
 ldS (a57.add 11) h fun x59 =>
 pm x59.p fun a61 =>
 0 ≤ p1 ∧ p1 < ((x59.n : Nat) : Int) ∧
 ldI .i64 ((a61.add (Int.toNat p1 * 12)).add 3) h fun x63 =>
 C_ref26_Machine_tell p0 7 p1 (-1) x63 h fun h =>
 R h

def S_ref26_Machine_holders (p0 : Option Addr) (p1 : Int) (h : Heap) (R : Int → Heap → Prop) : Prop :=
 pm p0 fun a9 =>
 ldS (a9.add 8) h fun x11 =>
 pm x11.p fun a13 =>
 0 ≤ p1 ∧ p1 < ((x11.n : Nat) : Int) ∧
 ldP (a13.add (Int.toNat p1 * 1)) h fun x14 =>
 Lp (τ := Int × Int × Unit) (fun X4 s4 h => ∀ _ : Fr,
 pm x14 fun a17 =>
 ldS (a17.add 2) h fun x19 =>
 if (decide (s4.2.1 < ((x19.n : Nat) : Int))) = true then
 (
 pm x14 fun a26 =>
 ldS (a26.add 2) h fun x28 =>
 pm x28.p fun a30 =>
 0 ≤ s4.2.1 ∧ s4.2.1 < ((x28.n : Nat) : Int) ∧
 ldI .i64 ((a30.add (Int.toNat s4.2.1 * 3)).add 0) h fun x32 =>
 C_ref06_With s4.1 x32 h fun x33 h =>
 X4 (x33, (IntKind.wrap .i64 (s4.2.1 + 1)), ()) h)
 else
 (
 R s4.1 h)) ((0 : Int), (0 : Int), ()) h

def S_ref22_Is (p0 : Int) (h : Heap) (R : Bool → Heap → Prop) : Prop :=
 if (decide (p0 ≥ 0)) = true then
 (
 R (decide (p0 < 64)) h)
 else
 (
 R false h)

def S_ref22_Graph_over (p0 : Option Addr) (p1 : Int) (h : Heap) (R : Int → Heap → Prop) : Prop :=
 Lp (τ := Int × Bool × Unit) (fun X2 s2 h => ∀ _ : Fr,
 if s2.2.1 = true then
 (
 Lp (τ := Int × Bool × Int × Unit) (fun X5 s5 h => ∀ _ : Fr,
 if (decide (s5.2.2.1 < 64)) = true then
 (
 jn (α := Bool × Unit) (fun K10 =>
 C_ref06_Has s5.1 s5.2.2.1 h fun x14 h =>
 if x14 = true then
 (pm p0 fun a17 =>
 ldS (a17.add 0) h fun x19 =>
 pm x19.p fun a21 =>
 0 ≤ s5.2.2.1 ∧ s5.2.2.1 < ((x19.n : Nat) : Int) ∧
 ldI .u64 (a21.add (Int.toNat s5.2.2.1 * 1)) h fun x22 =>
 K10 (((bAndNot .u64 x22 s5.1) != 0), ()) h)
 else
 (K10 (false, ()) h)) fun j10 h =>
 if j10.1 = true then
 (pm p0 fun a29 =>
 ldS (a29.add 0) h fun x31 =>
 pm x31.p fun a33 =>
 0 ≤ s5.2.2.1 ∧ s5.2.2.1 < ((x31.n : Nat) : Int) ∧
 ldI .u64 (a33.add (Int.toNat s5.2.2.1 * 1)) h fun x34 =>
 X5 ((bOr .u64 s5.1 x34), true, (IntKind.wrap .i64 (s5.2.2.1 + 1)), ()) h)
 else
 (
 X5 (s5.1, s5.2.1, (IntKind.wrap .i64 (s5.2.2.1 + 1)), ()) h))
 else
 (X2 (s5.1, s5.2.1, ()) h)) ((s2.1 : Int), false, (0 : Int), ()) h)
 else
 (
 R s2.1 h)) ((p1 : Int), true, ()) h

def S_ref22_Graph_Closes (p0 : Option Addr) (p1 : Int) (p2 : Int) (h : Heap) (R : Bool → Heap → Prop) : Prop :=
 C_ref22_Is p1 h fun x8 h =>
 if x8 = true then
 (C_ref22_Graph_over p0 p2 h fun x12 h =>
 C_ref06_Has x12 p1 h fun x14 h =>
 R x14 h)
 else
 (
 R false h)

def S_ref22_Graph_Wait (p0 : Option Addr) (p1 : Int) (p2 : Int) (h : Heap) (R : Int → Heap → Prop) : Prop :=
 C_ref22_Is p1 h fun x9 h =>
 if (!x9) = true then
 (
 R 1 h)
 else
 (
 pm p0 fun a12 =>
 ldS (a12.add 0) h fun x14 =>
 pm x14.p fun a16 =>
 0 ≤ p1 ∧ p1 < ((x14.n : Nat) : Int) ∧
 ldI .u64 (a16.add (Int.toNat p1 * 1)) h fun x17 =>
 pm p0 fun a19 =>
 ldS (a19.add 0) h fun x21 =>
 pm x21.p fun a23 =>
 0 ≤ p1 ∧ p1 < ((x21.n : Nat) : Int) ∧
 st (a23.add (Int.toNat p1 * 1)) (.int .u64 0) h fun h =>
 C_ref22_Graph_Closes p0 p1 p2 h fun x27 h =>
 if x27 = true then
 (pm p0 fun a29 =>
 ldS (a29.add 0) h fun x31 =>
 pm x31.p fun a34 =>
 0 ≤ p1 ∧ p1 < ((x31.n : Nat) : Int) ∧
 st (a34.add (Int.toNat p1 * 1)) (.int .u64 x17) h fun h =>
 R 9 h)
 else
 (
 pm p0 fun a36 =>
 ldS (a36.add 0) h fun x38 =>
 pm x38.p fun a41 =>
 0 ≤ p1 ∧ p1 < ((x38.n : Nat) : Int) ∧
 st (a41.add (Int.toNat p1 * 1)) (.int .u64 p2) h fun h =>
 R 0 h))

def S_ref26_Machine_edges (p0 : Option Addr) (p1 : Int) (h : Heap) (R : Heap → Prop) : Prop :=
 pm p0 fun a7 =>
 ldS (a7.add 8) h fun x9 =>
 pm x9.p fun a11 =>
 0 ≤ p1 ∧ p1 < ((x9.n : Nat) : Int) ∧
 ldP (a11.add (Int.toNat p1 * 1)) h fun x12 =>
 Lp (τ := Int × Unit) (fun X2 s2 h => ∀ _ : Fr,
 pm x12 fun a15 =>
 ldS (a15.add 3) h fun x17 =>
 if (decide (s2.1 < ((x17.n : Nat) : Int))) = true then
 (
 pm p0 fun a23 =>
 ldP (a23.add 10) h fun x25 =>
 pm x12 fun a27 =>
 ldS (a27.add 3) h fun x29 =>
 pm x29.p fun a31 =>
 0 ≤ s2.1 ∧ s2.1 < ((x29.n : Nat) : Int) ∧
 ldI .i64 ((a31.add (Int.toNat s2.1 * 3)).add 0) h fun x33 =>
 C_ref26_Machine_holders p0 p1 h fun x36 h =>
 cell h ((a31.add (Int.toNat s2.1 * 3)).add 0) = some (.int .i64 x33) ∧
 cell h (a27.add 3) = some (.slice x29.p x29.n x29.c) ∧
 cell h (a23.add 10) = some (.pointer x25) ∧
 C_ref22_Graph_Wait x25 x33 x36 h fun x37 h =>
 cell h (a27.add 3) = some (.slice x29.p x29.n x29.c) ∧
 X2 ((IntKind.wrap .i64 (s2.1 + 1)), ()) h)
 else
 (R h)) ((0 : Int), ()) h

def S_ref26_Machine_give (p0 : Option Addr) (p1 : Int) (p2 : Sl) (h : Heap) (R : Heap → Prop) : Prop :=
 Lp (τ := Int × Unit) (fun X1 s1 h => ∀ _ : Fr,
 if (decide (s1.1 < ((p2.n : Nat) : Int))) = true then
 (
 pm p2.p fun a16 =>
 0 ≤ s1.1 ∧ s1.1 < ((p2.n : Nat) : Int) ∧
 ldI .i64 (a16.add (Int.toNat s1.1 * 1)) h fun x17 =>
 C_ref26_Machine_how p0 p1 x17 h fun x24 h =>
 C_ref26_Machine_tell p0 4 x17 p1 x24 h fun h =>
 pm p0 fun a27 =>
 ldS (a27.add 11) h fun x29 =>
 pm x29.p fun a31 =>
 0 ≤ x17 ∧ x17 < ((x29.n : Nat) : Int) ∧
 ldI .i64 ((a31.add (Int.toNat x17 * 12)).add 4) h fun x33 =>
 pm x29.p fun a35 =>
 0 ≤ x17 ∧ x17 < ((x29.n : Nat) : Int) ∧
 st ((a35.add (Int.toNat x17 * 12)).add 4) (.int .i64 (IntKind.wrap .i64 (x33 + 1))) h fun h =>
 pm p0 fun a38 =>
 ldP (a38.add 10) h fun x40 =>
 pm x40 fun a41 =>
 ldS (a41.add 0) h fun x43 =>
 pm x43.p fun a45 =>
 0 ≤ x17 ∧ x17 < ((x43.n : Nat) : Int) ∧
 st (a45.add (Int.toNat x17 * 1)) (.int .u64 0) h fun h =>
 C_ref26_Machine_back p0 x17 h fun h =>
 X1 ((IntKind.wrap .i64 (s1.1 + 1)), ()) h)
 else
 (
 C_ref26_Machine_edges p0 p1 h fun h =>
 R h)) ((0 : Int), ()) h

def S_ref20_Lock_Holds (p0 : Option Addr) (p1 : Int) (h : Heap) (R : Bool → Heap → Prop) : Prop :=
 pm p0 fun a6 =>
 ldS (a6.add 2) h fun x8 =>
 C_ref20_at x8 p1 h fun x10 h =>
 R (decide (x10 ≥ 0)) h

def S_ref20_Lock_Waits (p0 : Option Addr) (p1 : Int) (h : Heap) (R : Bool → Heap → Prop) : Prop :=
 pm p0 fun a6 =>
 ldS (a6.add 3) h fun x8 =>
 C_ref20_at x8 p1 h fun x10 h =>
 R (decide (x10 ≥ 0)) h

def S_ref20_Lock_Unlock (p0 : Option Addr) (p1 : Int) (h : Heap) (R : Sl → Int → Heap → Prop) : Prop :=
 pm p0 fun a9 =>
 ldS (a9.add 2) h fun x11 =>
 C_ref20_at x11 p1 h fun x13 h =>
 if (decide (x13 < 0)) = true then
 (
 R (Sl.mk none 0 0) 7 h)
 else
 (
 pm p0 fun a18 =>
 ldS (a18.add 2) h fun x20 =>
 C_ref20_drop x20 x13 h fun x22 h =>
 pm p0 fun a23 =>
 st (a23.add 2) (.slice x22.p x22.n x22.c) h fun h =>
 pm p0 fun a26 =>
 ldS (a26.add 2) h fun x28 =>
 if (((x28.n : Nat) : Int) == 0) = true then
 (C_ref20_Lock_on p0 h fun x32 h =>
 C_ref20_Lock_Settle p0 h fun h =>
 R x32 0 h)
 else
 (
 C_ref20_Lock_Settle p0 h fun h =>
 R (Sl.mk none 0 0) 0 h))

def S_ref20_Lock_Die (p0 : Option Addr) (p1 : Int) (h : Heap) (R : Sl → Bool → Heap → Prop) : Prop :=
 C_ref20_Lock_Waits p0 p1 h fun x10 h =>
 if x10 = true then
 (C_ref20_Lock_Leave p0 p1 h fun x13a x13b h =>
 R x13a x13b h)
 else
 (
 C_ref20_Lock_Holds p0 p1 h fun x18 h =>
 if (!x18) = true then
 (
 R (Sl.mk none 0 0) false h)
 else
 (
 pm p0 fun a21 =>
 st (a21.add 7) (.bool true) h fun h =>
 C_ref20_Lock_Unlock p0 p1 h fun x26a x26b h =>
 R x26a true h))

def S_ref16_Queue_Remove (p0 : Option Addr) (p1 : Int) (h : Heap) (R : Int → Bool → Heap → Prop) : Prop :=
 C_ref16_Queue_At p0 p1 h fun x10 h =>
 if (decide (x10 < 0)) = true then
 (
 R 0 false h)
 else
 (
 pm p0 fun a14 =>
 ldS (a14.add 2) h fun x16 =>
 pm x16.p fun a18 =>
 0 ≤ x10 ∧ x10 < ((x16.n : Nat) : Int) ∧
 ldI .u64 ((a18.add (Int.toNat x10 * 3)).add 1) h fun x20 =>
 pm p0 fun a24 =>
 ldS (a24.add 2) h fun x26 =>
 slc 3 x26.p x26.c (0 : Int) x10 fun x28 =>
 pm p0 fun a31 =>
 ldS (a31.add 2) h fun x33 =>
 slc 3 x33.p x33.c (IntKind.wrap .i64 (x10 + 1)) (x33.n : Nat) fun x36 =>
 alc (.cells #[] 137) h fun b22 h =>
 cell h (a31.add 2) = some (.slice x33.p x33.n x33.c) ∧
 cell h (a24.add 2) = some (.slice x26.p x26.n x26.c) ∧
 appW 137 3 24 (.agg #[.int .i64 0, .int .u64 0, .int .i64 0]) (Sl.mk (some (Addr.mk b22 0 none)) 0 0) x28 h fun x29 h =>
 cell h (a31.add 2) = some (.slice x33.p x33.n x33.c) ∧
 cell h (a24.add 2) = some (.slice x26.p x26.n x26.c) ∧
 appW 137 3 24 (.agg #[.int .i64 0, .int .u64 0, .int .i64 0]) x29 x36 h fun x37 h =>
 cell h (a31.add 2) = some (.slice x33.p x33.n x33.c) ∧
 cell h (a24.add 2) = some (.slice x26.p x26.n x26.c) ∧
 pm p0 fun a38 =>
 st (a38.add 2) (.slice x37.p x37.n x37.c) h fun h =>
 pm p0 fun a41 =>
 ldI .i64 (a41.add 3) h fun x43 =>
 if (x43 == p1) = true then
 (pm p0 fun a47 =>
 st (a47.add 3) (.int .i64 (-1)) h fun h =>
 pm p0 fun a50 =>
 st (a50.add 4) (.int .i64 0) h fun h =>
 R x20 true h)
 else
 (
 R x20 true h))

def S_ref17_Cores_Remove (p0 : Option Addr) (p1 : Int) (h : Heap) (R : Int → Bool → Heap → Prop) : Prop :=
 C_ref17_Cores_Of p0 p1 h fun x9 h =>
 if (decide (x9 < 0)) = true then
 (
 R 0 false h)
 else
 (
 pm p0 fun a13 =>
 ldS (a13.add 0) h fun x15 =>
 pm x15.p fun a17 =>
 0 ≤ x9 ∧ x9 < ((x15.n : Nat) : Int) ∧
 ldP (a17.add (Int.toNat x9 * 1)) h fun x18 =>
 C_ref16_Queue_Remove x18 p1 h fun x20a x20b h =>
 R x20a x20b h)

def S_ref26_Machine_out (p0 : Option Addr) (p1 : Int) (h : Heap) (R : Heap → Prop) : Prop :=
 pm p0 fun a8 =>
 ldP (a8.add 6) h fun x10 =>
 C_ref17_Cores_Remove x10 p1 h fun x12a x12b h =>
 if x12b = true then
 (pm p0 fun a17 =>
 ldS (a17.add 12) h fun x19 =>
 pm x19.p fun a22 =>
 0 ≤ p1 ∧ p1 < ((x19.n : Nat) : Int) ∧
 st (a22.add (Int.toNat p1 * 1)) (.int .u64 x12a) h fun h =>
 R h)
 else
 (R h)

def S_ref26_Machine_die (p0 : Option Addr) (p1 : Int) (h : Heap) (R : Heap → Prop) : Prop :=
 jn (α := Unit) (fun K0 =>
 pm p0 fun a11 =>
 ldS (a11.add 11) h fun x13 =>
 pm x13.p fun a15 =>
 0 ≤ p1 ∧ p1 < ((x13.n : Nat) : Int) ∧
 ldI .i64 ((a15.add (Int.toNat p1 * 12)).add 6) h fun x17 =>
 if (x17 == 4) = true then
 (pm p0 fun a20 =>
 ldS (a20.add 11) h fun x22 =>
 pm x22.p fun a24 =>
 0 ≤ p1 ∧ p1 < ((x22.n : Nat) : Int) ∧
 ldI .i64 ((a24.add (Int.toNat p1 * 12)).add 8) h fun x26 =>
 pm p0 fun a29 =>
 ldS (a29.add 8) h fun x31 =>
 pm x31.p fun a33 =>
 0 ≤ x26 ∧ x26 < ((x31.n : Nat) : Int) ∧
 ldP (a33.add (Int.toNat x26 * 1)) h fun x34 =>
 C_ref20_Lock_Leave x34 p1 h fun x36a x36b h =>
 C_ref26_Machine_give p0 x26 x36a h fun h =>
 K0 (()) h)
 else
 (K0 (()) h)) fun j0 h =>
 pm p0 fun a44 =>
 ldP (a44.add 10) h fun x46 =>
 pm x46 fun a47 =>
 ldS (a47.add 0) h fun x49 =>
 pm x49.p fun a51 =>
 0 ≤ p1 ∧ p1 < ((x49.n : Nat) : Int) ∧
 st (a51.add (Int.toNat p1 * 1)) (.int .u64 0) h fun h =>
 Lp (τ := Int × Unit) (fun X6 s6 h => ∀ _ : Fr,
 pm p0 fun a54 =>
 ldS (a54.add 8) h fun x56 =>
 if (decide (s6.1 < ((x56.n : Nat) : Int))) = true then
 (
 pm p0 fun a62 =>
 ldS (a62.add 8) h fun x64 =>
 pm x64.p fun a66 =>
 0 ≤ s6.1 ∧ s6.1 < ((x64.n : Nat) : Int) ∧
 ldP (a66.add (Int.toNat s6.1 * 1)) h fun x67 =>
 C_ref20_Lock_Holds x67 p1 h fun x69 h =>
 if x69 = true then
 (C_ref26_Machine_tell p0 12 p1 s6.1 0 h fun h =>
 pm p0 fun a76 =>
 ldS (a76.add 8) h fun x78 =>
 pm x78.p fun a80 =>
 0 ≤ s6.1 ∧ s6.1 < ((x78.n : Nat) : Int) ∧
 ldP (a80.add (Int.toNat s6.1 * 1)) h fun x81 =>
 C_ref20_Lock_Die x81 p1 h fun x83a x83b h =>
 C_ref26_Machine_give p0 s6.1 x83a h fun h =>
 X6 ((IntKind.wrap .i64 (s6.1 + 1)), ()) h)
 else
 (
 X6 ((IntKind.wrap .i64 (s6.1 + 1)), ()) h))
 else
 (
 C_ref26_Machine_out p0 p1 h fun h =>
 pm p0 fun a94 =>
 ldS (a94.add 11) h fun x96 =>
 pm x96.p fun a98 =>
 0 ≤ p1 ∧ p1 < ((x96.n : Nat) : Int) ∧
 st ((a98.add (Int.toNat p1 * 12)).add 6) (.int .i64 5) h fun h =>
 pm p0 fun a101 =>
 ldS (a101.add 11) h fun x103 =>
 pm x103.p fun a105 =>
 0 ≤ p1 ∧ p1 < ((x103.n : Nat) : Int) ∧
 st ((a105.add (Int.toNat p1 * 12)).add 7) (.int .u64 0) h fun h =>
 pm p0 fun a108 =>
 ldS (a108.add 11) h fun x110 =>
 pm x110.p fun a112 =>
 0 ≤ p1 ∧ p1 < ((x110.n : Nat) : Int) ∧
 st ((a112.add (Int.toNat p1 * 12)).add 8) (.int .i64 (-1)) h fun h =>
 pm p0 fun a115 =>
 ldS (a115.add 11) h fun x117 =>
 pm x117.p fun a119 =>
 0 ≤ p1 ∧ p1 < ((x117.n : Nat) : Int) ∧
 st ((a119.add (Int.toNat p1 * 12)).add 5) (.int .i64 0) h fun h =>
 C_ref26_Machine_tell p0 11 p1 (-1) 0 h fun h =>
 R h)) ((0 : Int), ()) h

def S_ref18_Ledger_Is (p0 : Option Addr) (p1 : Int) (h : Heap) (R : Bool → Heap → Prop) : Prop :=
 if (decide (p1 ≥ 0)) = true then
 (pm p0 fun a10 =>
 ldS (a10.add 0) h fun x12 =>
 R (decide (p1 < ((x12.n : Nat) : Int))) h)
 else
 (
 R false h)

def S_ref18_Ledger_Charge (p0 : Option Addr) (p1 : Int) (h : Heap) (R : Bool → Heap → Prop) : Prop :=
 C_ref18_Ledger_Is p0 p1 h fun x7 h =>
 if (!x7) = true then
 (
 R false h)
 else
 (
 pm p0 fun a11 =>
 ldS (a11.add 0) h fun x13 =>
 pm p0 fun a16 =>
 ldS (a16.add 0) h fun x18 =>
 pm x18.p fun a20 =>
 0 ≤ p1 ∧ p1 < ((x18.n : Nat) : Int) ∧
 ldI .u64 ((a20.add (Int.toNat p1 * 4)).add 1) h fun x22 =>
 pm p0 fun a24 =>
 ldS (a24.add 0) h fun x26 =>
 pm x26.p fun a28 =>
 0 ≤ p1 ∧ p1 < ((x26.n : Nat) : Int) ∧
 ldI .i64 ((a28.add (Int.toNat p1 * 4)).add 0) h fun x30 =>
 C_ref15_Lock x30 h fun x31 h =>
 cell h (a24.add 0) = some (.slice x26.p x26.n x26.c) ∧
 cell h ((a20.add (Int.toNat p1 * 4)).add 1) = some (.int .u64 x22) ∧
 cell h (a16.add 0) = some (.slice x18.p x18.n x18.c) ∧
 cell h (a11.add 0) = some (.slice x13.p x13.n x13.c) ∧
 C_ref01_Add x22 x31 h fun x32a x32b h =>
 cell h ((a28.add (Int.toNat p1 * 4)).add 0) = some (.int .i64 x30) ∧
 cell h (a24.add 0) = some (.slice x26.p x26.n x26.c) ∧
 cell h (a16.add 0) = some (.slice x18.p x18.n x18.c) ∧
 cell h (a11.add 0) = some (.slice x13.p x13.n x13.c) ∧
 pm x13.p fun a35 =>
 0 ≤ p1 ∧ p1 < ((x13.n : Nat) : Int) ∧
 st ((a35.add (Int.toNat p1 * 4)).add 1) (.int .u64 x32a) h fun h =>
 pm p0 fun a38 =>
 ldS (a38.add 0) h fun x40 =>
 pm x40.p fun a42 =>
 0 ≤ p1 ∧ p1 < ((x40.n : Nat) : Int) ∧
 ldI .i64 ((a42.add (Int.toNat p1 * 4)).add 2) h fun x44 =>
 pm x40.p fun a46 =>
 0 ≤ p1 ∧ p1 < ((x40.n : Nat) : Int) ∧
 st ((a46.add (Int.toNat p1 * 4)).add 2) (.int .i64 (IntKind.wrap .i64 (x44 + 1))) h fun h =>
 R true h)

def S_ref19_Spend (p0_0 : Int) (p0_1 : Int) (h : Heap) (R : Int → Int → Heap → Prop) : Prop :=
 alc (.cells #[.int .i64 p0_0, .int .i64 p0_1] 58) h fun b1 h =>
 alc (.cells #[.int .i64 0, .int .i64 0] 58) h fun b2 h =>
 ldI .i64 ((Addr.mk b1 0 none).add 1) h fun x4 =>
 if (decide (x4 < 2147483648)) = true then
 (ldI .i64 ((Addr.mk b1 0 none).add 1) h fun x7 =>
 st ((Addr.mk b1 0 none).add 1) (.int .i64 (IntKind.wrap .i64 (x7 + 1))) h fun h =>
 ldI .i64 ((Addr.mk b1 0 none).add 0) h fun x10_0 =>
 ldI .i64 ((Addr.mk b1 0 none).add 1) h fun x10_1 =>
 stF [.int .i64 x10_0, .int .i64 x10_1] h (Addr.mk b2 0 none) 0 fun h =>
 ldI .i64 ((Addr.mk b2 0 none).add 0) h fun x9000_0 =>
 ldI .i64 ((Addr.mk b2 0 none).add 1) h fun x9000_1 =>
 R x9000_0 x9000_1 h)
 else
 (
 ldI .i64 ((Addr.mk b1 0 none).add 0) h fun x10_0 =>
 ldI .i64 ((Addr.mk b1 0 none).add 1) h fun x10_1 =>
 stF [.int .i64 x10_0, .int .i64 x10_1] h (Addr.mk b2 0 none) 0 fun h =>
 ldI .i64 ((Addr.mk b2 0 none).add 0) h fun x9000_0 =>
 ldI .i64 ((Addr.mk b2 0 none).add 1) h fun x9000_1 =>
 R x9000_0 x9000_1 h)

def S_ref20_Lock_Charge (p0 : Option Addr) (p1 : Int) (h : Heap) (R : Bool → Heap → Prop) : Prop :=
 pm p0 fun a7 =>
 ldS (a7.add 2) h fun x9 =>
 C_ref20_at x9 p1 h fun x11 h =>
 if (decide (x11 < 0)) = true then
 (
 R false h)
 else
 (
 pm p0 fun a15 =>
 ldP (a15.add 6) h fun x17 =>
 pm p0 fun a19 =>
 ldS (a19.add 2) h fun x21 =>
 pm x21.p fun a23 =>
 0 ≤ x11 ∧ x11 < ((x21.n : Nat) : Int) ∧
 ldI .i64 ((a23.add (Int.toNat x11 * 3)).add 1) h fun x25 =>
 C_ref18_Ledger_Charge x17 x25 h fun x26 h =>
 cell h (a19.add 2) = some (.slice x21.p x21.n x21.c) ∧
 pm p0 fun a29 =>
 ldI .i64 ((a29.add 4).add 0) h fun x31_0 =>
 ldI .i64 ((a29.add 4).add 1) h fun x31_1 =>
 C_ref19_Spend x31_0 x31_1 h fun x32_0 x32_1 h =>
 pm p0 fun a33 =>
 stF [.int .i64 x32_0, .int .i64 x32_1] h (a33.add 4) 0 fun h =>
 C_ref20_Lock_Settle p0 h fun h =>
 R true h)

def S_ref26_Machine_compute (p0 : Option Addr) (p1 : Int) (p2_0 : Int) (p2_1 : Int) (p2_2 : Int) (h : Heap) (R : Heap → Prop) : Prop :=
 alc (.cells #[.int .i64 p2_0, .int .i64 p2_1, .int .i64 p2_2] 168) h fun b5 h =>
 jn (α := Unit) (fun K1 =>
 pm p0 fun a8 =>
 ldS (a8.add 11) h fun x10 =>
 pm x10.p fun a12 =>
 0 ≤ p1 ∧ p1 < ((x10.n : Nat) : Int) ∧
 ldI .i64 ((a12.add (Int.toNat p1 * 12)).add 5) h fun x14 =>
 if (x14 == 0) = true then
 (pm p0 fun a17 =>
 ldS (a17.add 11) h fun x19 =>
 ldI .i64 ((Addr.mk b5 0 none).add 1) h fun x22 =>
 pm x19.p fun a23 =>
 0 ≤ p1 ∧ p1 < ((x19.n : Nat) : Int) ∧
 st ((a23.add (Int.toNat p1 * 12)).add 5) (.int .i64 x22) h fun h =>
 K1 (()) h)
 else
 (K1 (()) h)) fun j1 h =>
 pm p0 fun a26 =>
 ldS (a26.add 11) h fun x28 =>
 pm x28.p fun a30 =>
 0 ≤ p1 ∧ p1 < ((x28.n : Nat) : Int) ∧
 ldI .i64 ((a30.add (Int.toNat p1 * 12)).add 5) h fun x32 =>
 pm x28.p fun a34 =>
 0 ≤ p1 ∧ p1 < ((x28.n : Nat) : Int) ∧
 st ((a34.add (Int.toNat p1 * 12)).add 5) (.int .i64 (IntKind.wrap .i64 (x32 - 1))) h fun h =>
 Lp (τ := Int × Unit) (fun X5 s5 h => ∀ _ : Fr,
 pm p0 fun a38 =>
 ldS (a38.add 8) h fun x40 =>
 if (decide (s5.1 < ((x40.n : Nat) : Int))) = true then
 (
 pm p0 fun a46 =>
 ldS (a46.add 8) h fun x48 =>
 pm x48.p fun a50 =>
 0 ≤ s5.1 ∧ s5.1 < ((x48.n : Nat) : Int) ∧
 ldP (a50.add (Int.toNat s5.1 * 1)) h fun x51 =>
 C_ref20_Lock_Holds x51 p1 h fun x53 h =>
 if x53 = true then
 (pm p0 fun a55 =>
 ldS (a55.add 8) h fun x57 =>
 pm x57.p fun a59 =>
 0 ≤ s5.1 ∧ s5.1 < ((x57.n : Nat) : Int) ∧
 ldP (a59.add (Int.toNat s5.1 * 1)) h fun x60 =>
 C_ref20_Lock_Charge x60 p1 h fun x62 h =>
 X5 ((IntKind.wrap .i64 (s5.1 + 1)), ()) h)
 else
 (
 X5 ((IntKind.wrap .i64 (s5.1 + 1)), ()) h))
 else
 (
 pm p0 fun a64 =>
 ldS (a64.add 11) h fun x66 =>
 pm x66.p fun a68 =>
 0 ≤ p1 ∧ p1 < ((x66.n : Nat) : Int) ∧
 ldI .i64 ((a68.add (Int.toNat p1 * 12)).add 5) h fun x70 =>
 if (x70 == 0) = true then
 (pm p0 fun a73 =>
 ldS (a73.add 11) h fun x75 =>
 pm x75.p fun a77 =>
 0 ≤ p1 ∧ p1 < ((x75.n : Nat) : Int) ∧
 ldI .i64 ((a77.add (Int.toNat p1 * 12)).add 4) h fun x79 =>
 pm x75.p fun a81 =>
 0 ≤ p1 ∧ p1 < ((x75.n : Nat) : Int) ∧
 st ((a81.add (Int.toNat p1 * 12)).add 4) (.int .i64 (IntKind.wrap .i64 (x79 + 1))) h fun h =>
 R h)
 else
 (R h))) ((0 : Int), ()) h

def S_ref20_Lock_Party (p0 : Option Addr) (p1 : Int) (p2 : Bool) (h : Heap) (R : Int → Heap → Prop) : Prop :=
 pm p0 fun a8 =>
 ldB (a8.add 0) h fun x10 =>
 if x10 = true then
 (
 if p2 = true then
 (
 R 0 h)
 else
 (
 R 1 h))
 else
 (
 if p2 = true then
 (
 R (-1) h)
 else
 (pm p0 fun a15 =>
 ldP (a15.add 6) h fun x17 =>
 C_ref18_Ledger_Is x17 p1 h fun x19 h =>
 if (!x19) = true then
 (
 R (-1) h)
 else
 (
 R p1 h)))

def S_ref20_Lock_may (p0 : Option Addr) (p1 : Int) (p2 : Int) (h : Heap) (R : Int → Heap → Prop) : Prop :=
 if (decide (p1 < 0)) = true then
 (
 R 1 h)
 else
 (pm p0 fun a11 =>
 ldP (a11.add 6) h fun x13 =>
 C_ref18_Ledger_Is x13 p2 h fun x15 h =>
 if (!x15) = true then
 (
 R 1 h)
 else
 (
 C_ref20_Lock_Holds p0 p1 h fun x20 h =>
 if x20 = true then
 (
 R 9 h)
 else
 (
 C_ref20_Lock_Waits p0 p1 h fun x23 h =>
 if x23 = true then
 (
 R 12 h)
 else
 (
 R 0 h))))

def S_ref20_Lock_Free (p0 : Option Addr) (p1 : Int) (h : Heap) (R : Bool → Heap → Prop) : Prop :=
 pm p0 fun a6 =>
 ldP (a6.add 6) h fun x8 =>
 C_ref18_Ledger_Is x8 p1 h fun x10 h =>
 if (!x10) = true then
 (
 R false h)
 else
 (
 pm p0 fun a13 =>
 ldS (a13.add 2) h fun x15 =>
 if (((x15.n : Nat) : Int) == 0) = true then
 (
 R true h)
 else
 (
 pm p0 fun a19 =>
 ldB (a19.add 0) h fun x21 =>
 if x21 = true then
 (if (p1 == 0) = true then
 (pm p0 fun a28 =>
 ldS (a28.add 2) h fun x30 =>
 C_ref20_has x30 1 h fun x31 h =>
 cell h (a19.add 0) = some (.bool x21) ∧
 if (!x31) = true then
 (pm p0 fun a36 =>
 ldS (a36.add 3) h fun x38 =>
 C_ref20_has x38 1 h fun x39 h =>
 cell h (a28.add 2) = some (.slice x30.p x30.n x30.c) ∧
 cell h (a19.add 0) = some (.bool x21) ∧
 if (!x39) = true then
 (
 R true h)
 else
 (pm p0 fun a43 =>
 ldI .i64 ((a43.add 4).add 0) h fun x45_0 =>
 ldI .i64 ((a43.add 4).add 1) h fun x45_1 =>
 pm p0 fun a47 =>
 ldI .i64 (a47.add 1) h fun x49 =>
 C_ref19_May x45_0 x45_1 x49 0 h fun x50 h =>
 cell h (a36.add 3) = some (.slice x38.p x38.n x38.c) ∧
 cell h (a28.add 2) = some (.slice x30.p x30.n x30.c) ∧
 cell h (a19.add 0) = some (.bool x21) ∧
 R x50 h))
 else
 (
 R false h))
 else
 (
 R false h))
 else
 (
 R false h)))

end Go.Proofs.YtbkjeahmbnkmeaaGreat
