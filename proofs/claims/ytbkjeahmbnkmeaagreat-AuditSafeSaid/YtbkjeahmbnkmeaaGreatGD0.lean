/- Printed by shallow.py (mine): the functions' WP formulas, and that the code computes them. -/
import Derived.Test.YtbkjeahmbnkmeaaGreatGC
set_option linter.unusedVariables false
set_option maxRecDepth 100000
namespace Go.Proofs.YtbkjeahmbnkmeaaGreat
open Go Ev

def S_audit_holdEnd (p0_0 : Int) (p0_1 : Int) (p0_2 : Int) (p0_3 : Int) (p0_4 : Int) (p0_5 : Bool) (p1_0 : Int) (p1_1 : Int) (p1_2 : Int) (p1_3 : Int) (p1_4 : Int) (h : Heap) (R : Int → Heap → Prop) : Prop :=
 alc (.cells #[.int .i64 p0_0, .int .i64 p0_1, .int .u64 p0_2, .int .u64 p0_3, .int .i64 p0_4, .bool p0_5] 53) h fun b2 h =>
 alc (.cells #[.int .u64 p1_0, .int .i64 p1_1, .int .i64 p1_2, .int .i64 p1_3, .int .i64 p1_4] 72) h fun b3 h =>
 ldI .i64 ((Addr.mk b3 0 none).add 3) h fun x7 =>
 ldI .i64 ((Addr.mk b2 0 none).add 1) h fun x9 =>
 if (x7 != x9) = true then
 (
 R 0 h)
 else
 (ldI .i64 ((Addr.mk b3 0 none).add 1) h fun x13 =>
 if (x13 == 5) = true then
 (
 R 1 h)
 else
 (ldI .i64 ((Addr.mk b3 0 none).add 1) h fun x17 =>
 if (x17 == 12) = true then
 (
 R 3 h)
 else
 (
 R 0 h)))

def S_audit_stays_at_audit_holdEnd (p0 : Sl) (p1 : Int) (h : Heap) (R : Sl → Heap → Prop) : Prop :=
 alc (.map #[] 0) h fun b15 h =>
 Lp (τ := Sl × Int × Unit) (fun X4 s4 h => ∀ _ : Fr,
 if (decide (s4.2.1 < ((p0.n : Nat) : Int))) = true then
 (
 pm p0.p fun a20 =>
 0 ≤ s4.2.1 ∧ s4.2.1 < ((p0.n : Nat) : Int) ∧
 ldI .u64 ((a20.add (Int.toNat s4.2.1 * 5)).add 0) h fun x21_0 =>
 ldI .i64 ((a20.add (Int.toNat s4.2.1 * 5)).add 1) h fun x21_1 =>
 ldI .i64 ((a20.add (Int.toNat s4.2.1 * 5)).add 2) h fun x21_2 =>
 ldI .i64 ((a20.add (Int.toNat s4.2.1 * 5)).add 3) h fun x21_3 =>
 ldI .i64 ((a20.add (Int.toNat s4.2.1 * 5)).add 4) h fun x21_4 =>
 alc (.cells #[.int .u64 0, .int .i64 0, .int .i64 0, .int .i64 0, .int .i64 0] 72) h fun b10 h =>
 stF [.int .u64 x21_0, .int .i64 x21_1, .int .i64 x21_2, .int .i64 x21_3, .int .i64 x21_4] h (Addr.mk b10 0 none) 0 fun h =>
 ldI .i64 ((Addr.mk b10 0 none).add 2) h fun x24 =>
 lookW .i64 (some b15) x24 (.slice none 0 0) h fun v => CT.dec .slice v fun (x25 : Sl) =>
 Lp (τ := Sl × Int × Unit) (fun X8 s8 h => ∀ _ : Fr,
 if (decide (s8.2.1 < ((x25.n : Nat) : Int))) = true then
 (
 pm x25.p fun a29 =>
 0 ≤ s8.2.1 ∧ s8.2.1 < ((x25.n : Nat) : Int) ∧
 ldI .i64 (a29.add (Int.toNat s8.2.1 * 1)) h fun x30 =>
 pm s4.1.p fun a34 =>
 0 ≤ x30 ∧ x30 < ((s4.1.n : Nat) : Int) ∧
 ldI .i64 ((a34.add (Int.toNat x30 * 6)).add 0) h fun x35_0 =>
 ldI .i64 ((a34.add (Int.toNat x30 * 6)).add 1) h fun x35_1 =>
 ldI .u64 ((a34.add (Int.toNat x30 * 6)).add 2) h fun x35_2 =>
 ldI .u64 ((a34.add (Int.toNat x30 * 6)).add 3) h fun x35_3 =>
 ldI .i64 ((a34.add (Int.toNat x30 * 6)).add 4) h fun x35_4 =>
 ldB ((a34.add (Int.toNat x30 * 6)).add 5) h fun x35_5 =>
 ldI .u64 ((Addr.mk b10 0 none).add 0) h fun x36_0 =>
 ldI .i64 ((Addr.mk b10 0 none).add 1) h fun x36_1 =>
 ldI .i64 ((Addr.mk b10 0 none).add 2) h fun x36_2 =>
 ldI .i64 ((Addr.mk b10 0 none).add 3) h fun x36_3 =>
 ldI .i64 ((Addr.mk b10 0 none).add 4) h fun x36_4 =>
 C_audit_holdEnd x35_0 x35_1 x35_2 x35_3 x35_4 x35_5 x36_0 x36_1 x36_2 x36_3 x36_4 h fun x37 h =>
 if (x37 != 0) = true then
 (ldI .u64 ((Addr.mk b10 0 none).add 0) h fun x46 =>
 pm s4.1.p fun a47 =>
 0 ≤ x30 ∧ x30 < ((s4.1.n : Nat) : Int) ∧
 st ((a47.add (Int.toNat x30 * 6)).add 4) (.int .i64 x37) h fun h =>
 cell h ((Addr.mk b10 0 none).add 0) = some (.int .u64 x46) ∧
 pm s4.1.p fun a49 =>
 0 ≤ x30 ∧ x30 < ((s4.1.n : Nat) : Int) ∧
 st ((a49.add (Int.toNat x30 * 6)).add 3) (.int .u64 x46) h fun h =>
 X8 (s8.1, (IntKind.wrap .i64 (s8.2.1 + 1)), ()) h)
 else
 (alc (.cells #[.int .i64 x30] 3) h fun b53 h =>
 appW 3 1 8 (.int .i64 0) s8.1 (Sl.mk (some (Addr.mk b53 0 none)) 1 1) h fun x54 h =>
 X8 (x54, (IntKind.wrap .i64 (s8.2.1 + 1)), ()) h))
 else
 (
 ldI .i64 ((Addr.mk b10 0 none).add 1) h fun x57 =>
 if (x57 == p1) = true then
 (alc (.cells #[.int .i64 ((s4.1.n : Nat) : Int)] 3) h fun b63 h =>
 appW 3 1 8 (.int .i64 0) s8.1 (Sl.mk (some (Addr.mk b63 0 none)) 1 1) h fun x64 h =>
 ldI .i64 ((Addr.mk b10 0 none).add 2) h fun x67 =>
 ldI .i64 ((Addr.mk b10 0 none).add 3) h fun x69 =>
 ldI .u64 ((Addr.mk b10 0 none).add 0) h fun x71 =>
 if (p1 == 4) = true then
 (ldI .i64 ((Addr.mk b10 0 none).add 4) h fun x76 =>
 if (x76 == 2) = true then
 (alc (.cells #[.int .i64 x67, .int .i64 x69, .int .u64 x71, .int .u64 0, .int .i64 0, .bool true] 53) h fun b85 h =>
 appW 53 6 48 (.agg #[.int .i64 0, .int .i64 0, .int .u64 0, .int .u64 0, .int .i64 0, .bool false]) s4.1 (Sl.mk (some (Addr.mk b85 0 none)) 1 1) h fun x86 h =>
 ldI .i64 ((Addr.mk b10 0 none).add 2) h fun x89 =>
 mupW .i64 (some b15) x89 (.slice x64.p x64.n x64.c) h fun h =>
 X4 (x86, (IntKind.wrap .i64 (s4.2.1 + 1)), ()) h)
 else
 (ldI .i64 ((Addr.mk b10 0 none).add 4) h fun x80 =>
 alc (.cells #[.int .i64 x67, .int .i64 x69, .int .u64 x71, .int .u64 0, .int .i64 0, .bool (x80 == 3)] 53) h fun b85 h =>
 appW 53 6 48 (.agg #[.int .i64 0, .int .i64 0, .int .u64 0, .int .u64 0, .int .i64 0, .bool false]) s4.1 (Sl.mk (some (Addr.mk b85 0 none)) 1 1) h fun x86 h =>
 ldI .i64 ((Addr.mk b10 0 none).add 2) h fun x89 =>
 mupW .i64 (some b15) x89 (.slice x64.p x64.n x64.c) h fun h =>
 X4 (x86, (IntKind.wrap .i64 (s4.2.1 + 1)), ()) h))
 else
 (alc (.cells #[.int .i64 x67, .int .i64 x69, .int .u64 x71, .int .u64 0, .int .i64 0, .bool false] 53) h fun b85 h =>
 appW 53 6 48 (.agg #[.int .i64 0, .int .i64 0, .int .u64 0, .int .u64 0, .int .i64 0, .bool false]) s4.1 (Sl.mk (some (Addr.mk b85 0 none)) 1 1) h fun x86 h =>
 ldI .i64 ((Addr.mk b10 0 none).add 2) h fun x89 =>
 mupW .i64 (some b15) x89 (.slice x64.p x64.n x64.c) h fun h =>
 X4 (x86, (IntKind.wrap .i64 (s4.2.1 + 1)), ()) h))
 else
 (
 ldI .i64 ((Addr.mk b10 0 none).add 2) h fun x89 =>
 mupW .i64 (some b15) x89 (.slice s8.1.p s8.1.n s8.1.c) h fun h =>
 X4 (s4.1, (IntKind.wrap .i64 (s4.2.1 + 1)), ()) h))) (((Sl.mk none 0 0) : Sl), (0 : Int), ()) h)
 else
 (
 R s4.1 h)) (((Sl.mk none 0 0) : Sl), (0 : Int), ()) h

def S_audit_Holds (p0 : Sl) (h : Heap) (R : Sl → Heap → Prop) : Prop :=
 C_audit_stays_at_audit_holdEnd p0 4 h fun x4 h =>
 R x4 h

def S_audit_waitEnd (p0_0 : Int) (p0_1 : Int) (p0_2 : Int) (p0_3 : Int) (p0_4 : Int) (p0_5 : Bool) (p1_0 : Int) (p1_1 : Int) (p1_2 : Int) (p1_3 : Int) (p1_4 : Int) (h : Heap) (R : Int → Heap → Prop) : Prop :=
 alc (.cells #[.int .i64 p0_0, .int .i64 p0_1, .int .u64 p0_2, .int .u64 p0_3, .int .i64 p0_4, .bool p0_5] 53) h fun b2 h =>
 alc (.cells #[.int .u64 p1_0, .int .i64 p1_1, .int .i64 p1_2, .int .i64 p1_3, .int .i64 p1_4] 72) h fun b3 h =>
 ldI .i64 ((Addr.mk b3 0 none).add 1) h fun x7 =>
 if (x7 == 11) = true then
 (
 R 3 h)
 else
 (ldI .i64 ((Addr.mk b3 0 none).add 3) h fun x11 =>
 ldI .i64 ((Addr.mk b2 0 none).add 1) h fun x13 =>
 if (x11 != x13) = true then
 (
 R 0 h)
 else
 (ldI .i64 ((Addr.mk b3 0 none).add 1) h fun x17 =>
 if (x17 == 4) = true then
 (
 R 1 h)
 else
 (ldI .i64 ((Addr.mk b3 0 none).add 1) h fun x21 =>
 if (x21 == 8) = true then
 (
 R 2 h)
 else
 (
 R 0 h))))

def S_audit_stays_at_audit_waitEnd (p0 : Sl) (p1 : Int) (h : Heap) (R : Sl → Heap → Prop) : Prop :=
 alc (.map #[] 0) h fun b15 h =>
 Lp (τ := Sl × Int × Unit) (fun X4 s4 h => ∀ _ : Fr,
 if (decide (s4.2.1 < ((p0.n : Nat) : Int))) = true then
 (
 pm p0.p fun a20 =>
 0 ≤ s4.2.1 ∧ s4.2.1 < ((p0.n : Nat) : Int) ∧
 ldI .u64 ((a20.add (Int.toNat s4.2.1 * 5)).add 0) h fun x21_0 =>
 ldI .i64 ((a20.add (Int.toNat s4.2.1 * 5)).add 1) h fun x21_1 =>
 ldI .i64 ((a20.add (Int.toNat s4.2.1 * 5)).add 2) h fun x21_2 =>
 ldI .i64 ((a20.add (Int.toNat s4.2.1 * 5)).add 3) h fun x21_3 =>
 ldI .i64 ((a20.add (Int.toNat s4.2.1 * 5)).add 4) h fun x21_4 =>
 alc (.cells #[.int .u64 0, .int .i64 0, .int .i64 0, .int .i64 0, .int .i64 0] 72) h fun b10 h =>
 stF [.int .u64 x21_0, .int .i64 x21_1, .int .i64 x21_2, .int .i64 x21_3, .int .i64 x21_4] h (Addr.mk b10 0 none) 0 fun h =>
 ldI .i64 ((Addr.mk b10 0 none).add 2) h fun x24 =>
 lookW .i64 (some b15) x24 (.slice none 0 0) h fun v => CT.dec .slice v fun (x25 : Sl) =>
 Lp (τ := Sl × Int × Unit) (fun X8 s8 h => ∀ _ : Fr,
 if (decide (s8.2.1 < ((x25.n : Nat) : Int))) = true then
 (
 pm x25.p fun a29 =>
 0 ≤ s8.2.1 ∧ s8.2.1 < ((x25.n : Nat) : Int) ∧
 ldI .i64 (a29.add (Int.toNat s8.2.1 * 1)) h fun x30 =>
 pm s4.1.p fun a34 =>
 0 ≤ x30 ∧ x30 < ((s4.1.n : Nat) : Int) ∧
 ldI .i64 ((a34.add (Int.toNat x30 * 6)).add 0) h fun x35_0 =>
 ldI .i64 ((a34.add (Int.toNat x30 * 6)).add 1) h fun x35_1 =>
 ldI .u64 ((a34.add (Int.toNat x30 * 6)).add 2) h fun x35_2 =>
 ldI .u64 ((a34.add (Int.toNat x30 * 6)).add 3) h fun x35_3 =>
 ldI .i64 ((a34.add (Int.toNat x30 * 6)).add 4) h fun x35_4 =>
 ldB ((a34.add (Int.toNat x30 * 6)).add 5) h fun x35_5 =>
 ldI .u64 ((Addr.mk b10 0 none).add 0) h fun x36_0 =>
 ldI .i64 ((Addr.mk b10 0 none).add 1) h fun x36_1 =>
 ldI .i64 ((Addr.mk b10 0 none).add 2) h fun x36_2 =>
 ldI .i64 ((Addr.mk b10 0 none).add 3) h fun x36_3 =>
 ldI .i64 ((Addr.mk b10 0 none).add 4) h fun x36_4 =>
 C_audit_waitEnd x35_0 x35_1 x35_2 x35_3 x35_4 x35_5 x36_0 x36_1 x36_2 x36_3 x36_4 h fun x37 h =>
 if (x37 != 0) = true then
 (ldI .u64 ((Addr.mk b10 0 none).add 0) h fun x46 =>
 pm s4.1.p fun a47 =>
 0 ≤ x30 ∧ x30 < ((s4.1.n : Nat) : Int) ∧
 st ((a47.add (Int.toNat x30 * 6)).add 4) (.int .i64 x37) h fun h =>
 cell h ((Addr.mk b10 0 none).add 0) = some (.int .u64 x46) ∧
 pm s4.1.p fun a49 =>
 0 ≤ x30 ∧ x30 < ((s4.1.n : Nat) : Int) ∧
 st ((a49.add (Int.toNat x30 * 6)).add 3) (.int .u64 x46) h fun h =>
 X8 (s8.1, (IntKind.wrap .i64 (s8.2.1 + 1)), ()) h)
 else
 (alc (.cells #[.int .i64 x30] 3) h fun b53 h =>
 appW 3 1 8 (.int .i64 0) s8.1 (Sl.mk (some (Addr.mk b53 0 none)) 1 1) h fun x54 h =>
 X8 (x54, (IntKind.wrap .i64 (s8.2.1 + 1)), ()) h))
 else
 (
 ldI .i64 ((Addr.mk b10 0 none).add 1) h fun x57 =>
 if (x57 == p1) = true then
 (alc (.cells #[.int .i64 ((s4.1.n : Nat) : Int)] 3) h fun b63 h =>
 appW 3 1 8 (.int .i64 0) s8.1 (Sl.mk (some (Addr.mk b63 0 none)) 1 1) h fun x64 h =>
 ldI .i64 ((Addr.mk b10 0 none).add 2) h fun x67 =>
 ldI .i64 ((Addr.mk b10 0 none).add 3) h fun x69 =>
 ldI .u64 ((Addr.mk b10 0 none).add 0) h fun x71 =>
 if (p1 == 4) = true then
 (ldI .i64 ((Addr.mk b10 0 none).add 4) h fun x76 =>
 if (x76 == 2) = true then
 (alc (.cells #[.int .i64 x67, .int .i64 x69, .int .u64 x71, .int .u64 0, .int .i64 0, .bool true] 53) h fun b85 h =>
 appW 53 6 48 (.agg #[.int .i64 0, .int .i64 0, .int .u64 0, .int .u64 0, .int .i64 0, .bool false]) s4.1 (Sl.mk (some (Addr.mk b85 0 none)) 1 1) h fun x86 h =>
 ldI .i64 ((Addr.mk b10 0 none).add 2) h fun x89 =>
 mupW .i64 (some b15) x89 (.slice x64.p x64.n x64.c) h fun h =>
 X4 (x86, (IntKind.wrap .i64 (s4.2.1 + 1)), ()) h)
 else
 (ldI .i64 ((Addr.mk b10 0 none).add 4) h fun x80 =>
 alc (.cells #[.int .i64 x67, .int .i64 x69, .int .u64 x71, .int .u64 0, .int .i64 0, .bool (x80 == 3)] 53) h fun b85 h =>
 appW 53 6 48 (.agg #[.int .i64 0, .int .i64 0, .int .u64 0, .int .u64 0, .int .i64 0, .bool false]) s4.1 (Sl.mk (some (Addr.mk b85 0 none)) 1 1) h fun x86 h =>
 ldI .i64 ((Addr.mk b10 0 none).add 2) h fun x89 =>
 mupW .i64 (some b15) x89 (.slice x64.p x64.n x64.c) h fun h =>
 X4 (x86, (IntKind.wrap .i64 (s4.2.1 + 1)), ()) h))
 else
 (alc (.cells #[.int .i64 x67, .int .i64 x69, .int .u64 x71, .int .u64 0, .int .i64 0, .bool false] 53) h fun b85 h =>
 appW 53 6 48 (.agg #[.int .i64 0, .int .i64 0, .int .u64 0, .int .u64 0, .int .i64 0, .bool false]) s4.1 (Sl.mk (some (Addr.mk b85 0 none)) 1 1) h fun x86 h =>
 ldI .i64 ((Addr.mk b10 0 none).add 2) h fun x89 =>
 mupW .i64 (some b15) x89 (.slice x64.p x64.n x64.c) h fun h =>
 X4 (x86, (IntKind.wrap .i64 (s4.2.1 + 1)), ()) h))
 else
 (
 ldI .i64 ((Addr.mk b10 0 none).add 2) h fun x89 =>
 mupW .i64 (some b15) x89 (.slice s8.1.p s8.1.n s8.1.c) h fun h =>
 X4 (s4.1, (IntKind.wrap .i64 (s4.2.1 + 1)), ()) h))) (((Sl.mk none 0 0) : Sl), (0 : Int), ()) h)
 else
 (
 R s4.1 h)) (((Sl.mk none 0 0) : Sl), (0 : Int), ()) h

def S_audit_Waits (p0 : Sl) (h : Heap) (R : Sl → Heap → Prop) : Prop :=
 C_audit_stays_at_audit_waitEnd p0 6 h fun x4 h =>
 R x4 h

def S_audit_meets (p0_0 : Int) (p0_1 : Int) (p0_2 : Int) (p0_3 : Int) (p0_4 : Int) (p0_5 : Bool) (p1_0 : Int) (p1_1 : Int) (p1_2 : Int) (p1_3 : Int) (p1_4 : Int) (p1_5 : Bool) (h : Heap) (R : Bool → Heap → Prop) : Prop :=
 alc (.cells #[.int .i64 p0_0, .int .i64 p0_1, .int .u64 p0_2, .int .u64 p0_3, .int .i64 p0_4, .bool p0_5] 53) h fun b2 h =>
 alc (.cells #[.int .i64 p1_0, .int .i64 p1_1, .int .u64 p1_2, .int .u64 p1_3, .int .i64 p1_4, .bool p1_5] 53) h fun b3 h =>
 ldI .i64 ((Addr.mk b3 0 none).add 4) h fun x6 =>
 if (x6 == 0) = true then
 (
 R true h)
 else
 (ldI .u64 ((Addr.mk b2 0 none).add 2) h fun x10 =>
 ldI .u64 ((Addr.mk b3 0 none).add 3) h fun x12 =>
 R (decide (x10 < x12)) h)

def S_audit_Beside (p0 : Sl) (h : Heap) (R : Int → Int → Bool → Heap → Prop) : Prop :=
 Lp (τ := Int × Unit) (fun X2 s2 h => ∀ _ : Fr,
 if (decide (s2.1 < ((p0.n : Nat) : Int))) = true then
 (
 pm p0.p fun a14 =>
 0 ≤ s2.1 ∧ s2.1 < ((p0.n : Nat) : Int) ∧
 ldI .i64 ((a14.add (Int.toNat s2.1 * 6)).add 0) h fun x15_0 =>
 ldI .i64 ((a14.add (Int.toNat s2.1 * 6)).add 1) h fun x15_1 =>
 ldI .u64 ((a14.add (Int.toNat s2.1 * 6)).add 2) h fun x15_2 =>
 ldI .u64 ((a14.add (Int.toNat s2.1 * 6)).add 3) h fun x15_3 =>
 ldI .i64 ((a14.add (Int.toNat s2.1 * 6)).add 4) h fun x15_4 =>
 ldB ((a14.add (Int.toNat s2.1 * 6)).add 5) h fun x15_5 =>
 alc (.cells #[.int .i64 0, .int .i64 0, .int .u64 0, .int .u64 0, .int .i64 0, .bool false] 53) h fun b6 h =>
 stF [.int .i64 x15_0, .int .i64 x15_1, .int .u64 x15_2, .int .u64 x15_3, .int .i64 x15_4, .bool x15_5] h (Addr.mk b6 0 none) 0 fun h =>
 slc 6 p0.p p0.c (0 : Int) s2.1 fun x18 =>
 Lp (τ := Int × Unit) (fun X5 s5 h => ∀ _ : Fr,
 if (decide (s5.1 < ((x18.n : Nat) : Int))) = true then
 (
 pm x18.p fun a23 =>
 0 ≤ s5.1 ∧ s5.1 < ((x18.n : Nat) : Int) ∧
 ldI .i64 ((a23.add (Int.toNat s5.1 * 6)).add 0) h fun x24_0 =>
 ldI .i64 ((a23.add (Int.toNat s5.1 * 6)).add 1) h fun x24_1 =>
 ldI .u64 ((a23.add (Int.toNat s5.1 * 6)).add 2) h fun x24_2 =>
 ldI .u64 ((a23.add (Int.toNat s5.1 * 6)).add 3) h fun x24_3 =>
 ldI .i64 ((a23.add (Int.toNat s5.1 * 6)).add 4) h fun x24_4 =>
 ldB ((a23.add (Int.toNat s5.1 * 6)).add 5) h fun x24_5 =>
 alc (.cells #[.int .i64 0, .int .i64 0, .int .u64 0, .int .u64 0, .int .i64 0, .bool false] 53) h fun b8 h =>
 stF [.int .i64 x24_0, .int .i64 x24_1, .int .u64 x24_2, .int .u64 x24_3, .int .i64 x24_4, .bool x24_5] h (Addr.mk b8 0 none) 0 fun h =>
 ldI .i64 ((Addr.mk b8 0 none).add 1) h fun x26 =>
 ldI .i64 ((Addr.mk b6 0 none).add 1) h fun x28 =>
 if (x26 == x28) = true then
 (ldI .i64 ((Addr.mk b8 0 none).add 0) h fun x32 =>
 ldI .i64 ((Addr.mk b6 0 none).add 0) h fun x34 =>
 if (x32 != x34) = true then
 (ldB ((Addr.mk b8 0 none).add 5) h fun x39 =>
 if x39 = true then
 (ldB ((Addr.mk b6 0 none).add 5) h fun x42 =>
 if (!x42) = true then
 (ldI .i64 ((Addr.mk b8 0 none).add 0) h fun x47_0 =>
 ldI .i64 ((Addr.mk b8 0 none).add 1) h fun x47_1 =>
 ldI .u64 ((Addr.mk b8 0 none).add 2) h fun x47_2 =>
 ldI .u64 ((Addr.mk b8 0 none).add 3) h fun x47_3 =>
 ldI .i64 ((Addr.mk b8 0 none).add 4) h fun x47_4 =>
 ldB ((Addr.mk b8 0 none).add 5) h fun x47_5 =>
 ldI .i64 ((Addr.mk b6 0 none).add 0) h fun x48_0 =>
 ldI .i64 ((Addr.mk b6 0 none).add 1) h fun x48_1 =>
 ldI .u64 ((Addr.mk b6 0 none).add 2) h fun x48_2 =>
 ldI .u64 ((Addr.mk b6 0 none).add 3) h fun x48_3 =>
 ldI .i64 ((Addr.mk b6 0 none).add 4) h fun x48_4 =>
 ldB ((Addr.mk b6 0 none).add 5) h fun x48_5 =>
 C_audit_meets x47_0 x47_1 x47_2 x47_3 x47_4 x47_5 x48_0 x48_1 x48_2 x48_3 x48_4 x48_5 h fun x49 h =>
 if x49 = true then
 (ldI .i64 ((Addr.mk b6 0 none).add 0) h fun x52_0 =>
 ldI .i64 ((Addr.mk b6 0 none).add 1) h fun x52_1 =>
 ldI .u64 ((Addr.mk b6 0 none).add 2) h fun x52_2 =>
 ldI .u64 ((Addr.mk b6 0 none).add 3) h fun x52_3 =>
 ldI .i64 ((Addr.mk b6 0 none).add 4) h fun x52_4 =>
 ldB ((Addr.mk b6 0 none).add 5) h fun x52_5 =>
 ldI .i64 ((Addr.mk b8 0 none).add 0) h fun x53_0 =>
 ldI .i64 ((Addr.mk b8 0 none).add 1) h fun x53_1 =>
 ldI .u64 ((Addr.mk b8 0 none).add 2) h fun x53_2 =>
 ldI .u64 ((Addr.mk b8 0 none).add 3) h fun x53_3 =>
 ldI .i64 ((Addr.mk b8 0 none).add 4) h fun x53_4 =>
 ldB ((Addr.mk b8 0 none).add 5) h fun x53_5 =>
 C_audit_meets x52_0 x52_1 x52_2 x52_3 x52_4 x52_5 x53_0 x53_1 x53_2 x53_3 x53_4 x53_5 h fun x54 h =>
 if x54 = true then
 (
 R s5.1 s2.1 true h)
 else
 (
 X5 ((IntKind.wrap .i64 (s5.1 + 1)), ()) h))
 else
 (
 X5 ((IntKind.wrap .i64 (s5.1 + 1)), ()) h))
 else
 (
 X5 ((IntKind.wrap .i64 (s5.1 + 1)), ()) h))
 else
 (ldI .i64 ((Addr.mk b8 0 none).add 0) h fun x47_0 =>
 ldI .i64 ((Addr.mk b8 0 none).add 1) h fun x47_1 =>
 ldI .u64 ((Addr.mk b8 0 none).add 2) h fun x47_2 =>
 ldI .u64 ((Addr.mk b8 0 none).add 3) h fun x47_3 =>
 ldI .i64 ((Addr.mk b8 0 none).add 4) h fun x47_4 =>
 ldB ((Addr.mk b8 0 none).add 5) h fun x47_5 =>
 ldI .i64 ((Addr.mk b6 0 none).add 0) h fun x48_0 =>
 ldI .i64 ((Addr.mk b6 0 none).add 1) h fun x48_1 =>
 ldI .u64 ((Addr.mk b6 0 none).add 2) h fun x48_2 =>
 ldI .u64 ((Addr.mk b6 0 none).add 3) h fun x48_3 =>
 ldI .i64 ((Addr.mk b6 0 none).add 4) h fun x48_4 =>
 ldB ((Addr.mk b6 0 none).add 5) h fun x48_5 =>
 C_audit_meets x47_0 x47_1 x47_2 x47_3 x47_4 x47_5 x48_0 x48_1 x48_2 x48_3 x48_4 x48_5 h fun x49 h =>
 if x49 = true then
 (ldI .i64 ((Addr.mk b6 0 none).add 0) h fun x52_0 =>
 ldI .i64 ((Addr.mk b6 0 none).add 1) h fun x52_1 =>
 ldI .u64 ((Addr.mk b6 0 none).add 2) h fun x52_2 =>
 ldI .u64 ((Addr.mk b6 0 none).add 3) h fun x52_3 =>
 ldI .i64 ((Addr.mk b6 0 none).add 4) h fun x52_4 =>
 ldB ((Addr.mk b6 0 none).add 5) h fun x52_5 =>
 ldI .i64 ((Addr.mk b8 0 none).add 0) h fun x53_0 =>
 ldI .i64 ((Addr.mk b8 0 none).add 1) h fun x53_1 =>
 ldI .u64 ((Addr.mk b8 0 none).add 2) h fun x53_2 =>
 ldI .u64 ((Addr.mk b8 0 none).add 3) h fun x53_3 =>
 ldI .i64 ((Addr.mk b8 0 none).add 4) h fun x53_4 =>
 ldB ((Addr.mk b8 0 none).add 5) h fun x53_5 =>
 C_audit_meets x52_0 x52_1 x52_2 x52_3 x52_4 x52_5 x53_0 x53_1 x53_2 x53_3 x53_4 x53_5 h fun x54 h =>
 if x54 = true then
 (
 R s5.1 s2.1 true h)
 else
 (
 X5 ((IntKind.wrap .i64 (s5.1 + 1)), ()) h))
 else
 (
 X5 ((IntKind.wrap .i64 (s5.1 + 1)), ()) h)))
 else
 (
 X5 ((IntKind.wrap .i64 (s5.1 + 1)), ()) h))
 else
 (
 X5 ((IntKind.wrap .i64 (s5.1 + 1)), ()) h))
 else
 (
 X2 ((IntKind.wrap .i64 (s2.1 + 1)), ()) h)) ((0 : Int), ()) h)
 else
 (
 R 0 0 false h)) ((0 : Int), ()) h

def S_audit_Longest (p0 : Sl) (h : Heap) (R : Int → Bool → Heap → Prop) : Prop :=
 Lp (τ := Int × Bool × Int × Int × Unit) (fun X4 s4 h => ∀ _ : Fr,
 if (decide (s4.2.2.2.1 < ((p0.n : Nat) : Int))) = true then
 (
 pm p0.p fun a15 =>
 0 ≤ s4.2.2.2.1 ∧ s4.2.2.2.1 < ((p0.n : Nat) : Int) ∧
 ldI .i64 ((a15.add (Int.toNat s4.2.2.2.1 * 6)).add 0) h fun x16_0 =>
 ldI .i64 ((a15.add (Int.toNat s4.2.2.2.1 * 6)).add 1) h fun x16_1 =>
 ldI .u64 ((a15.add (Int.toNat s4.2.2.2.1 * 6)).add 2) h fun x16_2 =>
 ldI .u64 ((a15.add (Int.toNat s4.2.2.2.1 * 6)).add 3) h fun x16_3 =>
 ldI .i64 ((a15.add (Int.toNat s4.2.2.2.1 * 6)).add 4) h fun x16_4 =>
 ldB ((a15.add (Int.toNat s4.2.2.2.1 * 6)).add 5) h fun x16_5 =>
 alc (.cells #[.int .i64 0, .int .i64 0, .int .u64 0, .int .u64 0, .int .i64 0, .bool false] 53) h fun b8 h =>
 stF [.int .i64 x16_0, .int .i64 x16_1, .int .u64 x16_2, .int .u64 x16_3, .int .i64 x16_4, .bool x16_5] h (Addr.mk b8 0 none) 0 fun h =>
 ldI .u64 ((Addr.mk b8 0 none).add 3) h fun x18 =>
 ldI .u64 ((Addr.mk b8 0 none).add 2) h fun x20 =>
 ldI .u64 ((Addr.mk b8 0 none).add 2) h fun x23 =>
 ldI .i64 ((Addr.mk b8 0 none).add 4) h fun x26 =>
 if (x26 != 0) = true then
 (if (!s4.2.1) = true then
 (
 X4 (s4.2.2.2.1, true, (IntKind.wrap .u64 ((if x20 > x18 then x20 else x18) - x23)), (IntKind.wrap .i64 (s4.2.2.2.1 + 1)), ()) h)
 else
 (
 if (decide ((IntKind.wrap .u64 ((if x20 > x18 then x20 else x18) - x23)) > s4.2.2.1)) = true then
 (
 X4 (s4.2.2.2.1, true, (IntKind.wrap .u64 ((if x20 > x18 then x20 else x18) - x23)), (IntKind.wrap .i64 (s4.2.2.2.1 + 1)), ()) h)
 else
 (
 X4 (s4.1, s4.2.1, s4.2.2.1, (IntKind.wrap .i64 (s4.2.2.2.1 + 1)), ()) h)))
 else
 (
 X4 (s4.1, s4.2.1, s4.2.2.1, (IntKind.wrap .i64 (s4.2.2.2.1 + 1)), ()) h))
 else
 (
 R s4.1 s4.2.1 h)) ((0 : Int), false, (0 : Int), (0 : Int), ()) h

def S_law28_awake (h : Heap) (R : Bool → Heap → Prop) : Prop :=
 alc (.cells #[.int .u64 2, .int .i64 4, .int .i64 1, .int .i64 0, .int .i64 0, .int .u64 3, .int .i64 6, .int .i64 2, .int .i64 0, .int .i64 0, .int .u64 5, .int .i64 5, .int .i64 1, .int .i64 0, .int .i64 0, .int .u64 5, .int .i64 4, .int .i64 2, .int .i64 0, .int .i64 0] 72) h fun b13 h =>
 C_audit_Holds (Sl.mk (some (Addr.mk b13 0 none)) 4 4) h fun x15 h =>
 C_audit_Waits (Sl.mk (some (Addr.mk b13 0 none)) 4 4) h fun x17 h =>
 C_audit_Beside x15 h fun x20a x20b x20c h =>
 C_audit_Longest x15 h fun x26a x26b h =>
 if (((x15.n : Nat) : Int) == 2) = true then
 (pm x15.p fun a34 =>
 0 ≤ (0 : Int) ∧ (0 : Int) < ((x15.n : Nat) : Int) ∧
 ldI .i64 ((a34.add (Int.toNat 0 * 6)).add 0) h fun x35_0 =>
 ldI .i64 ((a34.add (Int.toNat 0 * 6)).add 1) h fun x35_1 =>
 ldI .u64 ((a34.add (Int.toNat 0 * 6)).add 2) h fun x35_2 =>
 ldI .u64 ((a34.add (Int.toNat 0 * 6)).add 3) h fun x35_3 =>
 ldI .i64 ((a34.add (Int.toNat 0 * 6)).add 4) h fun x35_4 =>
 ldB ((a34.add (Int.toNat 0 * 6)).add 5) h fun x35_5 =>
 if ((x35_0 == 1) && ((x35_1 == 0) && ((x35_2 == 2) && ((x35_3 == 5) && ((x35_4 == 1) && ((x35_5 == false) && true)))))) = true then
 (pm x15.p fun a41 =>
 0 ≤ (1 : Int) ∧ (1 : Int) < ((x15.n : Nat) : Int) ∧
 ldI .i64 ((a41.add (Int.toNat 1 * 6)).add 4) h fun x43 =>
 if (x43 == 0) = true then
 (if (((x17.n : Nat) : Int) == 1) = true then
 (pm x17.p fun a53 =>
 0 ≤ (0 : Int) ∧ (0 : Int) < ((x17.n : Nat) : Int) ∧
 ldI .i64 ((a53.add (Int.toNat 0 * 6)).add 0) h fun x54_0 =>
 ldI .i64 ((a53.add (Int.toNat 0 * 6)).add 1) h fun x54_1 =>
 ldI .u64 ((a53.add (Int.toNat 0 * 6)).add 2) h fun x54_2 =>
 ldI .u64 ((a53.add (Int.toNat 0 * 6)).add 3) h fun x54_3 =>
 ldI .i64 ((a53.add (Int.toNat 0 * 6)).add 4) h fun x54_4 =>
 ldB ((a53.add (Int.toNat 0 * 6)).add 5) h fun x54_5 =>
 if ((x54_0 == 2) && ((x54_1 == 0) && ((x54_2 == 3) && ((x54_3 == 5) && ((x54_4 == 1) && ((x54_5 == false) && true)))))) = true then
 (if (!x20c) = true then
 (if (x26a == 0) = true then
 (
 R x26b h)
 else
 (
 R false h))
 else
 (
 R false h))
 else
 (
 R false h))
 else
 (
 R false h))
 else
 (
 R false h))
 else
 (
 R false h))
 else
 (
 R false h)

def S_ref09_letter (p0 : Int) (h : Heap) (R : Bool → Heap → Prop) : Prop :=
 if (decide (p0 ≥ 97)) = true then
 (
 R (decide (p0 ≤ 122)) h)
 else
 (
 R false h)

def S_ref09_digit (p0 : Int) (h : Heap) (R : Bool → Heap → Prop) : Prop :=
 if (decide (p0 ≥ 48)) = true then
 (
 R (decide (p0 ≤ 57)) h)
 else
 (
 R false h)

def S_ref09_mark (p0 : Int) (h : Heap) (R : Bool → Heap → Prop) : Prop :=
 if (p0 == 123) = true then
 (
 R true h)
 else
 (if (p0 == 125) = true then
 (
 R true h)
 else
 (if (p0 == 59) = true then
 (
 R true h)
 else
 (if (p0 == 46) = true then
 (
 R true h)
 else
 (
 R (p0 == 61) h))))

def S_ref09_one (p0 : ByteArray) (p1 : Int) (h : Heap) (R : Int → ByteArray → Int → Int → Int → Bool → Heap → Prop) : Prop :=
 alc (.cells #[.int .i64 0, .string ⟨#[]⟩, .int .i64 0, .int .i64 0] 152) h fun b4 h =>
 0 ≤ p1 ∧ p1 < (p0.size : Int) ∧
 C_ref09_letter (byteAt p0 p1) h fun x13 h =>
 if x13 = true then
 (jn (α := Int × Unit) (fun K4 =>
 Lp (τ := Int × Unit) (fun X3 s3 h => ∀ _ : Fr,
 if (decide (s3.1 < (p0.size : Int))) = true then
 (0 ≤ s3.1 ∧ s3.1 < (p0.size : Int) ∧
 C_ref09_letter (byteAt p0 s3.1) h fun x22 h =>
 if x22 = true then
 (
 X3 ((IntKind.wrap .i64 (s3.1 + 1)), ()) h)
 else
 (K4 (s3.1, ()) h))
 else
 (
 K4 (s3.1, ()) h)) ((p1 : Int), ()) h) fun j4 h =>
 0 ≤ p1 ∧ p1 ≤ j4.1 ∧ j4.1 ≤ (p0.size : Int) ∧
 stF [.int .i64 1, .string (p0.extract (Int.toNat p1) (Int.toNat j4.1)), .int .i64 0, .int .i64 p1] h (Addr.mk b4 0 none) 0 fun h =>
 ldI .i64 ((Addr.mk b4 0 none).add 0) h fun x9000_0 =>
 ldStr ((Addr.mk b4 0 none).add 1) h fun x9000_1 =>
 ldI .i64 ((Addr.mk b4 0 none).add 2) h fun x9000_2 =>
 ldI .i64 ((Addr.mk b4 0 none).add 3) h fun x9000_3 =>
 R x9000_0 x9000_1 x9000_2 x9000_3 j4.1 (decide ((IntKind.wrap .i64 (j4.1 - p1)) ≤ 12)) h)
 else
 (
 0 ≤ p1 ∧ p1 < (p0.size : Int) ∧
 C_ref09_digit (byteAt p0 p1) h fun x40 h =>
 if x40 = true then
 (
 jn (α := Int × Int × Unit) (fun K11 =>
 Lp (τ := Int × Int × Unit) (fun X8 s8 h => ∀ _ : Fr,
 if (decide (s8.1 < (p0.size : Int))) = true then
 (0 ≤ s8.1 ∧ s8.1 < (p0.size : Int) ∧
 C_ref09_digit (byteAt p0 s8.1) h fun x49 h =>
 if x49 = true then
 (
 if (decide ((IntKind.wrap .i64 (s8.1 - p1)) < 9)) = true then
 (0 ≤ s8.1 ∧ s8.1 < (p0.size : Int) ∧
 X8 ((IntKind.wrap .i64 (s8.1 + 1)), (IntKind.wrap .i64 ((IntKind.wrap .i64 ((IntKind.wrap .i64 (s8.2.1 * 10)) + (IntKind.wrap .i64 (byteAt p0 s8.1)))) - 48)), ()) h)
 else
 (
 X8 ((IntKind.wrap .i64 (s8.1 + 1)), s8.2.1, ()) h))
 else
 (K11 (s8.1, s8.2.1, ()) h))
 else
 (
 K11 (s8.1, s8.2.1, ()) h)) ((p1 : Int), (0 : Int), ()) h) fun j11 h =>
 if (decide ((IntKind.wrap .i64 (j11.1 - p1)) ≤ 9)) = true then
 (0 ≤ p1 ∧ p1 < (p0.size : Int) ∧
 if ((byteAt p0 p1) != 48) = true then
 (stF [.int .i64 2, .string ⟨#[]⟩, .int .i64 j11.2.1, .int .i64 p1] h (Addr.mk b4 0 none) 0 fun h =>
 ldI .i64 ((Addr.mk b4 0 none).add 0) h fun x9000_0 =>
 ldStr ((Addr.mk b4 0 none).add 1) h fun x9000_1 =>
 ldI .i64 ((Addr.mk b4 0 none).add 2) h fun x9000_2 =>
 ldI .i64 ((Addr.mk b4 0 none).add 3) h fun x9000_3 =>
 R x9000_0 x9000_1 x9000_2 x9000_3 j11.1 true h)
 else
 (stF [.int .i64 2, .string ⟨#[]⟩, .int .i64 j11.2.1, .int .i64 p1] h (Addr.mk b4 0 none) 0 fun h =>
 ldI .i64 ((Addr.mk b4 0 none).add 0) h fun x9000_0 =>
 ldStr ((Addr.mk b4 0 none).add 1) h fun x9000_1 =>
 ldI .i64 ((Addr.mk b4 0 none).add 2) h fun x9000_2 =>
 ldI .i64 ((Addr.mk b4 0 none).add 3) h fun x9000_3 =>
 R x9000_0 x9000_1 x9000_2 x9000_3 j11.1 (j11.1 == (IntKind.wrap .i64 (p1 + 1))) h))
 else
 (stF [.int .i64 2, .string ⟨#[]⟩, .int .i64 j11.2.1, .int .i64 p1] h (Addr.mk b4 0 none) 0 fun h =>
 ldI .i64 ((Addr.mk b4 0 none).add 0) h fun x9000_0 =>
 ldStr ((Addr.mk b4 0 none).add 1) h fun x9000_1 =>
 ldI .i64 ((Addr.mk b4 0 none).add 2) h fun x9000_2 =>
 ldI .i64 ((Addr.mk b4 0 none).add 3) h fun x9000_3 =>
 R x9000_0 x9000_1 x9000_2 x9000_3 j11.1 false h))
 else
 (
 0 ≤ p1 ∧ p1 ≤ (IntKind.wrap .i64 (p1 + 1)) ∧ (IntKind.wrap .i64 (p1 + 1)) ≤ (p0.size : Int) ∧
 0 ≤ p1 ∧ p1 < (p0.size : Int) ∧
 C_ref09_mark (byteAt p0 p1) h fun x97 h =>
 stF [.int .i64 3, .string (p0.extract (Int.toNat p1) (Int.toNat (IntKind.wrap .i64 (p1 + 1)))), .int .i64 0, .int .i64 p1] h (Addr.mk b4 0 none) 0 fun h =>
 ldI .i64 ((Addr.mk b4 0 none).add 0) h fun x9000_0 =>
 ldStr ((Addr.mk b4 0 none).add 1) h fun x9000_1 =>
 ldI .i64 ((Addr.mk b4 0 none).add 2) h fun x9000_2 =>
 ldI .i64 ((Addr.mk b4 0 none).add 3) h fun x9000_3 =>
 R x9000_0 x9000_1 x9000_2 x9000_3 (IntKind.wrap .i64 (p1 + 1)) x97 h))

def S_ref09_Scan (p0 : ByteArray) (h : Heap) (R : Sl → Int → Int → Heap → Prop) : Prop :=
 if (decide ((p0.size : Int) > 8000)) = true then
 (
 R (Sl.mk none 0 0) 8000 6 h)
 else
 (
 Lp (τ := Sl × Int × Int × Unit) (fun X6 s6 h => ∀ _ : Fr,
 if (decide (s6.2.2.1 < (p0.size : Int))) = true then
 (
 0 ≤ s6.2.2.1 ∧ s6.2.2.1 < (p0.size : Int) ∧
 if ((byteAt p0 s6.2.2.1) == 32) = true then
 (
 X6 (s6.1, s6.2.1, (IntKind.wrap .i64 (s6.2.2.1 + 1)), ()) h)
 else
 (0 ≤ s6.2.2.1 ∧ s6.2.2.1 < (p0.size : Int) ∧
 if ((byteAt p0 s6.2.2.1) == 9) = true then
 (
 X6 (s6.1, s6.2.1, (IntKind.wrap .i64 (s6.2.2.1 + 1)), ()) h)
 else
 (0 ≤ s6.2.2.1 ∧ s6.2.2.1 < (p0.size : Int) ∧
 if ((byteAt p0 s6.2.2.1) == 10) = true then
 (
 X6 (s6.1, s6.2.1, (IntKind.wrap .i64 (s6.2.2.1 + 1)), ()) h)
 else
 (
 0 ≤ s6.2.2.1 ∧ s6.2.2.1 < (p0.size : Int) ∧
 if ((byteAt p0 s6.2.2.1) == 35) = true then
 (Lp (τ := Int × Unit) (fun X10 s10 h => ∀ _ : Fr,
 if (decide (s10.1 < (p0.size : Int))) = true then
 (0 ≤ s10.1 ∧ s10.1 < (p0.size : Int) ∧
 if ((byteAt p0 s10.1) != 10) = true then
 (
 X10 ((IntKind.wrap .i64 (s10.1 + 1)), ()) h)
 else
 (
 X6 (s6.1, s6.2.1, s10.1, ()) h))
 else
 (
 X6 (s6.1, s6.2.1, s10.1, ()) h)) ((s6.2.2.1 : Int), ()) h)
 else
 (
 C_ref09_one p0 s6.2.2.1 h fun x55a_0 x55a_1 x55a_2 x55a_3 x55b x55c h =>
 alc (.cells #[.int .i64 0, .string ⟨#[]⟩, .int .i64 0, .int .i64 0] 152) h fun b8 h =>
 stF [.int .i64 x55a_0, .string x55a_1, .int .i64 x55a_2, .int .i64 x55a_3] h (Addr.mk b8 0 none) 0 fun h =>
 jn (α := Unit) (fun K21 =>
 if (!x55c) = true then
 (
 R (Sl.mk none 0 0) s6.2.2.1 5 h)
 else
 (if (s6.2.1 == s6.2.2.1) = true then
 (ldI .i64 ((Addr.mk b8 0 none).add 0) h fun x67 =>
 if (x67 != 3) = true then
 (pm s6.1.p fun a75 =>
 0 ≤ (IntKind.wrap .i64 (((s6.1.n : Nat) : Int) - 1)) ∧ (IntKind.wrap .i64 (((s6.1.n : Nat) : Int) - 1)) < ((s6.1.n : Nat) : Int) ∧
 ldI .i64 ((a75.add (Int.toNat (IntKind.wrap .i64 (((s6.1.n : Nat) : Int) - 1)) * 4)).add 0) h fun x77 =>
 if (x77 != 3) = true then
 (
 R (Sl.mk none 0 0) s6.2.2.1 5 h)
 else
 (K21 (()) h))
 else
 (
 K21 (()) h))
 else
 (
 K21 (()) h))) fun j21 h =>
 ldI .i64 ((Addr.mk b8 0 none).add 0) h fun x83_0 =>
 ldStr ((Addr.mk b8 0 none).add 1) h fun x83_1 =>
 ldI .i64 ((Addr.mk b8 0 none).add 2) h fun x83_2 =>
 ldI .i64 ((Addr.mk b8 0 none).add 3) h fun x83_3 =>
 alc (.cells #[.int .i64 x83_0, .string x83_1, .int .i64 x83_2, .int .i64 x83_3] 152) h fun b84 h =>
 appW 152 4 40 (.agg #[.int .i64 0, .string ⟨#[]⟩, .int .i64 0, .int .i64 0]) s6.1 (Sl.mk (some (Addr.mk b84 0 none)) 1 1) h fun x85 h =>
 X6 (x85, x55b, x55b, ()) h)))))
 else
 (
 R s6.1 0 0 h)) (((Sl.mk none 0 0) : Sl), ((-1) : Int), (0 : Int), ()) h)

def S_ref12_Read_is (p0 : Option Addr) (p1 : Int) (p2 : ByteArray) (h : Heap) (R : Bool → Heap → Prop) : Prop :=
 pm p0 fun a8 =>
 ldI .i64 (a8.add 2) h fun x10 =>
 if (x10 == 0) = true then
 (pm p0 fun a14 =>
 ldI .i64 (a14.add 1) h fun x16 =>
 pm p0 fun a18 =>
 ldS (a18.add 0) h fun x20 =>
 if (decide (x16 < ((x20.n : Nat) : Int))) = true then
 (pm p0 fun a26 =>
 ldS (a26.add 0) h fun x28 =>
 pm p0 fun a30 =>
 ldI .i64 (a30.add 1) h fun x32 =>
 pm x28.p fun a33 =>
 0 ≤ x32 ∧ x32 < ((x28.n : Nat) : Int) ∧
 ldI .i64 ((a33.add (Int.toNat x32 * 4)).add 0) h fun x35 =>
 if (x35 == p1) = true then
 (pm p0 fun a41 =>
 ldS (a41.add 0) h fun x43 =>
 pm p0 fun a45 =>
 ldI .i64 (a45.add 1) h fun x47 =>
 pm x43.p fun a48 =>
 0 ≤ x47 ∧ x47 < ((x43.n : Nat) : Int) ∧
 ldStr ((a48.add (Int.toNat x47 * 4)).add 1) h fun x50 =>
 R (x50.toList == p2.toList) h)
 else
 (
 R false h))
 else
 (
 R false h))
 else
 (
 R false h)

def S_ref12_Read_need (p0 : Option Addr) (p1 : Int) (p2 : ByteArray) (h : Heap) (R : Heap → Prop) : Prop :=
 C_ref12_Read_is p0 p1 p2 h fun x9 h =>
 if x9 = true then
 (pm p0 fun a11 =>
 ldI .i64 (a11.add 1) h fun x13 =>
 pm p0 fun a15 =>
 st (a15.add 1) (.int .i64 (IntKind.wrap .i64 (x13 + 1))) h fun h =>
 R h)
 else
 (pm p0 fun a18 =>
 ldI .i64 (a18.add 2) h fun x20 =>
 if (x20 == 0) = true then
 (pm p0 fun a23 =>
 st (a23.add 2) (.int .i64 5) h fun h =>
 R h)
 else
 (R h))

def S_ref12_Read_field (p0 : Option Addr) (p1 : ByteArray) (p2 : Int) (h : Heap) (R : Int → Heap → Prop) : Prop :=
 C_ref12_Read_need p0 1 p1 h fun h =>
 pm p0 fun a12 =>
 ldI .i64 (a12.add 2) h fun x14 =>
 if (x14 != 0) = true then
 (
 R 0 h)
 else
 (
 pm p0 fun a17 =>
 ldI .i64 (a17.add 1) h fun x19 =>
 pm p0 fun a21 =>
 ldS (a21.add 0) h fun x23 =>
 if (decide (x19 ≥ ((x23.n : Nat) : Int))) = true then
 (
 pm p0 fun a41 =>
 st (a41.add 2) (.int .i64 5) h fun h =>
 R 0 h)
 else
 (pm p0 fun a28 =>
 ldS (a28.add 0) h fun x30 =>
 pm p0 fun a32 =>
 ldI .i64 (a32.add 1) h fun x34 =>
 pm x30.p fun a35 =>
 0 ≤ x34 ∧ x34 < ((x30.n : Nat) : Int) ∧
 ldI .i64 ((a35.add (Int.toNat x34 * 4)).add 0) h fun x37 =>
 if (x37 != 2) = true then
 (pm p0 fun a41 =>
 st (a41.add 2) (.int .i64 5) h fun h =>
 R 0 h)
 else
 (
 pm p0 fun a44 =>
 ldS (a44.add 0) h fun x46 =>
 pm p0 fun a48 =>
 ldI .i64 (a48.add 1) h fun x50 =>
 pm x46.p fun a51 =>
 0 ≤ x50 ∧ x50 < ((x46.n : Nat) : Int) ∧
 ldI .i64 ((a51.add (Int.toNat x50 * 4)).add 2) h fun x53 =>
 if (decide (x53 < 1)) = true then
 (
 pm p0 fun a62 =>
 st (a62.add 2) (.int .i64 1) h fun h =>
 R 0 h)
 else
 (
 if (decide (x53 > p2)) = true then
 (pm p0 fun a62 =>
 st (a62.add 2) (.int .i64 1) h fun h =>
 R 0 h)
 else
 (
 pm p0 fun a65 =>
 ldI .i64 (a65.add 1) h fun x67 =>
 pm p0 fun a69 =>
 st (a69.add 1) (.int .i64 (IntKind.wrap .i64 (x67 + 1))) h fun h =>
 R x53 h)))))

def S_ref12_Read_long (p0 : Option Addr) (p1 : Int) (p2 : Int) (h : Heap) (R : Bool → Heap → Prop) : Prop :=
 pm p0 fun a8 =>
 ldI .i64 (a8.add 2) h fun x10 =>
 if (x10 == 0) = true then
 (
 if (decide (p1 ≥ p2)) = true then
 (pm p0 fun a18 =>
 st (a18.add 2) (.int .i64 6) h fun h =>
 pm p0 fun a21 =>
 ldI .i64 (a21.add 2) h fun x23 =>
 R (x23 != 0) h)
 else
 (
 pm p0 fun a21 =>
 ldI .i64 (a21.add 2) h fun x23 =>
 R (x23 != 0) h))
 else
 (
 pm p0 fun a21 =>
 ldI .i64 (a21.add 2) h fun x23 =>
 R (x23 != 0) h)

def S_ref12_Read_lock (p0 : Option Addr) (p1 : Bool) (h : Heap) (R : Bool → Int → Int → Int → Int → Heap → Prop) : Prop :=
 alc (.cells #[.bool false, .int .i64 0, .int .i64 0, .int .i64 0, .int .i64 0] 83) h fun b4 h =>
 alc (.cells #[.bool false, .int .i64 0, .int .i64 0, .int .i64 0, .int .i64 0] 83) h fun b5 h =>
 stF [.bool p1, .int .i64 0, .int .i64 0, .int .i64 0, .int .i64 0] h (Addr.mk b5 0 none) 0 fun h =>
 C_ref12_Read_field p0 ⟨#[115, 108, 105, 99, 101]⟩ 16 h fun x9 h =>
 st ((Addr.mk b5 0 none).add 1) (.int .i64 x9) h fun h =>
 C_ref12_Read_field p0 ⟨#[99, 114, 105, 116]⟩ 32 h fun x12 h =>
 st ((Addr.mk b5 0 none).add 2) (.int .i64 x12) h fun h =>
 if p1 = true then
 (C_ref12_Read_field p0 ⟨#[114, 101, 97, 100]⟩ 16 h fun x16 h =>
 st ((Addr.mk b5 0 none).add 3) (.int .i64 x16) h fun h =>
 C_ref12_Read_field p0 ⟨#[119, 114, 105, 116, 101]⟩ 16 h fun x19 h =>
 st ((Addr.mk b5 0 none).add 4) (.int .i64 x19) h fun h =>
 C_ref12_Read_need p0 3 ⟨#[59]⟩ h fun h =>
 ldB ((Addr.mk b5 0 none).add 0) h fun x23_0 =>
 ldI .i64 ((Addr.mk b5 0 none).add 1) h fun x23_1 =>
 ldI .i64 ((Addr.mk b5 0 none).add 2) h fun x23_2 =>
 ldI .i64 ((Addr.mk b5 0 none).add 3) h fun x23_3 =>
 ldI .i64 ((Addr.mk b5 0 none).add 4) h fun x23_4 =>
 stF [.bool x23_0, .int .i64 x23_1, .int .i64 x23_2, .int .i64 x23_3, .int .i64 x23_4] h (Addr.mk b4 0 none) 0 fun h =>
 ldB ((Addr.mk b4 0 none).add 0) h fun x9000_0 =>
 ldI .i64 ((Addr.mk b4 0 none).add 1) h fun x9000_1 =>
 ldI .i64 ((Addr.mk b4 0 none).add 2) h fun x9000_2 =>
 ldI .i64 ((Addr.mk b4 0 none).add 3) h fun x9000_3 =>
 ldI .i64 ((Addr.mk b4 0 none).add 4) h fun x9000_4 =>
 R x9000_0 x9000_1 x9000_2 x9000_3 x9000_4 h)
 else
 (
 C_ref12_Read_need p0 3 ⟨#[59]⟩ h fun h =>
 ldB ((Addr.mk b5 0 none).add 0) h fun x23_0 =>
 ldI .i64 ((Addr.mk b5 0 none).add 1) h fun x23_1 =>
 ldI .i64 ((Addr.mk b5 0 none).add 2) h fun x23_2 =>
 ldI .i64 ((Addr.mk b5 0 none).add 3) h fun x23_3 =>
 ldI .i64 ((Addr.mk b5 0 none).add 4) h fun x23_4 =>
 stF [.bool x23_0, .int .i64 x23_1, .int .i64 x23_2, .int .i64 x23_3, .int .i64 x23_4] h (Addr.mk b4 0 none) 0 fun h =>
 ldB ((Addr.mk b4 0 none).add 0) h fun x9000_0 =>
 ldI .i64 ((Addr.mk b4 0 none).add 1) h fun x9000_1 =>
 ldI .i64 ((Addr.mk b4 0 none).add 2) h fun x9000_2 =>
 ldI .i64 ((Addr.mk b4 0 none).add 3) h fun x9000_3 =>
 ldI .i64 ((Addr.mk b4 0 none).add 4) h fun x9000_4 =>
 R x9000_0 x9000_1 x9000_2 x9000_3 x9000_4 h)

def S_ref10_is (p0 : Sl) (p1 : Int) (p2 : Int) (p3 : ByteArray) (h : Heap) (R : Bool → Heap → Prop) : Prop :=
 if (decide (p1 < ((p0.n : Nat) : Int))) = true then
 (pm p0.p fun a16 =>
 0 ≤ p1 ∧ p1 < ((p0.n : Nat) : Int) ∧
 ldI .i64 ((a16.add (Int.toNat p1 * 4)).add 0) h fun x18 =>
 if (x18 == p2) = true then
 (pm p0.p fun a25 =>
 0 ≤ p1 ∧ p1 < ((p0.n : Nat) : Int) ∧
 ldStr ((a25.add (Int.toNat p1 * 4)).add 1) h fun x27 =>
 R (x27.toList == p3.toList) h)
 else
 (
 R false h))
 else
 (
 R false h)

def S_ref10_Name (p0 : Int) (h : Heap) (R : ByteArray → Heap → Prop) : Prop :=
 alc (.cells #[.string ⟨#[]⟩, .string ⟨#[99, 111, 109, 112, 117, 116, 101]⟩, .string ⟨#[108, 111, 99, 107]⟩, .string ⟨#[114, 101, 97, 100]⟩, .string ⟨#[116, 114, 121]⟩, .string ⟨#[116, 105, 109, 101, 100]⟩, .string ⟨#[117, 110, 108, 111, 99, 107]⟩, .string ⟨#[115, 108, 101, 101, 112]⟩, .string ⟨#[121, 105, 101, 108, 100]⟩, .string ⟨#[115, 112, 97, 119, 110]⟩, .string ⟨#[119, 101, 105, 103, 104, 116]⟩, .string ⟨#[101, 120, 105, 116]⟩] 9) h fun b4 h =>
 if (decide (p0 < 0)) = true then
 (
 R ⟨#[]⟩ h)
 else
 (
 if (decide (p0 > 11)) = true then
 (
 R ⟨#[]⟩ h)
 else
 (
 0 ≤ p0 ∧ p0 < (12 : Int) ∧
 ldStr ((Addr.mk b4 0 none).add (Int.toNat p0 * 1)) h fun x14 =>
 R x14 h))

def S_ref10_Limits (p0 : Int) (h : Heap) (R : Int → Int → Heap → Prop) : Prop :=
 if (p0 == 1) = true then
 (
 R 1 16 h)
 else
 (
 jn (α := Unit) (fun K4 =>
 if (decide (p0 ≥ 2)) = true then
 (if (decide (p0 ≤ 6)) = true then
 (
 R 0 7 h)
 else
 (
 if (p0 == 9) = true then
 (
 R 0 7 h)
 else
 (K4 (()) h)))
 else
 (
 if (p0 == 9) = true then
 (
 R 0 7 h)
 else
 (K4 (()) h))) fun j4 h =>
 if (p0 == 7) = true then
 (
 R 1 64 h)
 else
 (
 if (p0 == 10) = true then
 (
 R 1 16 h)
 else
 (
 R (-1) (-1) h)))

def S_ref10_Parse (p0 : Sl) (p1 : Int) (h : Heap) (R : Bool → Sl → Int → Int → Heap → Prop) : Prop :=
 alc (.cells #[.bool false, .slice none 0 0] 117) h fun b4 h =>
 alc (.cells #[.bool false, .slice none 0 0] 117) h fun b7 h =>
 stF [.bool false, .slice none 0 0] h (Addr.mk b7 0 none) 0 fun h =>
 if (decide (p1 < 0)) = true then
 (
 ldB ((Addr.mk b7 0 none).add 0) h fun x24_0 =>
 ldS ((Addr.mk b7 0 none).add 1) h fun x24_1 =>
 stF [.bool x24_0, .slice x24_1.p x24_1.n x24_1.c] h (Addr.mk b4 0 none) 0 fun h =>
 ldB ((Addr.mk b4 0 none).add 0) h fun x9000_0 =>
 ldS ((Addr.mk b4 0 none).add 1) h fun x9000_1 =>
 R x9000_0 x9000_1 0 5 h)
 else
 (
 if (decide (p1 > ((p0.n : Nat) : Int))) = true then
 (ldB ((Addr.mk b7 0 none).add 0) h fun x24_0 =>
 ldS ((Addr.mk b7 0 none).add 1) h fun x24_1 =>
 stF [.bool x24_0, .slice x24_1.p x24_1.n x24_1.c] h (Addr.mk b4 0 none) 0 fun h =>
 ldB ((Addr.mk b4 0 none).add 0) h fun x9000_0 =>
 ldS ((Addr.mk b4 0 none).add 1) h fun x9000_1 =>
 R x9000_0 x9000_1 0 5 h)
 else
 (
 C_ref10_is p0 p1 1 ⟨#[112, 114, 111, 103]⟩ h fun x27 h =>
 if (!x27) = true then
 (ldB ((Addr.mk b7 0 none).add 0) h fun x29_0 =>
 ldS ((Addr.mk b7 0 none).add 1) h fun x29_1 =>
 stF [.bool x29_0, .slice x29_1.p x29_1.n x29_1.c] h (Addr.mk b4 0 none) 0 fun h =>
 ldB ((Addr.mk b4 0 none).add 0) h fun x9000_0 =>
 ldS ((Addr.mk b4 0 none).add 1) h fun x9000_1 =>
 R x9000_0 x9000_1 p1 5 h)
 else
 (
 jn (α := Int × Unit) (fun K10 =>
 C_ref10_is p0 (IntKind.wrap .i64 (p1 + 1)) 1 ⟨#[102, 111, 114, 101, 118, 101, 114]⟩ h fun x35 h =>
 if x35 = true then
 (st ((Addr.mk b7 0 none).add 0) (.bool true) h fun h =>
 K10 ((IntKind.wrap .i64 ((IntKind.wrap .i64 (p1 + 1)) + 1)), ()) h)
 else
 (K10 ((IntKind.wrap .i64 (p1 + 1)), ()) h)) fun j10 h =>
 C_ref10_is p0 j10.1 3 ⟨#[123]⟩ h fun x41 h =>
 if (!x41) = true then
 (stF [.bool false, .slice none 0 0] h (Addr.mk b4 0 none) 0 fun h =>
 ldB ((Addr.mk b4 0 none).add 0) h fun x9000_0 =>
 ldS ((Addr.mk b4 0 none).add 1) h fun x9000_1 =>
 R x9000_0 x9000_1 j10.1 5 h)
 else
 (
 Lp (τ := Int × Unit) (fun X13 s13 h => ∀ _ : Fr,
 C_ref10_is p0 s13.1 3 ⟨#[125]⟩ h fun x49 h =>
 if (!x49) = true then
 (
 Lp (τ := Int × Int × Unit) (fun X16 s16 h => ∀ _ : Fr,
 if (decide (s16.2.1 ≤ 11)) = true then
 (
 C_ref10_Name s16.2.1 h fun x58 h =>
 C_ref10_is p0 s13.1 1 x58 h fun x59 h =>
 if x59 = true then
 (
 X16 (s16.2.1, (IntKind.wrap .i64 (s16.2.1 + 1)), ()) h)
 else
 (
 X16 (s16.1, (IntKind.wrap .i64 (s16.2.1 + 1)), ()) h))
 else
 (
 if (s16.1 == 0) = true then
 (stF [.bool false, .slice none 0 0] h (Addr.mk b4 0 none) 0 fun h =>
 ldB ((Addr.mk b4 0 none).add 0) h fun x9000_0 =>
 ldS ((Addr.mk b4 0 none).add 1) h fun x9000_1 =>
 R x9000_0 x9000_1 s13.1 5 h)
 else
 (
 ldS ((Addr.mk b7 0 none).add 1) h fun x66 =>
 if (((x66.n : Nat) : Int) == 12) = true then
 (stF [.bool false, .slice none 0 0] h (Addr.mk b4 0 none) 0 fun h =>
 ldB ((Addr.mk b4 0 none).add 0) h fun x9000_0 =>
 ldS ((Addr.mk b4 0 none).add 1) h fun x9000_1 =>
 R x9000_0 x9000_1 s13.1 6 h)
 else
 (
 alc (.cells #[.int .i64 0, .int .i64 0, .int .i64 0] 168) h fun b10 h =>
 stF [.int .i64 s16.1, .int .i64 0, .int .i64 0] h (Addr.mk b10 0 none) 0 fun h =>
 C_ref10_Limits s16.1 h fun x77a x77b h =>
 Lp (τ := Int × Int × Int × Int × Unit) (fun X28 s28 h => ∀ _ : Fr,
 if (decide (s28.2.2.2.1 < 2)) = true then
 (
 jn (α := Unit) (fun K41 =>
 if (s28.2.2.2.1 == 0) = true then
 (if (decide (s28.2.1 < 0)) = true then
 (
 X28 (s28.1, s28.2.1, s28.2.2.1, (IntKind.wrap .i64 (s28.2.2.2.1 + 1)), ()) h)
 else
 (if (s28.2.2.2.1 == 1) = true then
 (
 if (s16.1 != 5) = true then
 (
 X28 (s28.1, s28.2.1, s28.2.2.1, (IntKind.wrap .i64 (s28.2.2.2.1 + 1)), ()) h)
 else
 (K41 (()) h))
 else
 (
 K41 (()) h)))
 else
 (if (s28.2.2.2.1 == 1) = true then
 (
 if (s16.1 != 5) = true then
 (
 X28 (s28.1, s28.2.1, s28.2.2.1, (IntKind.wrap .i64 (s28.2.2.2.1 + 1)), ()) h)
 else
 (K41 (()) h))
 else
 (
 K41 (()) h))) fun j41 h =>
 if (decide (s28.1 ≥ ((p0.n : Nat) : Int))) = true then
 (
 stF [.bool false, .slice none 0 0] h (Addr.mk b4 0 none) 0 fun h =>
 ldB ((Addr.mk b4 0 none).add 0) h fun x9000_0 =>
 ldS ((Addr.mk b4 0 none).add 1) h fun x9000_1 =>
 R x9000_0 x9000_1 s28.1 5 h)
 else
 (pm p0.p fun a105 =>
 0 ≤ s28.1 ∧ s28.1 < ((p0.n : Nat) : Int) ∧
 ldI .i64 ((a105.add (Int.toNat s28.1 * 4)).add 0) h fun x107 =>
 if (x107 != 2) = true then
 (stF [.bool false, .slice none 0 0] h (Addr.mk b4 0 none) 0 fun h =>
 ldB ((Addr.mk b4 0 none).add 0) h fun x9000_0 =>
 ldS ((Addr.mk b4 0 none).add 1) h fun x9000_1 =>
 R x9000_0 x9000_1 s28.1 5 h)
 else
 (
 pm p0.p fun a114 =>
 0 ≤ s28.1 ∧ s28.1 < ((p0.n : Nat) : Int) ∧
 ldI .i64 ((a114.add (Int.toNat s28.1 * 4)).add 2) h fun x116 =>
 jn (α := Int × Int × Unit) (fun K48 =>
 if (s28.2.2.2.1 == 1) = true then
 (
 st ((Addr.mk b10 0 none).add 2) (.int .i64 x116) h fun h =>
 K48 (1, 64, ()) h)
 else
 (st ((Addr.mk b10 0 none).add 1) (.int .i64 x116) h fun h =>
 K48 (s28.2.1, s28.2.2.1, ()) h)) fun j48 h =>
 if (decide (x116 < j48.1)) = true then
 (
 stF [.bool false, .slice none 0 0] h (Addr.mk b4 0 none) 0 fun h =>
 ldB ((Addr.mk b4 0 none).add 0) h fun x9000_0 =>
 ldS ((Addr.mk b4 0 none).add 1) h fun x9000_1 =>
 R x9000_0 x9000_1 s28.1 1 h)
 else
 (
 if (decide (x116 > j48.2.1)) = true then
 (stF [.bool false, .slice none 0 0] h (Addr.mk b4 0 none) 0 fun h =>
 ldB ((Addr.mk b4 0 none).add 0) h fun x9000_0 =>
 ldS ((Addr.mk b4 0 none).add 1) h fun x9000_1 =>
 R x9000_0 x9000_1 s28.1 1 h)
 else
 (
 X28 ((IntKind.wrap .i64 (s28.1 + 1)), j48.1, j48.2.1, (IntKind.wrap .i64 (s28.2.2.2.1 + 1)), ()) h)))))
 else
 (
 C_ref10_is p0 s28.1 3 ⟨#[59]⟩ h fun x137 h =>
 if (!x137) = true then
 (stF [.bool false, .slice none 0 0] h (Addr.mk b4 0 none) 0 fun h =>
 ldB ((Addr.mk b4 0 none).add 0) h fun x9000_0 =>
 ldS ((Addr.mk b4 0 none).add 1) h fun x9000_1 =>
 R x9000_0 x9000_1 s28.1 5 h)
 else
 (
 ldS ((Addr.mk b7 0 none).add 1) h fun x144 =>
 ldI .i64 ((Addr.mk b10 0 none).add 0) h fun x145_0 =>
 ldI .i64 ((Addr.mk b10 0 none).add 1) h fun x145_1 =>
 ldI .i64 ((Addr.mk b10 0 none).add 2) h fun x145_2 =>
 alc (.cells #[.int .i64 x145_0, .int .i64 x145_1, .int .i64 x145_2] 168) h fun b146 h =>
 appW 168 3 24 (.agg #[.int .i64 0, .int .i64 0, .int .i64 0]) x144 (Sl.mk (some (Addr.mk b146 0 none)) 1 1) h fun x147 h =>
 st ((Addr.mk b7 0 none).add 1) (.slice x147.p x147.n x147.c) h fun h =>
 X13 ((IntKind.wrap .i64 (s28.1 + 1)), ()) h))) (((IntKind.wrap .i64 (s13.1 + 1)) : Int), (x77a : Int), (x77b : Int), (0 : Int), ()) h)))) ((0 : Int), (1 : Int), ()) h)
 else
 (
 ldS ((Addr.mk b7 0 none).add 1) h fun x150 =>
 if (((x150.n : Nat) : Int) == 0) = true then
 (stF [.bool false, .slice none 0 0] h (Addr.mk b4 0 none) 0 fun h =>
 ldB ((Addr.mk b4 0 none).add 0) h fun x9000_0 =>
 ldS ((Addr.mk b4 0 none).add 1) h fun x9000_1 =>
 R x9000_0 x9000_1 s13.1 4 h)
 else
 (
 ldB ((Addr.mk b7 0 none).add 0) h fun x155_0 =>
 ldS ((Addr.mk b7 0 none).add 1) h fun x155_1 =>
 stF [.bool x155_0, .slice x155_1.p x155_1.n x155_1.c] h (Addr.mk b4 0 none) 0 fun h =>
 ldB ((Addr.mk b4 0 none).add 0) h fun x9000_0 =>
 ldS ((Addr.mk b4 0 none).add 1) h fun x9000_1 =>
 R x9000_0 x9000_1 (IntKind.wrap .i64 (s13.1 + 1)) 0 h))) (((IntKind.wrap .i64 (j10.1 + 1)) : Int), ()) h))))

def S_ref10_One (p0_0 : Int) (p0_1 : Int) (p0_2 : Int) (h : Heap) (R : Bool → Heap → Prop) : Prop :=
 alc (.cells #[.int .i64 p0_0, .int .i64 p0_1, .int .i64 p0_2] 168) h fun b1 h =>
 ldI .i64 ((Addr.mk b1 0 none).add 0) h fun x8 =>
 C_ref10_Name x8 h fun x9 h =>
 if (x9.toList == (⟨#[]⟩ : ByteArray).toList) = true then
 (
 R false h)
 else
 (
 ldI .i64 ((Addr.mk b1 0 none).add 0) h fun x13 =>
 C_ref10_Limits x13 h fun x14a x14b h =>
 ldI .i64 ((Addr.mk b1 0 none).add 1) h fun x18 =>
 jn (α := Bool × Unit) (fun K6 =>
 if (decide (x14a ≥ 0)) = true then
 (ldI .i64 ((Addr.mk b1 0 none).add 1) h fun x23 =>
 if (decide (x23 ≥ x14a)) = true then
 (ldI .i64 ((Addr.mk b1 0 none).add 1) h fun x28 =>
 K6 ((decide (x28 ≤ x14b)), ()) h)
 else
 (K6 (false, ()) h))
 else
 (K6 ((x18 == 0), ()) h)) fun j6 h =>
 ldI .i64 ((Addr.mk b1 0 none).add 2) h fun x33 =>
 ldI .i64 ((Addr.mk b1 0 none).add 0) h fun x36 =>
 if (x36 == 5) = true then
 (ldI .i64 ((Addr.mk b1 0 none).add 2) h fun x39 =>
 if (decide (x39 ≥ 1)) = true then
 (ldI .i64 ((Addr.mk b1 0 none).add 2) h fun x43 =>
 if j6.1 = true then
 (
 R (decide (x43 ≤ 64)) h)
 else
 (
 R false h))
 else
 (
 if j6.1 = true then
 (
 R false h)
 else
 (
 R false h)))
 else
 (
 if j6.1 = true then
 (
 R (x33 == 0) h)
 else
 (
 R false h)))

def S_ref10_May (p0_0 : Bool) (p0_1 : Sl) (h : Heap) (R : Bool → Heap → Prop) : Prop :=
 alc (.cells #[.bool p0_0, .slice p0_1.p p0_1.n p0_1.c] 117) h fun b1 h =>
 Lp (τ := Int × Unit) (fun X2 s2 h => ∀ _ : Fr,
 ldS ((Addr.mk b1 0 none).add 1) h fun x6 =>
 if (decide (s2.1 < ((x6.n : Nat) : Int))) = true then
 (
 if (decide (s2.1 > 11)) = true then
 (
 R false h)
 else
 (ldS ((Addr.mk b1 0 none).add 1) h fun x15 =>
 pm x15.p fun a17 =>
 0 ≤ s2.1 ∧ s2.1 < ((x15.n : Nat) : Int) ∧
 ldI .i64 ((a17.add (Int.toNat s2.1 * 3)).add 0) h fun x18_0 =>
 ldI .i64 ((a17.add (Int.toNat s2.1 * 3)).add 1) h fun x18_1 =>
 ldI .i64 ((a17.add (Int.toNat s2.1 * 3)).add 2) h fun x18_2 =>
 C_ref10_One x18_0 x18_1 x18_2 h fun x19 h =>
 if (!x19) = true then
 (
 R false h)
 else
 (
 X2 ((IntKind.wrap .i64 (s2.1 + 1)), ()) h)))
 else
 (
 ldS ((Addr.mk b1 0 none).add 1) h fun x23 =>
 R (decide (((x23.n : Nat) : Int) > 0)) h)) ((0 : Int), ()) h

def S_ref11_takes (p0_0 : Int) (p0_1 : Int) (p0_2 : Int) (h : Heap) (R : Bool → Heap → Prop) : Prop :=
 alc (.cells #[.int .i64 p0_0, .int .i64 p0_1, .int .i64 p0_2] 168) h fun b1 h =>
 ldI .i64 ((Addr.mk b1 0 none).add 0) h fun x4 =>
 if (decide (x4 ≥ 2)) = true then
 (ldI .i64 ((Addr.mk b1 0 none).add 0) h fun x8 =>
 R (decide (x8 ≤ 5)) h)
 else
 (
 R false h)

def S_ref11_Section (p0_0 : Bool) (p0_1 : Sl) (p1 : Int) (h : Heap) (R : Int → Int → Int → Int → Heap → Prop) : Prop :=
 alc (.cells #[.bool p0_0, .slice p0_1.p p0_1.n p0_1.c] 117) h fun b2 h =>
 alc (.cells #[.int .i64 0, .int .i64 0, .int .i64 0, .int .i64 0] 171) h fun b4 h =>
 ldS ((Addr.mk b2 0 none).add 1) h fun x11 =>
 pm x11.p fun a13 =>
 0 ≤ p1 ∧ p1 < ((x11.n : Nat) : Int) ∧
 ldI .i64 ((a13.add (Int.toNat p1 * 3)).add 1) h fun x15 =>
 alc (.cells #[.int .i64 0, .int .i64 0, .int .i64 0, .int .i64 0] 171) h fun b5 h =>
 stF [.int .i64 p1, .int .i64 (IntKind.wrap .i64 (p1 + 1)), .int .i64 x15, .int .i64 0] h (Addr.mk b5 0 none) 0 fun h =>
 Lp (τ := Unit) (fun X2 s2 h => ∀ _ : Fr,
 ldI .i64 ((Addr.mk b5 0 none).add 1) h fun x18 =>
 ldS ((Addr.mk b2 0 none).add 1) h fun x20 =>
 if (decide (x18 < ((x20.n : Nat) : Int))) = true then
 (
 ldS ((Addr.mk b2 0 none).add 1) h fun x24 =>
 ldI .i64 ((Addr.mk b5 0 none).add 1) h fun x26 =>
 pm x24.p fun a27 =>
 0 ≤ x26 ∧ x26 < ((x24.n : Nat) : Int) ∧
 ldI .i64 ((a27.add (Int.toNat x26 * 3)).add 0) h fun x28_0 =>
 ldI .i64 ((a27.add (Int.toNat x26 * 3)).add 1) h fun x28_1 =>
 ldI .i64 ((a27.add (Int.toNat x26 * 3)).add 2) h fun x28_2 =>
 alc (.cells #[.int .i64 0, .int .i64 0, .int .i64 0] 168) h fun b6 h =>
 stF [.int .i64 x28_0, .int .i64 x28_1, .int .i64 x28_2] h (Addr.mk b6 0 none) 0 fun h =>
 jn (α := Unit) (fun K6 =>
 ldI .i64 ((Addr.mk b6 0 none).add 0) h fun x30 =>
 if (x30 == 11) = true then
 (
 ldI .i64 ((Addr.mk b5 0 none).add 0) h fun x44_0 =>
 ldI .i64 ((Addr.mk b5 0 none).add 1) h fun x44_1 =>
 ldI .i64 ((Addr.mk b5 0 none).add 2) h fun x44_2 =>
 ldI .i64 ((Addr.mk b5 0 none).add 3) h fun x44_3 =>
 stF [.int .i64 x44_0, .int .i64 x44_1, .int .i64 x44_2, .int .i64 x44_3] h (Addr.mk b4 0 none) 0 fun h =>
 ldI .i64 ((Addr.mk b4 0 none).add 0) h fun x9000_0 =>
 ldI .i64 ((Addr.mk b4 0 none).add 1) h fun x9000_1 =>
 ldI .i64 ((Addr.mk b4 0 none).add 2) h fun x9000_2 =>
 ldI .i64 ((Addr.mk b4 0 none).add 3) h fun x9000_3 =>
 R x9000_0 x9000_1 x9000_2 x9000_3 h)
 else
 (ldI .i64 ((Addr.mk b6 0 none).add 0) h fun x34 =>
 if (x34 == 6) = true then
 (ldI .i64 ((Addr.mk b6 0 none).add 1) h fun x38 =>
 ldI .i64 ((Addr.mk b5 0 none).add 2) h fun x40 =>
 if (x38 == x40) = true then
 (ldI .i64 ((Addr.mk b5 0 none).add 0) h fun x44_0 =>
 ldI .i64 ((Addr.mk b5 0 none).add 1) h fun x44_1 =>
 ldI .i64 ((Addr.mk b5 0 none).add 2) h fun x44_2 =>
 ldI .i64 ((Addr.mk b5 0 none).add 3) h fun x44_3 =>
 stF [.int .i64 x44_0, .int .i64 x44_1, .int .i64 x44_2, .int .i64 x44_3] h (Addr.mk b4 0 none) 0 fun h =>
 ldI .i64 ((Addr.mk b4 0 none).add 0) h fun x9000_0 =>
 ldI .i64 ((Addr.mk b4 0 none).add 1) h fun x9000_1 =>
 ldI .i64 ((Addr.mk b4 0 none).add 2) h fun x9000_2 =>
 ldI .i64 ((Addr.mk b4 0 none).add 3) h fun x9000_3 =>
 R x9000_0 x9000_1 x9000_2 x9000_3 h)
 else
 (K6 (()) h))
 else
 (
 K6 (()) h))) fun j6 h =>
 ldI .i64 ((Addr.mk b6 0 none).add 0) h fun x46 =>
 if (x46 == 1) = true then
 (ldI .i64 ((Addr.mk b5 0 none).add 3) h fun x49 =>
 ldI .i64 ((Addr.mk b6 0 none).add 1) h fun x51 =>
 st ((Addr.mk b5 0 none).add 3) (.int .i64 (IntKind.wrap .i64 (x49 + x51))) h fun h =>
 ldI .i64 ((Addr.mk b5 0 none).add 1) h fun x55 =>
 st ((Addr.mk b5 0 none).add 1) (.int .i64 (IntKind.wrap .i64 (x55 + 1))) h fun h =>
 X2 (()) h)
 else
 (
 ldI .i64 ((Addr.mk b5 0 none).add 1) h fun x55 =>
 st ((Addr.mk b5 0 none).add 1) (.int .i64 (IntKind.wrap .i64 (x55 + 1))) h fun h =>
 X2 (()) h))
 else
 (
 ldI .i64 ((Addr.mk b5 0 none).add 0) h fun x58_0 =>
 ldI .i64 ((Addr.mk b5 0 none).add 1) h fun x58_1 =>
 ldI .i64 ((Addr.mk b5 0 none).add 2) h fun x58_2 =>
 ldI .i64 ((Addr.mk b5 0 none).add 3) h fun x58_3 =>
 stF [.int .i64 x58_0, .int .i64 x58_1, .int .i64 x58_2, .int .i64 x58_3] h (Addr.mk b4 0 none) 0 fun h =>
 ldI .i64 ((Addr.mk b4 0 none).add 0) h fun x9000_0 =>
 ldI .i64 ((Addr.mk b4 0 none).add 1) h fun x9000_1 =>
 ldI .i64 ((Addr.mk b4 0 none).add 2) h fun x9000_2 =>
 ldI .i64 ((Addr.mk b4 0 none).add 3) h fun x9000_3 =>
 R x9000_0 x9000_1 x9000_2 x9000_3 h)) (()) h

def S_ref11_Check (p0_0 : Bool) (p0_1 : Sl) (p1 : Sl) (p2 : Int) (h : Heap) (R : Int → Int → Heap → Prop) : Prop :=
 alc (.cells #[.bool p0_0, .slice p0_1.p p0_1.n p0_1.c] 117) h fun b3 h =>
 ldB ((Addr.mk b3 0 none).add 0) h fun x12_0 =>
 ldS ((Addr.mk b3 0 none).add 1) h fun x12_1 =>
 C_ref10_May x12_0 x12_1 h fun x13 h =>
 if (!x13) = true then
 (
 R 0 1 h)
 else
 (
 Lp (τ := Bool × Int × Unit) (fun X5 s5 h => ∀ _ : Fr,
 ldS ((Addr.mk b3 0 none).add 1) h fun x17 =>
 if (decide (s5.2.1 < ((x17.n : Nat) : Int))) = true then
 (
 ldS ((Addr.mk b3 0 none).add 1) h fun x23 =>
 pm x23.p fun a25 =>
 0 ≤ s5.2.1 ∧ s5.2.1 < ((x23.n : Nat) : Int) ∧
 ldI .i64 ((a25.add (Int.toNat s5.2.1 * 3)).add 0) h fun x26_0 =>
 ldI .i64 ((a25.add (Int.toNat s5.2.1 * 3)).add 1) h fun x26_1 =>
 ldI .i64 ((a25.add (Int.toNat s5.2.1 * 3)).add 2) h fun x26_2 =>
 alc (.cells #[.int .i64 0, .int .i64 0, .int .i64 0] 168) h fun b10 h =>
 stF [.int .i64 x26_0, .int .i64 x26_1, .int .i64 x26_2] h (Addr.mk b10 0 none) 0 fun h =>
 jn (α := Bool × Unit) (fun K11 =>
 if s5.1 = true then
 (K11 (true, ()) h)
 else
 (ldI .i64 ((Addr.mk b10 0 none).add 0) h fun x30 =>
 if (x30 == 1) = true then
 (K11 (true, ()) h)
 else
 (ldI .i64 ((Addr.mk b10 0 none).add 0) h fun x35 =>
 if (x35 == 7) = true then
 (K11 (true, ()) h)
 else
 (ldI .i64 ((Addr.mk b10 0 none).add 0) h fun x40 =>
 if (x40 == 8) = true then
 (K11 (true, ()) h)
 else
 (ldI .i64 ((Addr.mk b10 0 none).add 0) h fun x45 =>
 K11 ((x45 == 11), ()) h))))) fun j11 h =>
 jn (α := Unit) (fun K12 =>
 ldI .i64 ((Addr.mk b10 0 none).add 0) h fun x48_0 =>
 ldI .i64 ((Addr.mk b10 0 none).add 1) h fun x48_1 =>
 ldI .i64 ((Addr.mk b10 0 none).add 2) h fun x48_2 =>
 C_ref11_takes x48_0 x48_1 x48_2 h fun x49 h =>
 if x49 = true then
 (ldI .i64 ((Addr.mk b10 0 none).add 1) h fun x57 =>
 if (decide (x57 ≥ ((p1.n : Nat) : Int))) = true then
 (
 R s5.2.1 4 h)
 else
 (ldI .i64 ((Addr.mk b10 0 none).add 0) h fun x64 =>
 if (x64 == 9) = true then
 (ldI .i64 ((Addr.mk b10 0 none).add 1) h fun x68 =>
 if (decide (x68 ≥ p2)) = true then
 (
 R s5.2.1 4 h)
 else
 (K12 (()) h))
 else
 (
 K12 (()) h)))
 else
 (ldI .i64 ((Addr.mk b10 0 none).add 0) h fun x52 =>
 if (x52 == 6) = true then
 (ldI .i64 ((Addr.mk b10 0 none).add 1) h fun x57 =>
 if (decide (x57 ≥ ((p1.n : Nat) : Int))) = true then
 (
 R s5.2.1 4 h)
 else
 (ldI .i64 ((Addr.mk b10 0 none).add 0) h fun x64 =>
 if (x64 == 9) = true then
 (ldI .i64 ((Addr.mk b10 0 none).add 1) h fun x68 =>
 if (decide (x68 ≥ p2)) = true then
 (
 R s5.2.1 4 h)
 else
 (K12 (()) h))
 else
 (
 K12 (()) h)))
 else
 (ldI .i64 ((Addr.mk b10 0 none).add 0) h fun x64 =>
 if (x64 == 9) = true then
 (ldI .i64 ((Addr.mk b10 0 none).add 1) h fun x68 =>
 if (decide (x68 ≥ p2)) = true then
 (
 R s5.2.1 4 h)
 else
 (K12 (()) h))
 else
 (
 K12 (()) h)))) fun j12 h =>
 jn (α := Unit) (fun K19 =>
 ldI .i64 ((Addr.mk b10 0 none).add 0) h fun x75 =>
 if (x75 == 3) = true then
 (ldI .i64 ((Addr.mk b10 0 none).add 1) h fun x80 =>
 pm p1.p fun a81 =>
 0 ≤ x80 ∧ x80 < ((p1.n : Nat) : Int) ∧
 ldB ((a81.add (Int.toNat x80 * 5)).add 0) h fun x83 =>
 if (!x83) = true then
 (
 R s5.2.1 1 h)
 else
 (K19 (()) h))
 else
 (
 K19 (()) h)) fun j19 h =>
 ldI .i64 ((Addr.mk b10 0 none).add 0) h fun x87_0 =>
 ldI .i64 ((Addr.mk b10 0 none).add 1) h fun x87_1 =>
 ldI .i64 ((Addr.mk b10 0 none).add 2) h fun x87_2 =>
 C_ref11_takes x87_0 x87_1 x87_2 h fun x88 h =>
 if x88 = true then
 (ldB ((Addr.mk b3 0 none).add 0) h fun x89_0 =>
 ldS ((Addr.mk b3 0 none).add 1) h fun x89_1 =>
 C_ref11_Section x89_0 x89_1 s5.2.1 h fun x91_0 x91_1 x91_2 x91_3 h =>
 alc (.cells #[.int .i64 0, .int .i64 0, .int .i64 0, .int .i64 0] 171) h fun b11 h =>
 stF [.int .i64 x91_0, .int .i64 x91_1, .int .i64 x91_2, .int .i64 x91_3] h (Addr.mk b11 0 none) 0 fun h =>
 ldI .i64 ((Addr.mk b11 0 none).add 3) h fun x93 =>
 if (decide (x93 < 1)) = true then
 (
 R s5.2.1 13 h)
 else
 (ldI .i64 ((Addr.mk b11 0 none).add 3) h fun x97 =>
 ldI .i64 ((Addr.mk b10 0 none).add 1) h fun x100 =>
 pm p1.p fun a101 =>
 0 ≤ x100 ∧ x100 < ((p1.n : Nat) : Int) ∧
 ldI .i64 ((a101.add (Int.toNat x100 * 5)).add 2) h fun x103 =>
 if (decide (x97 > x103)) = true then
 (
 R s5.2.1 13 h)
 else
 (ldB ((Addr.mk b3 0 none).add 0) h fun x108 =>
 if x108 = true then
 (ldI .i64 ((Addr.mk b11 0 none).add 1) h fun x111 =>
 ldS ((Addr.mk b3 0 none).add 1) h fun x113 =>
 if (x111 == ((x113.n : Nat) : Int)) = true then
 (
 R s5.2.1 13 h)
 else
 (
 X5 (j11.1, (IntKind.wrap .i64 (s5.2.1 + 1)), ()) h))
 else
 (
 X5 (j11.1, (IntKind.wrap .i64 (s5.2.1 + 1)), ()) h))))
 else
 (
 X5 (j11.1, (IntKind.wrap .i64 (s5.2.1 + 1)), ()) h))
 else
 (
 ldB ((Addr.mk b3 0 none).add 0) h fun x120 =>
 if x120 = true then
 (
 if (!s5.1) = true then
 (
 R 0 1 h)
 else
 (
 R 0 0 h))
 else
 (
 R 0 0 h))) (false, (0 : Int), ()) h)

def S_ref12_Parse (p0 : Sl) (p1 : Int) (h : Heap) (R : Int → Int → Sl → Sl → Sl → Int → Int → Heap → Prop) : Prop :=
 alc (.cells #[.int .i64 0, .int .i64 0, .slice none 0 0, .slice none 0 0, .slice none 0 0] 30) h fun b4 h =>
 if (decide (p1 < 0)) = true then
 (
 stF [.int .i64 0, .int .i64 0, .slice none 0 0, .slice none 0 0, .slice none 0 0] h (Addr.mk b4 0 none) 0 fun h =>
 ldI .i64 ((Addr.mk b4 0 none).add 0) h fun x9000_0 =>
 ldI .i64 ((Addr.mk b4 0 none).add 1) h fun x9000_1 =>
 ldS ((Addr.mk b4 0 none).add 2) h fun x9000_2 =>
 ldS ((Addr.mk b4 0 none).add 3) h fun x9000_3 =>
 ldS ((Addr.mk b4 0 none).add 4) h fun x9000_4 =>
 R x9000_0 x9000_1 x9000_2 x9000_3 x9000_4 0 5 h)
 else
 (
 if (decide (p1 > ((p0.n : Nat) : Int))) = true then
 (stF [.int .i64 0, .int .i64 0, .slice none 0 0, .slice none 0 0, .slice none 0 0] h (Addr.mk b4 0 none) 0 fun h =>
 ldI .i64 ((Addr.mk b4 0 none).add 0) h fun x9000_0 =>
 ldI .i64 ((Addr.mk b4 0 none).add 1) h fun x9000_1 =>
 ldS ((Addr.mk b4 0 none).add 2) h fun x9000_2 =>
 ldS ((Addr.mk b4 0 none).add 3) h fun x9000_3 =>
 ldS ((Addr.mk b4 0 none).add 4) h fun x9000_4 =>
 R x9000_0 x9000_1 x9000_2 x9000_3 x9000_4 0 5 h)
 else
 (
 alc (.cells #[.slice p0.p p0.n p0.c, .int .i64 p1, .int .i64 0] 157) h fun b29 h =>
 alc (.cells #[.int .i64 0, .int .i64 0, .slice none 0 0, .slice none 0 0, .slice none 0 0] 30) h fun b8 h =>
 stF [.int .i64 0, .int .i64 0, .slice none 0 0, .slice none 0 0, .slice none 0 0] h (Addr.mk b8 0 none) 0 fun h =>
 C_ref12_Read_field (some (Addr.mk b29 0 none)) ⟨#[99, 111, 114, 101, 115]⟩ 4 h fun x32 h =>
 st ((Addr.mk b8 0 none).add 0) (.int .i64 x32) h fun h =>
 C_ref12_Read_need (some (Addr.mk b29 0 none)) 3 ⟨#[59]⟩ h fun h =>
 C_ref12_Read_field (some (Addr.mk b29 0 none)) ⟨#[103, 114, 97, 105, 110]⟩ 8 h fun x37 h =>
 st ((Addr.mk b8 0 none).add 1) (.int .i64 x37) h fun h =>
 C_ref12_Read_need (some (Addr.mk b29 0 none)) 3 ⟨#[59]⟩ h fun h =>
 jn (α := Unit) (fun K11 =>
 Lp (τ := Unit) (fun X9 s9 h => ∀ _ : Fr,
 jn (α := Unit) (fun K12 =>
 C_ref12_Read_is (some (Addr.mk b29 0 none)) 1 ⟨#[103, 114, 111, 117, 112]⟩ h fun x42 h =>
 if x42 = true then
 (
 K12 (()) h)
 else
 (ldS ((Addr.mk b8 0 none).add 2) h fun x45 =>
 if (((x45.n : Nat) : Int) == 0) = true then
 (ldI .i64 ((Addr.mk b29 0 none).add 2) h fun x52 =>
 if (x52 == 0) = true then
 (K12 (()) h)
 else
 (K11 (()) h))
 else
 (
 K11 (()) h))) fun j12 h =>
 jn (α := Unit) (fun K14 =>
 C_ref12_Read_is (some (Addr.mk b29 0 none)) 1 ⟨#[103, 114, 111, 117, 112]⟩ h fun x57 h =>
 if x57 = true then
 (ldS ((Addr.mk b8 0 none).add 2) h fun x61 =>
 C_ref12_Read_long (some (Addr.mk b29 0 none)) ((x61.n : Nat) : Int) 4 h fun x63 h =>
 if x63 = true then
 (K11 (()) h)
 else
 (K14 (()) h))
 else
 (
 K14 (()) h)) fun j14 h =>
 ldS ((Addr.mk b8 0 none).add 2) h fun x66 =>
 C_ref12_Read_field (some (Addr.mk b29 0 none)) ⟨#[103, 114, 111, 117, 112]⟩ 16 h fun x68 h =>
 cell h ((Addr.mk b8 0 none).add 2) = some (.slice x66.p x66.n x66.c) ∧
 alc (.cells #[.int .i64 x68] 3) h fun b69 h =>
 cell h ((Addr.mk b8 0 none).add 2) = some (.slice x66.p x66.n x66.c) ∧
 appW 3 1 8 (.int .i64 0) x66 (Sl.mk (some (Addr.mk b69 0 none)) 1 1) h fun x70 h =>
 st ((Addr.mk b8 0 none).add 2) (.slice x70.p x70.n x70.c) h fun h =>
 C_ref12_Read_need (some (Addr.mk b29 0 none)) 3 ⟨#[59]⟩ h fun h =>
 X9 (()) h) (()) h) fun j11 h =>
 jn (α := Unit) (fun K17 =>
 Lp (τ := Unit) (fun X13 s13 h => ∀ _ : Fr,
 jn (α := Unit) (fun K18 =>
 C_ref12_Read_is (some (Addr.mk b29 0 none)) 1 ⟨#[108, 111, 99, 107]⟩ h fun x75 h =>
 if x75 = true then
 (
 K18 (()) h)
 else
 (C_ref12_Read_is (some (Addr.mk b29 0 none)) 1 ⟨#[115, 104, 97, 114, 101, 100]⟩ h fun x78 h =>
 if x78 = true then
 (K18 (()) h)
 else
 (K17 (()) h))) fun j18 h =>
 ldS ((Addr.mk b8 0 none).add 3) h fun x82 =>
 C_ref12_Read_long (some (Addr.mk b29 0 none)) ((x82.n : Nat) : Int) 8 h fun x84 h =>
 if x84 = true then
 (K17 (()) h)
 else
 (
 C_ref12_Read_is (some (Addr.mk b29 0 none)) 1 ⟨#[115, 104, 97, 114, 101, 100]⟩ h fun x86 h =>
 ldI .i64 ((Addr.mk b29 0 none).add 1) h fun x90 =>
 st ((Addr.mk b29 0 none).add 1) (.int .i64 (IntKind.wrap .i64 (x90 + 1))) h fun h =>
 ldS ((Addr.mk b8 0 none).add 3) h fun x95 =>
 C_ref12_Read_lock (some (Addr.mk b29 0 none)) x86 h fun x98_0 x98_1 x98_2 x98_3 x98_4 h =>
 cell h ((Addr.mk b8 0 none).add 3) = some (.slice x95.p x95.n x95.c) ∧
 alc (.cells #[.bool x98_0, .int .i64 x98_1, .int .i64 x98_2, .int .i64 x98_3, .int .i64 x98_4] 83) h fun b99 h =>
 cell h ((Addr.mk b8 0 none).add 3) = some (.slice x95.p x95.n x95.c) ∧
 appW 83 5 40 (.agg #[.bool false, .int .i64 0, .int .i64 0, .int .i64 0, .int .i64 0]) x95 (Sl.mk (some (Addr.mk b99 0 none)) 1 1) h fun x100 h =>
 st ((Addr.mk b8 0 none).add 3) (.slice x100.p x100.n x100.c) h fun h =>
 X13 (()) h)) (()) h) fun j17 h =>
 jn (α := Sl × Unit) (fun K25 =>
 Lp (τ := Sl × Unit) (fun X19 s19 h => ∀ _ : Fr,
 jn (α := Unit) (fun K26 =>
 C_ref12_Read_is (some (Addr.mk b29 0 none)) 1 ⟨#[112, 114, 111, 103]⟩ h fun x103 h =>
 if x103 = true then
 (
 K26 (()) h)
 else
 (ldS ((Addr.mk b8 0 none).add 4) h fun x106 =>
 if (((x106.n : Nat) : Int) == 0) = true then
 (ldI .i64 ((Addr.mk b29 0 none).add 2) h fun x113 =>
 if (x113 == 0) = true then
 (K26 (()) h)
 else
 (K25 (s19.1, ()) h))
 else
 (
 K25 (s19.1, ()) h))) fun j26 h =>
 ldS ((Addr.mk b8 0 none).add 4) h fun x119 =>
 C_ref12_Read_long (some (Addr.mk b29 0 none)) ((x119.n : Nat) : Int) 8 h fun x121 h =>
 if x121 = true then
 (K25 (s19.1, ()) h)
 else
 (
 ldI .i64 ((Addr.mk b29 0 none).add 1) h fun x126 =>
 alc (.cells #[.int .i64 x126] 3) h fun b127 h =>
 appW 3 1 8 (.int .i64 0) s19.1 (Sl.mk (some (Addr.mk b127 0 none)) 1 1) h fun x128 h =>
 ldI .i64 ((Addr.mk b29 0 none).add 1) h fun x134 =>
 C_ref10_Parse p0 x134 h fun x135a_0 x135a_1 x135b x135c h =>
 alc (.cells #[.bool false, .slice none 0 0] 117) h fun b11 h =>
 stF [.bool x135a_0, .slice x135a_1.p x135a_1.n x135a_1.c] h (Addr.mk b11 0 none) 0 fun h =>
 ldS ((Addr.mk b8 0 none).add 4) h fun x140 =>
 ldB ((Addr.mk b11 0 none).add 0) h fun x141_0 =>
 ldS ((Addr.mk b11 0 none).add 1) h fun x141_1 =>
 alc (.cells #[.bool x141_0, .slice x141_1.p x141_1.n x141_1.c] 117) h fun b142 h =>
 appW 117 2 32 (.agg #[.bool false, .slice none 0 0]) x140 (Sl.mk (some (Addr.mk b142 0 none)) 1 1) h fun x143 h =>
 st ((Addr.mk b8 0 none).add 4) (.slice x143.p x143.n x143.c) h fun h =>
 st ((Addr.mk b29 0 none).add 1) (.int .i64 x135b) h fun h =>
 st ((Addr.mk b29 0 none).add 2) (.int .i64 x135c) h fun h =>
 X19 (x128, ()) h)) (((Sl.mk none 0 0) : Sl), ()) h) fun j25 h =>
 ldI .i64 ((Addr.mk b29 0 none).add 2) h fun x156 =>
 if (x156 != 0) = true then
 (ldI .i64 ((Addr.mk b29 0 none).add 1) h fun x162 =>
 ldI .i64 ((Addr.mk b29 0 none).add 2) h fun x166 =>
 stF [.int .i64 0, .int .i64 0, .slice none 0 0, .slice none 0 0, .slice none 0 0] h (Addr.mk b4 0 none) 0 fun h =>
 cell h ((Addr.mk b29 0 none).add 2) = some (.int .i64 x166) ∧
 cell h ((Addr.mk b29 0 none).add 1) = some (.int .i64 x162) ∧
 ldI .i64 ((Addr.mk b4 0 none).add 0) h fun x9000_0 =>
 ldI .i64 ((Addr.mk b4 0 none).add 1) h fun x9000_1 =>
 ldS ((Addr.mk b4 0 none).add 2) h fun x9000_2 =>
 ldS ((Addr.mk b4 0 none).add 3) h fun x9000_3 =>
 ldS ((Addr.mk b4 0 none).add 4) h fun x9000_4 =>
 R x9000_0 x9000_1 x9000_2 x9000_3 x9000_4 x162 x166 h)
 else
 (
 Lp (τ := Int × Unit) (fun X29 s29 h => ∀ _ : Fr,
 ldS ((Addr.mk b8 0 none).add 4) h fun x169 =>
 if (decide (s29.1 < ((x169.n : Nat) : Int))) = true then
 (
 ldS ((Addr.mk b8 0 none).add 4) h fun x176 =>
 pm x176.p fun a178 =>
 0 ≤ s29.1 ∧ s29.1 < ((x176.n : Nat) : Int) ∧
 ldB ((a178.add (Int.toNat s29.1 * 2)).add 0) h fun x179_0 =>
 ldS ((a178.add (Int.toNat s29.1 * 2)).add 1) h fun x179_1 =>
 ldS ((Addr.mk b8 0 none).add 3) h fun x181 =>
 ldS ((Addr.mk b8 0 none).add 4) h fun x183 =>
 C_ref11_Check x179_0 x179_1 x181 ((x183.n : Nat) : Int) h fun x185a x185b h =>
 cell h ((Addr.mk b8 0 none).add 4) = some (.slice x183.p x183.n x183.c) ∧
 cell h ((Addr.mk b8 0 none).add 4) = some (.slice x176.p x176.n x176.c) ∧
 if (x185b != 0) = true then
 (pm j25.1.p fun a193 =>
 0 ≤ s29.1 ∧ s29.1 < ((j25.1.n : Nat) : Int) ∧
 ldI .i64 (a193.add (Int.toNat s29.1 * 1)) h fun x194 =>
 stF [.int .i64 0, .int .i64 0, .slice none 0 0, .slice none 0 0, .slice none 0 0] h (Addr.mk b4 0 none) 0 fun h =>
 cell h (a193.add (Int.toNat s29.1 * 1)) = some (.int .i64 x194) ∧
 ldI .i64 ((Addr.mk b4 0 none).add 0) h fun x9000_0 =>
 ldI .i64 ((Addr.mk b4 0 none).add 1) h fun x9000_1 =>
 ldS ((Addr.mk b4 0 none).add 2) h fun x9000_2 =>
 ldS ((Addr.mk b4 0 none).add 3) h fun x9000_3 =>
 ldS ((Addr.mk b4 0 none).add 4) h fun x9000_4 =>
 R x9000_0 x9000_1 x9000_2 x9000_3 x9000_4 x194 x185b h)
 else
 (
 X29 ((IntKind.wrap .i64 (s29.1 + 1)), ()) h))
 else
 (
 ldI .i64 ((Addr.mk b8 0 none).add 0) h fun x196_0 =>
 ldI .i64 ((Addr.mk b8 0 none).add 1) h fun x196_1 =>
 ldS ((Addr.mk b8 0 none).add 2) h fun x196_2 =>
 ldS ((Addr.mk b8 0 none).add 3) h fun x196_3 =>
 ldS ((Addr.mk b8 0 none).add 4) h fun x196_4 =>
 ldI .i64 ((Addr.mk b29 0 none).add 1) h fun x200 =>
 stF [.int .i64 x196_0, .int .i64 x196_1, .slice x196_2.p x196_2.n x196_2.c, .slice x196_3.p x196_3.n x196_3.c, .slice x196_4.p x196_4.n x196_4.c] h (Addr.mk b4 0 none) 0 fun h =>
 cell h ((Addr.mk b29 0 none).add 1) = some (.int .i64 x200) ∧
 ldI .i64 ((Addr.mk b4 0 none).add 0) h fun x9000_0 =>
 ldI .i64 ((Addr.mk b4 0 none).add 1) h fun x9000_1 =>
 ldS ((Addr.mk b4 0 none).add 2) h fun x9000_2 =>
 ldS ((Addr.mk b4 0 none).add 3) h fun x9000_3 =>
 ldS ((Addr.mk b4 0 none).add 4) h fun x9000_4 =>
 R x9000_0 x9000_1 x9000_2 x9000_3 x9000_4 x200 0 h)) ((0 : Int), ()) h)))

def S_ref14_place (p0 : ByteArray) (p1 : Sl) (p2 : Int) (h : Heap) (R : Int → Heap → Prop) : Prop :=
 if (decide (p2 < ((p1.n : Nat) : Int))) = true then
 (pm p1.p fun a13 =>
 0 ≤ p2 ∧ p2 < ((p1.n : Nat) : Int) ∧
 ldI .i64 ((a13.add (Int.toNat p2 * 4)).add 3) h fun x15 =>
 R x15 h)
 else
 (
 R (p0.size : Int) h)

def S_ref13_Name (p0 : Int) (h : Heap) (R : ByteArray → Heap → Prop) : Prop :=
 alc (.cells #[.string ⟨#[]⟩, .string ⟨#[116, 105, 99, 107]⟩, .string ⟨#[102, 105, 114, 101]⟩, .string ⟨#[98, 97, 108, 97, 110, 99, 101]⟩, .string ⟨#[115, 112, 97, 119, 110]⟩, .string ⟨#[107, 105, 108, 108]⟩, .string ⟨#[103, 114, 111, 117, 112]⟩, .string ⟨#[109, 111, 118, 101]⟩, .string ⟨#[114, 111, 117, 110, 100]⟩] 9) h fun b4 h =>
 if (decide (p0 < 0)) = true then
 (
 R ⟨#[]⟩ h)
 else
 (
 if (decide (p0 > 8)) = true then
 (
 R ⟨#[]⟩ h)
 else
 (
 0 ≤ p0 ∧ p0 < (9 : Int) ∧
 ldStr ((Addr.mk b4 0 none).add (Int.toNat p0 * 1)) h fun x14 =>
 R x14 h))

def S_ref13_Many (p0 : Int) (h : Heap) (R : Int → Heap → Prop) : Prop :=
 alc (.cells #[.int .i64 0, .int .i64 1, .int .i64 0, .int .i64 0, .int .i64 4, .int .i64 1, .int .i64 2, .int .i64 2, .int .i64 1] 3) h fun b4 h =>
 0 ≤ p0 ∧ p0 < (9 : Int) ∧
 ldI .i64 ((Addr.mk b4 0 none).add (Int.toNat p0 * 1)) h fun x8 =>
 R x8 h

def S_ref13_put (p0_0 : Int) (p0_1 : Int) (p0_2 : Int) (p0_3 : Int) (p0_4 : Int) (p1 : Int) (p2 : Int) (h : Heap) (R : Int → Int → Int → Int → Int → Heap → Prop) : Prop :=
 alc (.cells #[.int .i64 p0_0, .int .i64 p0_1, .int .i64 p0_2, .int .i64 p0_3, .int .i64 p0_4] 37) h fun b3 h =>
 alc (.cells #[.int .i64 0, .int .i64 0, .int .i64 0, .int .i64 0, .int .i64 0] 37) h fun b6 h =>
 if (p1 == 0) = true then
 (st ((Addr.mk b3 0 none).add 1) (.int .i64 p2) h fun h =>
 ldI .i64 ((Addr.mk b3 0 none).add 0) h fun x21_0 =>
 ldI .i64 ((Addr.mk b3 0 none).add 1) h fun x21_1 =>
 ldI .i64 ((Addr.mk b3 0 none).add 2) h fun x21_2 =>
 ldI .i64 ((Addr.mk b3 0 none).add 3) h fun x21_3 =>
 ldI .i64 ((Addr.mk b3 0 none).add 4) h fun x21_4 =>
 stF [.int .i64 x21_0, .int .i64 x21_1, .int .i64 x21_2, .int .i64 x21_3, .int .i64 x21_4] h (Addr.mk b6 0 none) 0 fun h =>
 ldI .i64 ((Addr.mk b6 0 none).add 0) h fun x9000_0 =>
 ldI .i64 ((Addr.mk b6 0 none).add 1) h fun x9000_1 =>
 ldI .i64 ((Addr.mk b6 0 none).add 2) h fun x9000_2 =>
 ldI .i64 ((Addr.mk b6 0 none).add 3) h fun x9000_3 =>
 ldI .i64 ((Addr.mk b6 0 none).add 4) h fun x9000_4 =>
 R x9000_0 x9000_1 x9000_2 x9000_3 x9000_4 h)
 else
 (
 if (p1 == 1) = true then
 (st ((Addr.mk b3 0 none).add 2) (.int .i64 p2) h fun h =>
 ldI .i64 ((Addr.mk b3 0 none).add 0) h fun x21_0 =>
 ldI .i64 ((Addr.mk b3 0 none).add 1) h fun x21_1 =>
 ldI .i64 ((Addr.mk b3 0 none).add 2) h fun x21_2 =>
 ldI .i64 ((Addr.mk b3 0 none).add 3) h fun x21_3 =>
 ldI .i64 ((Addr.mk b3 0 none).add 4) h fun x21_4 =>
 stF [.int .i64 x21_0, .int .i64 x21_1, .int .i64 x21_2, .int .i64 x21_3, .int .i64 x21_4] h (Addr.mk b6 0 none) 0 fun h =>
 ldI .i64 ((Addr.mk b6 0 none).add 0) h fun x9000_0 =>
 ldI .i64 ((Addr.mk b6 0 none).add 1) h fun x9000_1 =>
 ldI .i64 ((Addr.mk b6 0 none).add 2) h fun x9000_2 =>
 ldI .i64 ((Addr.mk b6 0 none).add 3) h fun x9000_3 =>
 ldI .i64 ((Addr.mk b6 0 none).add 4) h fun x9000_4 =>
 R x9000_0 x9000_1 x9000_2 x9000_3 x9000_4 h)
 else
 (
 if (p1 == 2) = true then
 (st ((Addr.mk b3 0 none).add 3) (.int .i64 p2) h fun h =>
 ldI .i64 ((Addr.mk b3 0 none).add 0) h fun x21_0 =>
 ldI .i64 ((Addr.mk b3 0 none).add 1) h fun x21_1 =>
 ldI .i64 ((Addr.mk b3 0 none).add 2) h fun x21_2 =>
 ldI .i64 ((Addr.mk b3 0 none).add 3) h fun x21_3 =>
 ldI .i64 ((Addr.mk b3 0 none).add 4) h fun x21_4 =>
 stF [.int .i64 x21_0, .int .i64 x21_1, .int .i64 x21_2, .int .i64 x21_3, .int .i64 x21_4] h (Addr.mk b6 0 none) 0 fun h =>
 ldI .i64 ((Addr.mk b6 0 none).add 0) h fun x9000_0 =>
 ldI .i64 ((Addr.mk b6 0 none).add 1) h fun x9000_1 =>
 ldI .i64 ((Addr.mk b6 0 none).add 2) h fun x9000_2 =>
 ldI .i64 ((Addr.mk b6 0 none).add 3) h fun x9000_3 =>
 ldI .i64 ((Addr.mk b6 0 none).add 4) h fun x9000_4 =>
 R x9000_0 x9000_1 x9000_2 x9000_3 x9000_4 h)
 else
 (st ((Addr.mk b3 0 none).add 4) (.int .i64 p2) h fun h =>
 ldI .i64 ((Addr.mk b3 0 none).add 0) h fun x21_0 =>
 ldI .i64 ((Addr.mk b3 0 none).add 1) h fun x21_1 =>
 ldI .i64 ((Addr.mk b3 0 none).add 2) h fun x21_2 =>
 ldI .i64 ((Addr.mk b3 0 none).add 3) h fun x21_3 =>
 ldI .i64 ((Addr.mk b3 0 none).add 4) h fun x21_4 =>
 stF [.int .i64 x21_0, .int .i64 x21_1, .int .i64 x21_2, .int .i64 x21_3, .int .i64 x21_4] h (Addr.mk b6 0 none) 0 fun h =>
 ldI .i64 ((Addr.mk b6 0 none).add 0) h fun x9000_0 =>
 ldI .i64 ((Addr.mk b6 0 none).add 1) h fun x9000_1 =>
 ldI .i64 ((Addr.mk b6 0 none).add 2) h fun x9000_2 =>
 ldI .i64 ((Addr.mk b6 0 none).add 3) h fun x9000_3 =>
 ldI .i64 ((Addr.mk b6 0 none).add 4) h fun x9000_4 =>
 R x9000_0 x9000_1 x9000_2 x9000_3 x9000_4 h)))

def S_ref13_Parse (p0 : Sl) (p1 : Int) (h : Heap) (R : Sl → Int → Int → Heap → Prop) : Prop :=
 if (decide (p1 < 0)) = true then
 (
 R (Sl.mk none 0 0) 0 5 h)
 else
 (
 if (decide (p1 > ((p0.n : Nat) : Int))) = true then
 (
 R (Sl.mk none 0 0) 0 5 h)
 else
 (
 Lp (τ := Int × Sl × Unit) (fun X4 s4 h => ∀ _ : Fr,
 if (decide (s4.1 < ((p0.n : Nat) : Int))) = true then
 (
 Lp (τ := Int × Int × Unit) (fun X7 s7 h => ∀ _ : Fr,
 if (decide (s7.2.1 ≤ 8)) = true then
 (
 pm p0.p fun a30 =>
 0 ≤ s4.1 ∧ s4.1 < ((p0.n : Nat) : Int) ∧
 ldI .i64 ((a30.add (Int.toNat s4.1 * 4)).add 0) h fun x32 =>
 if (x32 == 1) = true then
 (pm p0.p fun a37 =>
 0 ≤ s4.1 ∧ s4.1 < ((p0.n : Nat) : Int) ∧
 ldStr ((a37.add (Int.toNat s4.1 * 4)).add 1) h fun x39 =>
 C_ref13_Name s7.2.1 h fun x41 h =>
 cell h ((a37.add (Int.toNat s4.1 * 4)).add 1) = some (.string x39) ∧
 cell h ((a30.add (Int.toNat s4.1 * 4)).add 0) = some (.int .i64 x32) ∧
 if (x39.toList == x41.toList) = true then
 (
 X7 (s7.2.1, (IntKind.wrap .i64 (s7.2.1 + 1)), ()) h)
 else
 (
 X7 (s7.1, (IntKind.wrap .i64 (s7.2.1 + 1)), ()) h))
 else
 (
 X7 (s7.1, (IntKind.wrap .i64 (s7.2.1 + 1)), ()) h))
 else
 (
 if (s7.1 == 0) = true then
 (
 R (Sl.mk none 0 0) s4.1 5 h)
 else
 (
 if (((s4.2.1.n : Nat) : Int) == 4000) = true then
 (
 R (Sl.mk none 0 0) s4.1 6 h)
 else
 (
 alc (.cells #[.int .i64 0, .int .i64 0, .int .i64 0, .int .i64 0, .int .i64 0] 37) h fun b10 h =>
 stF [.int .i64 s7.1, .int .i64 0, .int .i64 0, .int .i64 0, .int .i64 0] h (Addr.mk b10 0 none) 0 fun h =>
 Lp (τ := Int × Int × Unit) (fun X18 s18 h => ∀ _ : Fr,
 C_ref13_Many s7.1 h fun x58 h =>
 if (decide (s18.2.1 < x58)) = true then
 (
 if (decide (s18.1 ≥ ((p0.n : Nat) : Int))) = true then
 (
 R (Sl.mk none 0 0) s18.1 5 h)
 else
 (pm p0.p fun a69 =>
 0 ≤ s18.1 ∧ s18.1 < ((p0.n : Nat) : Int) ∧
 ldI .i64 ((a69.add (Int.toNat s18.1 * 4)).add 0) h fun x71 =>
 if (x71 != 2) = true then
 (
 R (Sl.mk none 0 0) s18.1 5 h)
 else
 (
 ldI .i64 ((Addr.mk b10 0 none).add 0) h fun x75_0 =>
 ldI .i64 ((Addr.mk b10 0 none).add 1) h fun x75_1 =>
 ldI .i64 ((Addr.mk b10 0 none).add 2) h fun x75_2 =>
 ldI .i64 ((Addr.mk b10 0 none).add 3) h fun x75_3 =>
 ldI .i64 ((Addr.mk b10 0 none).add 4) h fun x75_4 =>
 pm p0.p fun a79 =>
 0 ≤ s18.1 ∧ s18.1 < ((p0.n : Nat) : Int) ∧
 ldI .i64 ((a79.add (Int.toNat s18.1 * 4)).add 2) h fun x81 =>
 C_ref13_put x75_0 x75_1 x75_2 x75_3 x75_4 s18.2.1 x81 h fun x82_0 x82_1 x82_2 x82_3 x82_4 h =>
 stF [.int .i64 x82_0, .int .i64 x82_1, .int .i64 x82_2, .int .i64 x82_3, .int .i64 x82_4] h (Addr.mk b10 0 none) 0 fun h =>
 X18 ((IntKind.wrap .i64 (s18.1 + 1)), (IntKind.wrap .i64 (s18.2.1 + 1)), ()) h)))
 else
 (
 if (decide (s18.1 ≥ ((p0.n : Nat) : Int))) = true then
 (
 R (Sl.mk none 0 0) s18.1 5 h)
 else
 (pm p0.p fun a92 =>
 0 ≤ s18.1 ∧ s18.1 < ((p0.n : Nat) : Int) ∧
 ldI .i64 ((a92.add (Int.toNat s18.1 * 4)).add 0) h fun x94 =>
 if (x94 != 3) = true then
 (
 R (Sl.mk none 0 0) s18.1 5 h)
 else
 (pm p0.p fun a100 =>
 0 ≤ s18.1 ∧ s18.1 < ((p0.n : Nat) : Int) ∧
 ldStr ((a100.add (Int.toNat s18.1 * 4)).add 1) h fun x102 =>
 if (!(x102.toList == (⟨#[59]⟩ : ByteArray).toList)) = true then
 (
 R (Sl.mk none 0 0) s18.1 5 h)
 else
 (
 ldI .i64 ((Addr.mk b10 0 none).add 0) h fun x109_0 =>
 ldI .i64 ((Addr.mk b10 0 none).add 1) h fun x109_1 =>
 ldI .i64 ((Addr.mk b10 0 none).add 2) h fun x109_2 =>
 ldI .i64 ((Addr.mk b10 0 none).add 3) h fun x109_3 =>
 ldI .i64 ((Addr.mk b10 0 none).add 4) h fun x109_4 =>
 alc (.cells #[.int .i64 x109_0, .int .i64 x109_1, .int .i64 x109_2, .int .i64 x109_3, .int .i64 x109_4] 37) h fun b110 h =>
 appW 37 5 40 (.agg #[.int .i64 0, .int .i64 0, .int .i64 0, .int .i64 0, .int .i64 0]) s4.2.1 (Sl.mk (some (Addr.mk b110 0 none)) 1 1) h fun x111 h =>
 X4 ((IntKind.wrap .i64 (s18.1 + 1)), x111, ()) h))))) (((IntKind.wrap .i64 (s4.1 + 1)) : Int), (0 : Int), ()) h)))) ((0 : Int), (1 : Int), ()) h)
 else
 (
 R s4.2.1 s4.1 0 h)) ((p1 : Int), ((Sl.mk none 0 0) : Sl), ()) h))

def S_ref14_Parse (p0 : ByteArray) (h : Heap) (R : Int → Int → Sl → Sl → Sl → Sl → Int → Int → Heap → Prop) : Prop :=
 alc (.cells #[.int .i64 0, .int .i64 0, .slice none 0 0, .slice none 0 0, .slice none 0 0, .slice none 0 0] 75) h fun b2 h =>
 C_ref09_Scan p0 h fun x13a x13b x13c h =>
 if (x13c != 0) = true then
 (stF [.int .i64 0, .int .i64 0, .slice none 0 0, .slice none 0 0, .slice none 0 0, .slice none 0 0] h (Addr.mk b2 0 none) 0 fun h =>
 ldI .i64 ((Addr.mk b2 0 none).add 0) h fun x9000_0 =>
 ldI .i64 ((Addr.mk b2 0 none).add 1) h fun x9000_1 =>
 ldS ((Addr.mk b2 0 none).add 2) h fun x9000_2 =>
 ldS ((Addr.mk b2 0 none).add 3) h fun x9000_3 =>
 ldS ((Addr.mk b2 0 none).add 4) h fun x9000_4 =>
 ldS ((Addr.mk b2 0 none).add 5) h fun x9000_5 =>
 R x9000_0 x9000_1 x9000_2 x9000_3 x9000_4 x9000_5 x13b x13c h)
 else
 (
 C_ref12_Parse x13a 0 h fun x24a_0 x24a_1 x24a_2 x24a_3 x24a_4 x24b x24c h =>
 alc (.cells #[.int .i64 0, .int .i64 0, .slice none 0 0, .slice none 0 0, .slice none 0 0] 30) h fun b8 h =>
 stF [.int .i64 x24a_0, .int .i64 x24a_1, .slice x24a_2.p x24a_2.n x24a_2.c, .slice x24a_3.p x24a_3.n x24a_3.c, .slice x24a_4.p x24a_4.n x24a_4.c] h (Addr.mk b8 0 none) 0 fun h =>
 if (x24c != 0) = true then
 (C_ref14_place p0 x13a x24b h fun x34 h =>
 stF [.int .i64 0, .int .i64 0, .slice none 0 0, .slice none 0 0, .slice none 0 0, .slice none 0 0] h (Addr.mk b2 0 none) 0 fun h =>
 ldI .i64 ((Addr.mk b2 0 none).add 0) h fun x9000_0 =>
 ldI .i64 ((Addr.mk b2 0 none).add 1) h fun x9000_1 =>
 ldS ((Addr.mk b2 0 none).add 2) h fun x9000_2 =>
 ldS ((Addr.mk b2 0 none).add 3) h fun x9000_3 =>
 ldS ((Addr.mk b2 0 none).add 4) h fun x9000_4 =>
 ldS ((Addr.mk b2 0 none).add 5) h fun x9000_5 =>
 R x9000_0 x9000_1 x9000_2 x9000_3 x9000_4 x9000_5 x34 x24c h)
 else
 (
 C_ref13_Parse x13a x24b h fun x39a x39b x39c h =>
 if (x39c != 0) = true then
 (C_ref14_place p0 x13a x39b h fun x49 h =>
 stF [.int .i64 0, .int .i64 0, .slice none 0 0, .slice none 0 0, .slice none 0 0, .slice none 0 0] h (Addr.mk b2 0 none) 0 fun h =>
 ldI .i64 ((Addr.mk b2 0 none).add 0) h fun x9000_0 =>
 ldI .i64 ((Addr.mk b2 0 none).add 1) h fun x9000_1 =>
 ldS ((Addr.mk b2 0 none).add 2) h fun x9000_2 =>
 ldS ((Addr.mk b2 0 none).add 3) h fun x9000_3 =>
 ldS ((Addr.mk b2 0 none).add 4) h fun x9000_4 =>
 ldS ((Addr.mk b2 0 none).add 5) h fun x9000_5 =>
 R x9000_0 x9000_1 x9000_2 x9000_3 x9000_4 x9000_5 x49 x39c h)
 else
 (
 ldI .i64 ((Addr.mk b8 0 none).add 0) h fun x51_0 =>
 ldI .i64 ((Addr.mk b8 0 none).add 1) h fun x51_1 =>
 ldS ((Addr.mk b8 0 none).add 2) h fun x51_2 =>
 ldS ((Addr.mk b8 0 none).add 3) h fun x51_3 =>
 ldS ((Addr.mk b8 0 none).add 4) h fun x51_4 =>
 stF [.int .i64 x51_0, .int .i64 x51_1, .slice x51_2.p x51_2.n x51_2.c, .slice x51_3.p x51_3.n x51_3.c, .slice x51_4.p x51_4.n x51_4.c, .slice x39a.p x39a.n x39a.c] h (Addr.mk b2 0 none) 0 fun h =>
 ldI .i64 ((Addr.mk b2 0 none).add 0) h fun x9000_0 =>
 ldI .i64 ((Addr.mk b2 0 none).add 1) h fun x9000_1 =>
 ldS ((Addr.mk b2 0 none).add 2) h fun x9000_2 =>
 ldS ((Addr.mk b2 0 none).add 3) h fun x9000_3 =>
 ldS ((Addr.mk b2 0 none).add 4) h fun x9000_4 =>
 ldS ((Addr.mk b2 0 none).add 5) h fun x9000_5 =>
 R x9000_0 x9000_1 x9000_2 x9000_3 x9000_4 x9000_5 0 0 h)))

end Go.Proofs.YtbkjeahmbnkmeaaGreat
