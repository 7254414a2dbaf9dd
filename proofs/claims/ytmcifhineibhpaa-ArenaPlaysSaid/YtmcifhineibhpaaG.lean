/- The second reading of functions of this seat's program, written out by a program (gen.py). -/
import Derived.Test.YtmcifhineibhpaaLw
import Derived.KernelRfl
namespace Go.Proofs.Ytmcifhineibhpaa
open Go Go.Lw


theorem wide_ok : Try.prog.follows .mixedOrders = true := by kernel_rfl

def S_law7_ArenaKeeps_l0 (sizes0p : Option Addr) (sizes0l : Nat) (R : Ending → World → Prop) (r1 : Option Addr) (k0 : Option Addr → Nat → Nat → Option Addr → Nat → Nat → Option Addr → Nat → Nat → World → Prop) (at0p : Option Addr) (at0l : Nat) (at0c : Nat) (want0p : Option Addr) (want0l : Nat) (want0c : Nat) (marks0p : Option Addr) (marks0l : Nat) (marks0c : Nat) (i0 : Int) (w2 : World) (I0 : Option Addr → Nat → Nat → Option Addr → Nat → Nat → Option Addr → Nat → Nat → Int → World → Prop) (M0 : Option Addr → Nat → Nat → Option Addr → Nat → Nat → Option Addr → Nat → Nat → Int → World → Nat) : Prop :=
  cond (decide (i0 < (Nat.cast sizes0l : Int)))
  (cond (decide (i0 < 40))
  (IdxC sizes0p sizes0l i0 1 fun a0 =>
  LdI .i64 w2 a0 fun n0 =>
  DivC 2
  (Calls Try.prog 10 #[.pointer r1, .int .i64 9, .int .i64 (IntKind.wrap .i64 (Int.tdiv (bAnd .i64 n0 31) 2)), .int .i64 (bAnd .i64 n0 31), .int .i64 i0] w2 fun e2 w3 =>
  ∃ (r2 : Int), ∃ (r3 : Int), e2 = .returned (.tuple #[.int .i64 r2, .int .i64 r3]) ∧
  cond (r3 != 0)
  (R (.returned (.bool false)) w3)
  (NewC (.cells #[.int .i64 r2] 3 (0, 0)) w3 fun b0 w4 =>
  RunS Try.prog (Builtin.append_ #[22, 22] 22 #[.slice at0p at0l at0c, .slice (some (⟨b0, 0, none⟩)) 1 1]) w4 fun s0p s0l s0c w5 =>
  RunS Try.prog (Instr.makeSlice 32 (.int .i64 (bAnd .i64 n0 31)) (.int .i64 (bAnd .i64 n0 31))) w5 fun s1p s1l s1c w6 =>
  NewC (.cells #[.slice s1p s1l s1c] 32 (0, 0)) w6 fun b1 w7 =>
  RunS Try.prog (Builtin.append_ #[27, 27] 27 #[.slice want0p want0l want0c, .slice (some (⟨b1, 0, none⟩)) 1 1]) w7 fun s2p s2l s2c w8 =>
  NewC (.cells #[.bool false] 4 (0, 0)) w8 fun b2 w9 =>
  RunS Try.prog (Builtin.append_ #[28, 28] 28 #[.slice marks0p marks0l marks0c, .slice (some (⟨b2, 0, none⟩)) 1 1]) w9 fun s3p s3l s3c w10 =>
  I0 s0p s0l s0c s2p s2l s2c s3p s3l s3c (IntKind.wrap .i64 (i0 + 1)) w10 ∧ M0 s0p s0l s0c s2p s2l s2c s3p s3l s3c (IntKind.wrap .i64 (i0 + 1)) w10 < M0 at0p at0l at0c want0p want0l want0c marks0p marks0l marks0c i0 w2)))
  (k0 at0p at0l at0c want0p want0l want0c marks0p marks0l marks0c w2))
  (k0 at0p at0l at0c want0p want0l want0c marks0p marks0l marks0c w2)
def S_law7_ArenaKeeps_j0 (i1 : Int) (w12 : World) (I1 : Int → World → Prop) (M1 : Int → World → Nat) (w17 : World) : Prop :=
  I1 (IntKind.wrap .i64 (i1 + 1)) w17 ∧ M1 (IntKind.wrap .i64 (i1 + 1)) w17 < M1 i1 w12
def S_law7_ArenaKeeps_l1 (puts0p : Option Addr) (puts0l : Nat) (R : Ending → World → Prop) (r1 : Option Addr) (at1p : Option Addr) (at1l : Nat) (want1p : Option Addr) (want1l : Nat) (marks1p : Option Addr) (marks1l : Nat) (k1 : World → Prop) (i1 : Int) (w12 : World) (I1 : Int → World → Prop) (M1 : Int → World → Nat) : Prop :=
  cond (decide (i1 < (Nat.cast puts0l : Int)))
  (cond (decide ((Nat.cast at1l : Int) > 0))
  (∀ k2 : World → Prop,
  (∀ (w17 : World), S_law7_ArenaKeeps_j0 i1 w12 I1 M1 w17 → k2 w17) →
  IdxC puts0p puts0l i1 6 fun a1 =>
  LdI .i64 w12 (Addr.add a1 1) fun n1 =>
  DivC (Nat.cast at1l : Int)
  (IdxC puts0p puts0l i1 6 fun a2 =>
  LdI .i64 w12 a2 fun n2 =>
  cond (n2 == 6)
  (IdxC puts0p puts0l i1 6 fun a3 =>
  LdI .i64 w12 (Addr.add a3 2) fun n3 =>
  IdxC marks1p marks1l (Int.tmod (bAnd .i64 n1 65535) (Nat.cast at1l : Int)) 1 fun a4 =>
  StC w12 a4 (.bool ((bAnd .i64 n3 1) == 1)) fun w13 =>
  IdxC at1p at1l (Int.tmod (bAnd .i64 n1 65535) (Nat.cast at1l : Int)) 1 fun a5 =>
  LdI .i64 (World.drew w13) a5 fun n4 =>
  IdxC marks1p marks1l (Int.tmod (bAnd .i64 n1 65535) (Nat.cast at1l : Int)) 1 fun a6 =>
  LdB (World.drew w13) a6 fun b3 =>
  Calls Try.prog 11 #[.pointer r1, .int .i64 n4, .bool b3] (World.drew w13) fun e3 w14 =>
  ∃ (r4 : Int), e3 = .returned (.int .i64 r4) ∧
  cond (r4 != 0)
  (R (.returned (.bool false)) w14)
  (k2 w14))
  (IdxC puts0p puts0l i1 6 fun a7 =>
  LdI .i64 w12 (Addr.add a7 2) fun n5 =>
  IdxC at1p at1l (Int.tmod (bAnd .i64 n1 65535) (Nat.cast at1l : Int)) 1 fun a8 =>
  LdI .i64 (World.drew w12) a8 fun n6 =>
  IdxC puts0p puts0l i1 6 fun a9 =>
  LdI .u64 (World.drew w12) (Addr.add a9 5) fun n7 =>
  Calls Try.prog 12 #[.pointer r1, .int .i64 n6, .int .i64 n5, .int .u64 n7] (World.drew w12) fun e4 w15 =>
  ∃ (r5 : Int), e4 = .returned (.int .i64 r5) ∧
  cond (decide (n5 < 0))
  (cond (r5 != 1)
  (R (.returned (.bool false)) w15)
  (k2 w15))
  (IdxC want1p want1l (Int.tmod (bAnd .i64 n1 65535) (Nat.cast at1l : Int)) 1 fun a10 =>
  LdS w15 a10 fun _ s4l _ =>
  cond (decide (n5 ≥ (Nat.cast s4l : Int)))
  (cond (r5 != 1)
  (R (.returned (.bool false)) w15)
  (k2 w15))
  (cond (r5 != 0)
  (R (.returned (.bool false)) w15)
  (IdxC want1p want1l (Int.tmod (bAnd .i64 n1 65535) (Nat.cast at1l : Int)) 1 fun a11 =>
  LdS (World.drew w15) a11 fun s5p s5l _ =>
  IdxC puts0p puts0l i1 6 fun a12 =>
  LdI .u64 (World.drew w15) (Addr.add a12 5) fun n8 =>
  IdxC s5p s5l n5 1 fun a13 =>
  StC (World.drew w15) a13 (.int .u64 n8) fun w16 =>
  k2 w16))))))
  (k1 w12))
  (k1 w12)
def S_law7_ArenaKeeps_l2 (R : Ending → World → Prop) (r1 : Option Addr) (at1p : Option Addr) (at1l : Nat) (want1p : Option Addr) (want1l : Nat) (k3 : Int) (w19 : World) (I2 : Int → World → Prop) (M2 : Int → World → Nat) (j0 : Int) (w27 : World) (I3 : Int → World → Prop) (M3 : Int → World → Nat) : Prop :=
  IdxC want1p want1l k3 1 fun a18 =>
  LdS w27 a18 fun _ s8l _ =>
  cond (decide (j0 < (Nat.cast s8l : Int)))
  (IdxC at1p at1l k3 1 fun a19 =>
  LdI .i64 w27 a19 fun n14 =>
  Calls Try.prog 14 #[.pointer r1, .int .i64 n14, .int .i64 j0] w27 fun e6 w28 =>
  ∃ (r12 : Int), ∃ (r13 : Int), e6 = .returned (.tuple #[.int .u64 r12, .int .i64 r13]) ∧
  cond (r13 != 0)
  (R (.returned (.bool false)) w28)
  (IdxC want1p want1l k3 1 fun a20 =>
  LdS w28 a20 fun s9p s9l _ =>
  IdxC s9p s9l j0 1 fun a21 =>
  LdI .u64 w28 a21 fun n15 =>
  cond (r12 != n15)
  (R (.returned (.bool false)) w28)
  (I3 (IntKind.wrap .i64 (j0 + 1)) w28 ∧ M3 (IntKind.wrap .i64 (j0 + 1)) w28 < M3 j0 w27)))
  (I2 (IntKind.wrap .i64 (k3 + 1)) w27 ∧ M2 (IntKind.wrap .i64 (k3 + 1)) w27 < M2 k3 w19)
def S_law7_ArenaKeeps_l3 (R : Ending → World → Prop) (r1 : Option Addr) (at1p : Option Addr) (at1l : Nat) (want1p : Option Addr) (want1l : Nat) (marks1p : Option Addr) (marks1l : Nat) (k3 : Int) (w19 : World) (I2 : Int → World → Prop) (M2 : Int → World → Nat) : Prop :=
  cond (decide (k3 < (Nat.cast at1l : Int)))
  (IdxC at1p at1l k3 1 fun a14 =>
  LdI .i64 w19 a14 fun n9 =>
  Calls Try.prog 13 #[.pointer r1, .int .i64 n9] w19 fun e5 w20 =>
  ∃ (r6 : Int), ∃ (r7 : Int), ∃ (r8 : Int), ∃ (r9 : Bool), ∃ (r10 : Int), ∃ (r11 : Int), e5 = .returned (.tuple #[.agg #[.int .i64 r6, .int .i64 r7, .int .i64 r8, .bool r9, .int .i64 r10], .int .i64 r11]) ∧
  NewC (.cells #[.int .i64 0, .int .i64 0, .int .i64 0, .bool false, .int .i64 0] 39 (0, 0)) w20 fun b4 w21 =>
  StC w21 (⟨b4, 0, none⟩) (.int .i64 r6) fun w22 =>
  StC w22 (Addr.add (⟨b4, 0, none⟩) 1) (.int .i64 r7) fun w23 =>
  StC w23 (Addr.add (⟨b4, 0, none⟩) 2) (.int .i64 r8) fun w24 =>
  StC w24 (Addr.add (⟨b4, 0, none⟩) 3) (.bool r9) fun w25 =>
  StC w25 (Addr.add (⟨b4, 0, none⟩) 4) (.int .i64 r10) fun w26 =>
  cond (r11 != 0)
  (R (.returned (.bool false)) (World.drew w26))
  (LdI .i64 (World.drew w26) (⟨b4, 0, none⟩) fun n10 =>
  cond (n10 != 9)
  (R (.returned (.bool false)) (World.drew w26))
  (LdI .i64 (World.drew w26) (Addr.add (⟨b4, 0, none⟩) 1) fun n11 =>
  IdxC want1p want1l k3 1 fun a15 =>
  LdS (World.drew w26) a15 fun _ s6l _ =>
  DivC 2
  (cond (n11 != (IntKind.wrap .i64 (Int.tdiv (Nat.cast s6l : Int) 2)))
  (R (.returned (.bool false)) (World.drew w26))
  (LdI .i64 (World.drew w26) (Addr.add (⟨b4, 0, none⟩) 2) fun n12 =>
  IdxC want1p want1l k3 1 fun a16 =>
  LdS (World.drew w26) a16 fun _ s7l _ =>
  cond (n12 != (Nat.cast s7l : Int))
  (R (.returned (.bool false)) (World.drew w26))
  (LdB (World.drew w26) (Addr.add (⟨b4, 0, none⟩) 3) fun b5 =>
  IdxC marks1p marks1l k3 1 fun a17 =>
  LdB (World.drew w26) a17 fun b6 =>
  cond (!(b5 == b6))
  (R (.returned (.bool false)) (World.drew w26))
  (LdI .i64 (World.drew w26) (Addr.add (⟨b4, 0, none⟩) 4) fun n13 =>
  cond (n13 != k3)
  (R (.returned (.bool false)) (World.drew w26))
  (∃ (I3 : Int → World → Prop) (M3 : Int → World → Nat), I3 0 (World.drew w26) ∧
  ∀ (j0 : Int) (w27 : World), I3 j0 w27 →
  S_law7_ArenaKeeps_l2 R r1 at1p at1l want1p want1l k3 w19 I2 M2 j0 w27 I3 M3))))))))
  (R (.returned (.bool true)) w19)
def S_law7_ArenaKeeps_j1 (R : Ending → World → Prop) (r1 : Option Addr) (at1p : Option Addr) (at1l : Nat) (want1p : Option Addr) (want1l : Nat) (marks1p : Option Addr) (marks1l : Nat) (w18 : World) : Prop :=
  ∃ (I2 : Int → World → Prop) (M2 : Int → World → Nat), I2 0 w18 ∧
  ∀ (k3 : Int) (w19 : World), I2 k3 w19 →
  S_law7_ArenaKeeps_l3 R r1 at1p at1l want1p want1l marks1p marks1l k3 w19 I2 M2
def S_law7_ArenaKeeps_j2 (puts0p : Option Addr) (puts0l : Nat) (R : Ending → World → Prop) (r1 : Option Addr) (at1p : Option Addr) (at1l : Nat) (want1p : Option Addr) (want1l : Nat) (marks1p : Option Addr) (marks1l : Nat) (w11 : World) : Prop :=
  ∀ k1 : World → Prop,
  (∀ (w18 : World), S_law7_ArenaKeeps_j1 R r1 at1p at1l want1p want1l marks1p marks1l w18 → k1 w18) →
  ∃ (I1 : Int → World → Prop) (M1 : Int → World → Nat), I1 0 w11 ∧
  ∀ (i1 : Int) (w12 : World), I1 i1 w12 →
  S_law7_ArenaKeeps_l1 puts0p puts0l R r1 at1p at1l want1p want1l marks1p marks1l k1 i1 w12 I1 M1
def S_law7_ArenaKeeps (sizes0p : Option Addr) (sizes0l : Nat) (sizes0c : Nat) (puts0p : Option Addr) (puts0l : Nat) (puts0c : Nat) (w : World) (R : Ending → World → Prop) : Prop :=
  Calls Try.prog 8 #[] w fun e0 w0 =>
  ∃ (r0 : Bool), e0 = .returned (.bool r0) ∧
  cond (!r0)
  (R (.returned (.bool false)) w0)
  (Calls Try.prog 9 #[.int .i64 2000] w0 fun e1 w1 =>
  ∃ (r1 : Option Addr), e1 = .returned (.pointer r1) ∧
  cond r1.isNone
  (R (.returned (.bool false)) w1)
  (∀ k0 : Option Addr → Nat → Nat → Option Addr → Nat → Nat → Option Addr → Nat → Nat → World → Prop,
  (∀ (at1p : Option Addr) (at1l : Nat) (at1c : Nat) (want1p : Option Addr) (want1l : Nat) (want1c : Nat) (marks1p : Option Addr) (marks1l : Nat) (marks1c : Nat) (w11 : World), S_law7_ArenaKeeps_j2 puts0p puts0l R r1 at1p at1l want1p want1l marks1p marks1l w11 → k0 at1p at1l at1c want1p want1l want1c marks1p marks1l marks1c w11) →
  ∃ (I0 : Option Addr → Nat → Nat → Option Addr → Nat → Nat → Option Addr → Nat → Nat → Int → World → Prop) (M0 : Option Addr → Nat → Nat → Option Addr → Nat → Nat → Option Addr → Nat → Nat → Int → World → Nat), I0 none 0 0 none 0 0 none 0 0 0 w1 ∧
  ∀ (at0p : Option Addr) (at0l : Nat) (at0c : Nat) (want0p : Option Addr) (want0l : Nat) (want0c : Nat) (marks0p : Option Addr) (marks0l : Nat) (marks0c : Nat) (i0 : Int) (w2 : World), I0 at0p at0l at0c want0p want0l want0c marks0p marks0l marks0c i0 w2 →
  S_law7_ArenaKeeps_l0 sizes0p sizes0l R r1 k0 at0p at0l at0c want0p want0l want0c marks0p marks0l marks0c i0 w2 I0 M0))
def S_law7_ArenaKeeps_ann : Ann := (.seq .leaf (.seq .leaf (.seq .leaf (.seq .leaf (.seq .leaf (.seq .leaf (.seq .leaf (.seq (.seq .leaf (.jblock [1, 5] [(6, .slice), (7, .slice), (8, .slice)] (.loop [0, 1, 5] [(6, .slice), (7, .slice), (8, .slice), (9, (.int .i64))] .leaf) .leaf)) (.seq (.seq .leaf (.jblock [5, 6, 7, 8] [] (.loop [1, 5, 6, 7, 8] [(13, (.int .i64))] (.seq .leaf (.seq (.jblock [1, 5, 6, 7, 8, 13] [] (.seq .leaf (.seq (.seq .leaf (.cond (.seq .leaf (.seq (.seq (.draw 9) .leaf) .leaf)) .leaf)) (.seq .leaf (.seq (.draw 11) (.seq .leaf (.seq .leaf (.draw 11))))))) .leaf) .leaf))) .leaf)) (.seq (.seq .leaf (.block (.loop [5, 6, 7, 8] [(17, (.int .i64))] (.seq .leaf (.seq (.block (.seq .leaf (.seq (.seq (.draw 43) .leaf) (.seq .leaf (.block (.loop [5, 6, 7, 8, 17] [(20, (.int .i64))] .leaf)))))) .leaf))))) .leaf))))))))))
theorem S_law7_ArenaKeeps_eq (sizes0p : Option Addr) (sizes0l : Nat) (sizes0c : Nat) (puts0p : Option Addr) (puts0l : Nat) (puts0c : Nat) (w : World) (R : Ending → World → Prop) : X Try.prog Try.f3.ntmps (bodyOf Try.f3) S_law7_ArenaKeeps_ann (argEnv 0 [.slice sizes0p sizes0l sizes0c, .slice puts0p puts0l puts0c]) w (fun e w' => resK Try.prog Try.f3.results.toList e w' [] fun vs => R (.returned (pack vs)) w') (fun e w' => resK Try.prog Try.f3.results.toList e w' [] fun vs => R (.returned (pack vs)) w') (fun _ _ _ => False) = S_law7_ArenaKeeps sizes0p sizes0l sizes0c puts0p puts0l puts0c w R := by kernel_rfl
theorem S_law7_ArenaKeeps_ok (sizes0p : Option Addr) (sizes0l : Nat) (sizes0c : Nat) (puts0p : Option Addr) (puts0l : Nat) (puts0c : Nat) (w : World) (R : Ending → World → Prop) (h : S_law7_ArenaKeeps sizes0p sizes0l sizes0c puts0p puts0l puts0c w R) : Calls Try.prog 3 #[.slice sizes0p sizes0l sizes0c, .slice puts0p puts0l puts0c] w R :=
  calls_of_X (an := S_law7_ArenaKeeps_ann) wide_ok Try.func3 (by kernel_rfl) (by kernel_rfl) (by rw [S_law7_ArenaKeeps_eq]; exact h)

def S_law7_ArenaFull_l0 (words0 : Int) (size0 : Int) (R : Ending → World → Prop) (r1 : Option Addr) (round0 : Int) (w2 : World) (I0 : Int → World → Prop) (M0 : Int → World → Nat) (i1 : Int) (w8 : World) (I2 : Int → World → Prop) (M2 : Int → World → Nat) : Prop :=
  DivC (IntKind.wrap .i64 ((bAnd .i64 size0 63) + 1))
  (cond (decide (i1 < (IntKind.wrap .i64 (Int.tdiv (IntKind.wrap .i64 (1 + (bAnd .i64 words0 1023))) (IntKind.wrap .i64 ((bAnd .i64 size0 63) + 1))))))
  (Calls Try.prog 17 #[.pointer r1] w8 fun e6 w9 =>
  ∃ (r8 : Int), ∃ (r9 : Int), e6 = .returned (.tuple #[.int .i64 r8, .int .i64 r9]) ∧
  cond (r9 != 0)
  (R (.returned (.bool false)) w9)
  (cond (r8 != (IntKind.wrap .i64 (i1 * (IntKind.wrap .i64 ((bAnd .i64 size0 63) + 1)))))
  (R (.returned (.bool false)) w9)
  (I2 (IntKind.wrap .i64 (i1 + 1)) w9 ∧ M2 (IntKind.wrap .i64 (i1 + 1)) w9 < M2 i1 w8)))
  (Calls Try.prog 18 #[.pointer r1] w8 fun e7 w10 =>
  ∃ (r10 : Int), e7 = .returned (.int .i64 r10) ∧
  cond (r10 != 0)
  (R (.returned (.bool false)) w10)
  (Calls Try.prog 19 #[.pointer r1] w10 fun e8 w11 =>
  ∃ (r11 : Int), e8 = .returned (.int .i64 r11) ∧
  cond (r11 != 0)
  (R (.returned (.bool false)) w11)
  (Calls Try.prog 15 #[.pointer r1] w11 fun e9 w12 =>
  ∃ (r12 : Int), e9 = .returned (.int .i64 r12) ∧
  cond (r12 != (IntKind.wrap .i64 (1 + (bAnd .i64 words0 1023))))
  (R (.returned (.bool false)) w12)
  (I0 (IntKind.wrap .i64 (round0 + 1)) w12 ∧ M0 (IntKind.wrap .i64 (round0 + 1)) w12 < M0 round0 w2)))))
def S_law7_ArenaFull_l1 (words0 : Int) (size0 : Int) (R : Ending → World → Prop) (r1 : Option Addr) (round0 : Int) (w2 : World) (I0 : Int → World → Prop) (M0 : Int → World → Nat) (i0 : Int) (w3 : World) (I1 : Int → World → Prop) (M1 : Int → World → Nat) : Prop :=
  DivC (IntKind.wrap .i64 ((bAnd .i64 size0 63) + 1))
  (cond (decide (i0 < (IntKind.wrap .i64 (Int.tdiv (IntKind.wrap .i64 (1 + (bAnd .i64 words0 1023))) (IntKind.wrap .i64 ((bAnd .i64 size0 63) + 1))))))
  (Calls Try.prog 10 #[.pointer r1, .int .i64 7, .int .i64 0, .int .i64 (bAnd .i64 size0 63), .int .i64 (bAnd .i64 i0 1023)] w3 fun e2 w4 =>
  ∃ (r2 : Int), ∃ (r3 : Int), e2 = .returned (.tuple #[.int .i64 r2, .int .i64 r3]) ∧
  cond (r3 != 0)
  (R (.returned (.bool false)) w4)
  (cond (r2 != (IntKind.wrap .i64 (i0 * (IntKind.wrap .i64 ((bAnd .i64 size0 63) + 1)))))
  (R (.returned (.bool false)) w4)
  (I1 (IntKind.wrap .i64 (i0 + 1)) w4 ∧ M1 (IntKind.wrap .i64 (i0 + 1)) w4 < M1 i0 w3)))
  (Calls Try.prog 10 #[.pointer r1, .int .i64 7, .int .i64 0, .int .i64 (bAnd .i64 size0 63), .int .i64 0] w3 fun e3 w5 =>
  ∃ (r4 : Int), ∃ (r5 : Int), e3 = .returned (.tuple #[.int .i64 r4, .int .i64 r5]) ∧
  ∃ C0 : World → Prop, C0 (World.drew w5) ∧
  cond (r5 != 5)
  (R (.returned (.bool false)) (World.drew w5))
  (DivC (IntKind.wrap .i64 ((bAnd .i64 size0 63) + 1))
  (Calls Try.prog 15 #[.pointer r1] (World.drew w5) fun e4 w6 =>
  ∃ (r6 : Int), e4 = .returned (.int .i64 r6) ∧
  C0 w6 ∧
  cond (r6 != (Int.tmod (IntKind.wrap .i64 (1 + (bAnd .i64 words0 1023))) (IntKind.wrap .i64 ((bAnd .i64 size0 63) + 1))))
  (R (.returned (.bool false)) w6)
  (Calls Try.prog 16 #[.pointer r1] w6 fun e5 w7 =>
  ∃ (r7 : Int), e5 = .returned (.int .i64 r7) ∧
  C0 w7 ∧
  cond (r7 != 0)
  (R (.returned (.bool false)) w7)
  (∃ (I2 : Int → World → Prop) (M2 : Int → World → Nat), I2 0 w7 ∧
  ∀ (i1 : Int) (w8 : World), I2 i1 w8 →
  S_law7_ArenaFull_l0 words0 size0 R r1 round0 w2 I0 M0 i1 w8 I2 M2))))))
def S_law7_ArenaFull_l2 (words0 : Int) (size0 : Int) (R : Ending → World → Prop) (r1 : Option Addr) (round0 : Int) (w2 : World) (I0 : Int → World → Prop) (M0 : Int → World → Nat) : Prop :=
  cond (decide (round0 < 2))
  (∃ (I1 : Int → World → Prop) (M1 : Int → World → Nat), I1 0 w2 ∧
  ∀ (i0 : Int) (w3 : World), I1 i0 w3 →
  S_law7_ArenaFull_l1 words0 size0 R r1 round0 w2 I0 M0 i0 w3 I1 M1)
  (R (.returned (.bool true)) w2)
def S_law7_ArenaFull (words0 : Int) (size0 : Int) (w : World) (R : Ending → World → Prop) : Prop :=
  Calls Try.prog 8 #[] w fun e0 w0 =>
  ∃ (r0 : Bool), e0 = .returned (.bool r0) ∧
  cond (!r0)
  (R (.returned (.bool false)) w0)
  (Calls Try.prog 9 #[.int .i64 (IntKind.wrap .i64 (1 + (bAnd .i64 words0 1023)))] w0 fun e1 w1 =>
  ∃ (r1 : Option Addr), e1 = .returned (.pointer r1) ∧
  cond r1.isNone
  (R (.returned (.bool false)) w1)
  (∃ (I0 : Int → World → Prop) (M0 : Int → World → Nat), I0 0 w1 ∧
  ∀ (round0 : Int) (w2 : World), I0 round0 w2 →
  S_law7_ArenaFull_l2 words0 size0 R r1 round0 w2 I0 M0))
def S_law7_ArenaFull_ann : Ann := (.seq .leaf (.seq .leaf (.seq .leaf (.seq .leaf (.seq .leaf (.seq .leaf (.seq (.seq .leaf (.block (.loop [5, 6, 7] [(8, (.int .i64))] (.seq .leaf (.seq (.block (.seq (.seq .leaf (.block (.loop [5, 6, 7, 8] [(9, (.int .i64))] .leaf))) (.seq .leaf (.seq (.seq .any .leaf) (.seq (.seq .leaf (.block (.loop [5, 6, 7, 8] [(14, (.int .i64))] .leaf))) .leaf))))) .leaf))))) .leaf)))))))
theorem S_law7_ArenaFull_eq (words0 : Int) (size0 : Int) (w : World) (R : Ending → World → Prop) : X Try.prog Try.f4.ntmps (bodyOf Try.f4) S_law7_ArenaFull_ann (argEnv 0 [.int .i64 words0, .int .i64 size0]) w (fun e w' => resK Try.prog Try.f4.results.toList e w' [] fun vs => R (.returned (pack vs)) w') (fun e w' => resK Try.prog Try.f4.results.toList e w' [] fun vs => R (.returned (pack vs)) w') (fun _ _ _ => False) = S_law7_ArenaFull words0 size0 w R := by kernel_rfl
theorem S_law7_ArenaFull_ok (words0 : Int) (size0 : Int) (w : World) (R : Ending → World → Prop) (h : S_law7_ArenaFull words0 size0 w R) : Calls Try.prog 4 #[.int .i64 words0, .int .i64 size0] w R :=
  calls_of_X (an := S_law7_ArenaFull_ann) wide_ok Try.func4 (by kernel_rfl) (by kernel_rfl) (by rw [S_law7_ArenaFull_eq]; exact h)

def S_law7_ArenaKnown (w : World) (R : Ending → World → Prop) : Prop :=
  Calls Try.prog 8 #[] w fun e0 w0 =>
  ∃ (r0 : Bool), e0 = .returned (.bool r0) ∧
  cond (!r0)
  (R (.returned (.bool false)) w0)
  (Calls Try.prog 9 #[.int .i64 10] w0 fun e1 w1 =>
  ∃ (r1 : Option Addr), e1 = .returned (.pointer r1) ∧
  Calls Try.prog 10 #[.pointer r1, .int .i64 1, .int .i64 1, .int .i64 2, .int .i64 5] w1 fun e2 w2 =>
  ∃ (r2 : Int), ∃ (r3 : Int), e2 = .returned (.tuple #[.int .i64 r2, .int .i64 r3]) ∧
  Calls Try.prog 10 #[.pointer r1, .int .i64 2, .int .i64 0, .int .i64 3, .int .i64 6] w2 fun e3 w3 =>
  ∃ (r4 : Int), ∃ (r5 : Int), e3 = .returned (.tuple #[.int .i64 r4, .int .i64 r5]) ∧
  Calls Try.prog 10 #[.pointer r1, .int .i64 3, .int .i64 0, .int .i64 3, .int .i64 7] w3 fun e4 w4 =>
  ∃ (r6 : Int), ∃ (r7 : Int), e4 = .returned (.tuple #[.int .i64 r6, .int .i64 r7]) ∧
  cond (r2 != 0)
  (R (.returned (.bool false)) w4)
  (cond (r3 != 0)
  (R (.returned (.bool false)) w4)
  (cond (r4 != 3)
  (R (.returned (.bool false)) w4)
  (cond (r5 != 0)
  (R (.returned (.bool false)) w4)
  (cond (r7 != 5)
  (R (.returned (.bool false)) w4)
  (Calls Try.prog 19 #[.pointer r1] w4 fun e5 w5 =>
  ∃ (r8 : Int), e5 = .returned (.int .i64 r8) ∧
  cond (r8 != 7)
  (R (.returned (.bool false)) w5)
  (Calls Try.prog 12 #[.pointer r1, .int .i64 3, .int .i64 1, .int .u64 9] w5 fun e6 w6 =>
  ∃ (r9 : Int), e6 = .returned (.int .i64 r9) ∧
  cond (r9 != 0)
  (R (.returned (.bool false)) w6)
  (Calls Try.prog 16 #[.pointer r1] w6 fun e7 w7 =>
  ∃ (r10 : Int), e7 = .returned (.int .i64 r10) ∧
  cond (r10 != 0)
  (R (.returned (.bool false)) w7)
  (Calls Try.prog 17 #[.pointer r1] w7 fun e8 w8 =>
  ∃ (r11 : Int), ∃ (r12 : Int), e8 = .returned (.tuple #[.int .i64 r11, .int .i64 r12]) ∧
  Calls Try.prog 20 #[.pointer r1] w8 fun e9 w9 =>
  ∃ (r13 : Int), ∃ (r14 : Int), ∃ (r15 : Int), e9 = .returned (.tuple #[.int .i64 r13, .int .i64 r14, .int .i64 r15]) ∧
  Calls Try.prog 18 #[.pointer r1] w9 fun e10 w10 =>
  ∃ (r16 : Int), e10 = .returned (.int .i64 r16) ∧
  Calls Try.prog 14 #[.pointer r1, .int .i64 0, .int .i64 1] w10 fun e11 w11 =>
  ∃ (r17 : Int), ∃ (r18 : Int), e11 = .returned (.tuple #[.int .u64 r17, .int .i64 r18]) ∧
  cond (r11 != 0)
  (R (.returned (.bool false)) w11)
  (cond (r12 != 0)
  (R (.returned (.bool false)) w11)
  (cond (r13 != 3)
  (R (.returned (.bool false)) w11)
  (cond (r14 != 0)
  (R (.returned (.bool false)) w11)
  (cond (r15 != 0)
  (R (.returned (.bool false)) w11)
  (cond (r16 != 0)
  (R (.returned (.bool false)) w11)
  (Calls Try.prog 19 #[.pointer r1] w11 fun e12 w12 =>
  ∃ (r19 : Int), e12 = .returned (.int .i64 r19) ∧
  cond (r19 != 4)
  (R (.returned (.bool false)) w12)
  (cond (r17 != 9)
  (R (.returned (.bool false)) w12)
  (cond (r18 != 0)
  (R (.returned (.bool false)) w12)
  (Calls Try.prog 20 #[.pointer r1] w12 fun e13 w13 =>
  ∃ (r20 : Int), ∃ (r21 : Int), ∃ (r22 : Int), e13 = .returned (.tuple #[.int .i64 r20, .int .i64 r21, .int .i64 r22]) ∧
  Calls Try.prog 13 #[.pointer r1, .int .i64 1] w13 fun e14 w14 =>
  ∃ (r23 : Int), ∃ (r24 : Int), ∃ (r25 : Int), ∃ (r26 : Bool), ∃ (r27 : Int), ∃ (r28 : Int), e14 = .returned (.tuple #[.agg #[.int .i64 r23, .int .i64 r24, .int .i64 r25, .bool r26, .int .i64 r27], .int .i64 r28]) ∧
  Calls Try.prog 21 #[.pointer r1, .int .i64 0] w14 fun e15 w15 =>
  ∃ (r29 : Int), ∃ (r30 : Int), e15 = .returned (.tuple #[.int .i64 r29, .int .i64 r30]) ∧
  Calls Try.prog 22 #[.int .i64 0] w15 fun e16 w16 =>
  ∃ (r31 : Option Addr), ∃ (r32 : Int), e16 = .returned (.tuple #[.pointer r31, .int .i64 r32]) ∧
  cond (r22 == 16)
  (cond (r28 == 1)
  (cond (r29 == 4)
  (cond (r30 == 0)
  (R (.returned (.bool (r32 == 1))) w16)
  (R (.returned (.bool false)) w16))
  (R (.returned (.bool false)) w16))
  (R (.returned (.bool false)) w16))
  (R (.returned (.bool false)) w16)))))))))))))))))))
def S_law7_ArenaKnown_ann : Ann := .leaf
theorem S_law7_ArenaKnown_eq (w : World) (R : Ending → World → Prop) : X Try.prog Try.f5.ntmps (bodyOf Try.f5) S_law7_ArenaKnown_ann (argEnv 0 []) w (fun e w' => resK Try.prog Try.f5.results.toList e w' [] fun vs => R (.returned (pack vs)) w') (fun e w' => resK Try.prog Try.f5.results.toList e w' [] fun vs => R (.returned (pack vs)) w') (fun _ _ _ => False) = S_law7_ArenaKnown w R := by kernel_rfl
theorem S_law7_ArenaKnown_ok (w : World) (R : Ending → World → Prop) (h : S_law7_ArenaKnown w R) : Calls Try.prog 5 #[] w R :=
  calls_of_X (an := S_law7_ArenaKnown_ann) wide_ok Try.func5 (by kernel_rfl) (by kernel_rfl) (by rw [S_law7_ArenaKnown_eq]; exact h)

def S_law7_ArenaSlides_j0 (l0l : Nat) (more0p : Option Addr) (more0l : Nat) (R : Ending → World → Prop) (r1 : Option Addr) (i1 : Int) (k0 : Option Addr → Nat → Nat → World → Prop) (kept1p : Option Addr) (kept1l : Nat) (kept1c : Nat) (w10 : World) : Prop :=
  cond (decide (i1 < (Nat.cast more0l : Int)))
  (IdxC more0p more0l i1 3 fun a3 =>
  LdI .i64 w10 a3 fun n3 =>
  LdS w10 (Addr.add a3 1) fun s3p s3l s3c =>
  LdB w10 (Addr.add a3 2) fun b4 =>
  Calls Try.prog 23 #[.pointer r1, .agg #[.int .i64 n3, .slice s3p s3l s3c, .bool b4], .int .i64 5] w10 fun e6 w11 =>
  ∃ (r9 : Bool), e6 = .returned (.bool r9) ∧
  cond (!r9)
  (R (.returned (.bool (decide ((Nat.cast l0l : Int) > 10)))) w11)
  (k0 kept1p kept1l kept1c w11))
  (k0 kept1p kept1l kept1c w10)
def S_law7_ArenaSlides_j1 (kept0p : Option Addr) (kept0l : Nat) (kept0c : Nat) (i1 : Int) (w5 : World) (I1 : Option Addr → Nat → Nat → Int → World → Prop) (M1 : Option Addr → Nat → Nat → Int → World → Nat) (kept2p : Option Addr) (kept2l : Nat) (kept2c : Nat) (w12 : World) : Prop :=
  I1 kept2p kept2l kept2c (IntKind.wrap .i64 (i1 + 1)) w12 ∧ M1 kept2p kept2l kept2c (IntKind.wrap .i64 (i1 + 1)) w12 < M1 kept0p kept0l kept0c i1 w5
def S_law7_ArenaSlides_l0 (l0l : Nat) (more0p : Option Addr) (more0l : Nat) (R : Ending → World → Prop) (r1 : Option Addr) (k2 : Option Addr → Nat → Nat → World → Prop) (kept3p : Option Addr) (kept3l : Nat) (kept3c : Nat) (i2 : Int) (w13 : World) (I2 : Option Addr → Nat → Nat → Int → World → Prop) (M2 : Option Addr → Nat → Nat → Int → World → Nat) : Prop :=
  cond (decide (i2 < (Nat.cast more0l : Int)))
  (cond (decide (i2 < (Nat.cast l0l : Int)))
  (Calls Try.prog 20 #[.pointer r1] w13 fun e7 w14 =>
  ∃ (r10 : Int), ∃ (r11 : Int), ∃ (r12 : Int), e7 = .returned (.tuple #[.int .i64 r10, .int .i64 r11, .int .i64 r12]) ∧
  cond (r12 != 0)
  (R (.returned (.bool false)) w14)
  (IdxC more0p more0l i2 3 fun a4 =>
  LdI .i64 w14 a4 fun n4 =>
  LdS w14 (Addr.add a4 1) fun s4p s4l s4c =>
  LdB w14 (Addr.add a4 2) fun b5 =>
  NewC (.cells #[.int .i64 n4, .slice s4p s4l s4c, .bool b5] 57 (0, 0)) w14 fun b6 w15 =>
  RunS Try.prog (Builtin.append_ #[54, 54] 54 #[.slice kept3p kept3l kept3c, .slice (some (⟨b6, 0, none⟩)) 1 1]) w15 fun s5p s5l s5c w16 =>
  I2 s5p s5l s5c (IntKind.wrap .i64 (i2 + 1)) w16 ∧ M2 s5p s5l s5c (IntKind.wrap .i64 (i2 + 1)) w16 < M2 kept3p kept3l kept3c i2 w13))
  (k2 kept3p kept3l kept3c w13))
  (k2 kept3p kept3l kept3c w13)
def S_law7_ArenaSlides_l1 (R : Ending → World → Prop) (r1 : Option Addr) (kept4p : Option Addr) (kept4l : Nat) (at0 : Int) (i3 : Int) (w19 : World) (I3 : Int → Int → World → Prop) (M3 : Int → Int → World → Nat) (b7 : Nat) (k3 : Int) (w27 : World) (I4 : Int → World → Prop) (M4 : Int → World → Nat) : Prop :=
  LdI .i64 w27 (Addr.add (⟨b7, 0, none⟩) 2) fun n8 =>
  cond (decide (k3 < n8))
  (Calls Try.prog 14 #[.pointer r1, .int .i64 at0, .int .i64 k3] w27 fun e10 w28 =>
  ∃ (r20 : Int), ∃ (r21 : Int), e10 = .returned (.tuple #[.int .u64 r20, .int .i64 r21]) ∧
  cond (r21 != 0)
  (R (.returned (.bool false)) w28)
  (IdxC kept4p kept4l i3 3 fun a7 =>
  LdS w28 (Addr.add a7 1) fun s7p s7l _ =>
  IdxC s7p s7l k3 1 fun a8 =>
  LdI .u64 w28 a8 fun n9 =>
  cond (r20 != n9)
  (R (.returned (.bool false)) w28)
  (I4 (IntKind.wrap .i64 (k3 + 1)) w28 ∧ M4 (IntKind.wrap .i64 (k3 + 1)) w28 < M4 k3 w27)))
  (Calls Try.prog 21 #[.pointer r1, .int .i64 at0] w27 fun e11 w29 =>
  ∃ (r22 : Int), ∃ (r23 : Int), e11 = .returned (.tuple #[.int .i64 r22, .int .i64 r23]) ∧
  cond (r23 != 0)
  (R (.returned (.bool false)) w29)
  (LdI .i64 w29 (Addr.add (⟨b7, 0, none⟩) 2) fun n10 =>
  cond (r22 != (IntKind.wrap .i64 ((IntKind.wrap .i64 (at0 + 1)) + n10)))
  (R (.returned (.bool false)) w29)
  (I3 r22 (IntKind.wrap .i64 (i3 + 1)) w29 ∧ M3 r22 (IntKind.wrap .i64 (i3 + 1)) w29 < M3 at0 i3 w19)))
def S_law7_ArenaSlides_l2 (R : Ending → World → Prop) (r1 : Option Addr) (kept4p : Option Addr) (kept4l : Nat) (at0 : Int) (i3 : Int) (w19 : World) (I3 : Int → Int → World → Prop) (M3 : Int → Int → World → Nat) : Prop :=
  cond (decide (i3 < (Nat.cast kept4l : Int)))
  (Calls Try.prog 13 #[.pointer r1, .int .i64 at0] w19 fun e9 w20 =>
  ∃ (r14 : Int), ∃ (r15 : Int), ∃ (r16 : Int), ∃ (r17 : Bool), ∃ (r18 : Int), ∃ (r19 : Int), e9 = .returned (.tuple #[.agg #[.int .i64 r14, .int .i64 r15, .int .i64 r16, .bool r17, .int .i64 r18], .int .i64 r19]) ∧
  NewC (.cells #[.int .i64 0, .int .i64 0, .int .i64 0, .bool false, .int .i64 0] 39 (0, 0)) w20 fun b7 w21 =>
  StC w21 (⟨b7, 0, none⟩) (.int .i64 r14) fun w22 =>
  StC w22 (Addr.add (⟨b7, 0, none⟩) 1) (.int .i64 r15) fun w23 =>
  StC w23 (Addr.add (⟨b7, 0, none⟩) 2) (.int .i64 r16) fun w24 =>
  StC w24 (Addr.add (⟨b7, 0, none⟩) 3) (.bool r17) fun w25 =>
  StC w25 (Addr.add (⟨b7, 0, none⟩) 4) (.int .i64 r18) fun w26 =>
  cond (r19 != 0)
  (R (.returned (.bool false)) (World.drew w26))
  (LdI .i64 (World.drew w26) (⟨b7, 0, none⟩) fun n5 =>
  IdxC kept4p kept4l i3 3 fun a5 =>
  LdI .i64 (World.drew w26) a5 fun n6 =>
  cond (n5 != (IntKind.wrap .i64 (1 + (bAnd .i64 n6 127))))
  (R (.returned (.bool false)) (World.drew w26))
  (LdI .i64 (World.drew w26) (Addr.add (⟨b7, 0, none⟩) 2) fun n7 =>
  IdxC kept4p kept4l i3 3 fun a6 =>
  LdS (World.drew w26) (Addr.add a6 1) fun _ s6l _ =>
  cond (n7 != (bAnd .i64 (Nat.cast s6l : Int) 15))
  (R (.returned (.bool false)) (World.drew w26))
  (∃ (I4 : Int → World → Prop) (M4 : Int → World → Nat), I4 0 (World.drew w26) ∧
  ∀ (k3 : Int) (w27 : World), I4 k3 w27 →
  S_law7_ArenaSlides_l1 R r1 kept4p kept4l at0 i3 w19 I3 M3 b7 k3 w27 I4 M4))))
  (Calls Try.prog 19 #[.pointer r1] w19 fun e12 w30 =>
  ∃ (r24 : Int), e12 = .returned (.int .i64 r24) ∧
  cond (r24 == at0)
  (Calls Try.prog 15 #[.pointer r1] w30 fun e13 w31 =>
  ∃ (r25 : Int), e13 = .returned (.int .i64 r25) ∧
  R (.returned (.bool (r25 == (IntKind.wrap .i64 (65536 - at0))))) w31)
  (R (.returned (.bool false)) w30))
def S_law7_ArenaSlides_j2 (R : Ending → World → Prop) (r1 : Option Addr) (kept4p : Option Addr) (kept4l : Nat) (w17 : World) : Prop :=
  Calls Try.prog 18 #[.pointer r1] w17 fun e8 w18 =>
  ∃ (r13 : Int), e8 = .returned (.int .i64 r13) ∧
  cond (r13 != 0)
  (R (.returned (.bool false)) w18)
  (∃ (I3 : Int → Int → World → Prop) (M3 : Int → Int → World → Nat), I3 0 0 w18 ∧
  ∀ (at0 : Int) (i3 : Int) (w19 : World), I3 at0 i3 w19 →
  S_law7_ArenaSlides_l2 R r1 kept4p kept4l at0 i3 w19 I3 M3)
def S_law7_ArenaSlides_l3 (l0p : Option Addr) (l0l : Nat) (more0p : Option Addr) (more0l : Nat) (R : Ending → World → Prop) (r1 : Option Addr) (kept0p : Option Addr) (kept0l : Nat) (kept0c : Nat) (i1 : Int) (w5 : World) (I1 : Option Addr → Nat → Nat → Int → World → Prop) (M1 : Option Addr → Nat → Nat → Int → World → Nat) : Prop :=
  cond (decide (i1 < (Nat.cast l0l : Int)))
  (∀ k0 : Option Addr → Nat → Nat → World → Prop,
  (∀ (kept2p : Option Addr) (kept2l : Nat) (kept2c : Nat) (w12 : World), S_law7_ArenaSlides_j1 kept0p kept0l kept0c i1 w5 I1 M1 kept2p kept2l kept2c w12 → k0 kept2p kept2l kept2c w12) →
  ∀ k1 : Option Addr → Nat → Nat → World → Prop,
  (∀ (kept1p : Option Addr) (kept1l : Nat) (kept1c : Nat) (w10 : World), S_law7_ArenaSlides_j0 l0l more0p more0l R r1 i1 k0 kept1p kept1l kept1c w10 → k1 kept1p kept1l kept1c w10) →
  IdxC l0p l0l i1 3 fun a1 =>
  LdB w5 (Addr.add a1 2) fun b1 =>
  cond b1
  (Calls Try.prog 20 #[.pointer r1] w5 fun e4 w6 =>
  ∃ (r4 : Int), ∃ (r5 : Int), ∃ (r6 : Int), e4 = .returned (.tuple #[.int .i64 r4, .int .i64 r5, .int .i64 r6]) ∧
  cond (r6 != 0)
  (R (.returned (.bool false)) w6)
  (IdxC l0p l0l i1 3 fun a2 =>
  LdI .i64 w6 a2 fun n2 =>
  LdS w6 (Addr.add a2 1) fun s1p s1l s1c =>
  LdB w6 (Addr.add a2 2) fun b2 =>
  NewC (.cells #[.int .i64 n2, .slice s1p s1l s1c, .bool b2] 57 (0, 0)) w6 fun b3 w7 =>
  RunS Try.prog (Builtin.append_ #[54, 54] 54 #[.slice kept0p kept0l kept0c, .slice (some (⟨b3, 0, none⟩)) 1 1]) w7 fun s2p s2l s2c w8 =>
  k1 s2p s2l s2c w8))
  (Calls Try.prog 17 #[.pointer r1] w5 fun e5 w9 =>
  ∃ (r7 : Int), ∃ (r8 : Int), e5 = .returned (.tuple #[.int .i64 r7, .int .i64 r8]) ∧
  cond (r8 != 0)
  (R (.returned (.bool false)) w9)
  (k1 kept0p kept0l kept0c w9)))
  (∀ k2 : Option Addr → Nat → Nat → World → Prop,
  (∀ (kept4p : Option Addr) (kept4l : Nat) (kept4c : Nat) (w17 : World), S_law7_ArenaSlides_j2 R r1 kept4p kept4l w17 → k2 kept4p kept4l kept4c w17) →
  ∃ (I2 : Option Addr → Nat → Nat → Int → World → Prop) (M2 : Option Addr → Nat → Nat → Int → World → Nat), I2 kept0p kept0l kept0c 0 w5 ∧
  ∀ (kept3p : Option Addr) (kept3l : Nat) (kept3c : Nat) (i2 : Int) (w13 : World), I2 kept3p kept3l kept3c i2 w13 →
  S_law7_ArenaSlides_l0 l0l more0p more0l R r1 k2 kept3p kept3l kept3c i2 w13 I2 M2)
def S_law7_ArenaSlides_l4 (l0p : Option Addr) (l0l : Nat) (more0p : Option Addr) (more0l : Nat) (R : Ending → World → Prop) (r1 : Option Addr) (n0 : Int) (i0 : Int) (w2 : World) (I0 : Int → Int → World → Prop) (M0 : Int → Int → World → Nat) : Prop :=
  cond (decide (i0 < (Nat.cast l0l : Int)))
  (IdxC l0p l0l i0 3 fun a0 =>
  LdI .i64 w2 a0 fun n1 =>
  LdS w2 (Addr.add a0 1) fun s0p s0l s0c =>
  LdB w2 (Addr.add a0 2) fun b0 =>
  Calls Try.prog 23 #[.pointer r1, .agg #[.int .i64 n1, .slice s0p s0l s0c, .bool b0], .int .i64 n0] w2 fun e2 w3 =>
  ∃ (r2 : Bool), e2 = .returned (.bool r2) ∧
  cond (!r2)
  (R (.returned (.bool (decide ((Nat.cast l0l : Int) > 10)))) w3)
  (I0 (IntKind.wrap .i64 (n0 + 1)) (IntKind.wrap .i64 (i0 + 1)) w3 ∧ M0 (IntKind.wrap .i64 (n0 + 1)) (IntKind.wrap .i64 (i0 + 1)) w3 < M0 n0 i0 w2))
  (Calls Try.prog 16 #[.pointer r1] w2 fun e3 w4 =>
  ∃ (r3 : Int), e3 = .returned (.int .i64 r3) ∧
  cond (r3 != 0)
  (R (.returned (.bool false)) w4)
  (∃ (I1 : Option Addr → Nat → Nat → Int → World → Prop) (M1 : Option Addr → Nat → Nat → Int → World → Nat), I1 none 0 0 0 w4 ∧
  ∀ (kept0p : Option Addr) (kept0l : Nat) (kept0c : Nat) (i1 : Int) (w5 : World), I1 kept0p kept0l kept0c i1 w5 →
  S_law7_ArenaSlides_l3 l0p l0l more0p more0l R r1 kept0p kept0l kept0c i1 w5 I1 M1))
def S_law7_ArenaSlides (l0p : Option Addr) (l0l : Nat) (l0c : Nat) (more0p : Option Addr) (more0l : Nat) (more0c : Nat) (w : World) (R : Ending → World → Prop) : Prop :=
  Calls Try.prog 8 #[] w fun e0 w0 =>
  ∃ (r0 : Bool), e0 = .returned (.bool r0) ∧
  cond (!r0)
  (R (.returned (.bool false)) w0)
  (Calls Try.prog 9 #[.int .i64 65536] w0 fun e1 w1 =>
  ∃ (r1 : Option Addr), e1 = .returned (.pointer r1) ∧
  cond r1.isNone
  (R (.returned (.bool false)) w1)
  (∃ (I0 : Int → Int → World → Prop) (M0 : Int → Int → World → Nat), I0 0 0 w1 ∧
  ∀ (n0 : Int) (i0 : Int) (w2 : World), I0 n0 i0 w2 →
  S_law7_ArenaSlides_l4 l0p l0l more0p more0l R r1 n0 i0 w2 I0 M0))
def S_law7_ArenaSlides_ann : Ann := (.seq .leaf (.seq .leaf (.seq .leaf (.seq .leaf (.seq .leaf (.seq (.seq .leaf (.block (.loop [0, 1, 5] [(6, (.int .i64)), (7, (.int .i64))] .leaf))) (.seq .leaf (.seq .leaf (.seq (.seq .leaf (.block (.loop [0, 1, 5] [(8, .slice), (9, (.int .i64))] (.seq .leaf (.seq (.jblock [0, 1, 5, 9] [(8, .slice)] (.join [0, 1, 5, 9] [(8, .slice)] .leaf .leaf) .leaf) .leaf))))) (.seq (.seq .leaf (.jblock [5] [(8, .slice)] (.loop [0, 1, 5] [(8, .slice), (15, (.int .i64))] .leaf) .leaf)) (.seq .leaf (.seq .leaf (.seq (.seq .leaf (.block (.loop [5, 8] [(19, (.int .i64)), (20, (.int .i64))] (.seq .leaf (.seq (.block (.seq .leaf (.seq (.seq (.draw 26) .leaf) (.seq (.seq .leaf (.block (.loop [5, 8, 19, 20, 21] [(23, (.int .i64))] .leaf))) .leaf)))) .leaf))))) .leaf)))))))))))))
theorem S_law7_ArenaSlides_eq (l0p : Option Addr) (l0l : Nat) (l0c : Nat) (more0p : Option Addr) (more0l : Nat) (more0c : Nat) (w : World) (R : Ending → World → Prop) : X Try.prog Try.f6.ntmps (bodyOf Try.f6) S_law7_ArenaSlides_ann (argEnv 0 [.slice l0p l0l l0c, .slice more0p more0l more0c]) w (fun e w' => resK Try.prog Try.f6.results.toList e w' [] fun vs => R (.returned (pack vs)) w') (fun e w' => resK Try.prog Try.f6.results.toList e w' [] fun vs => R (.returned (pack vs)) w') (fun _ _ _ => False) = S_law7_ArenaSlides l0p l0l l0c more0p more0l more0c w R := by kernel_rfl
theorem S_law7_ArenaSlides_ok (l0p : Option Addr) (l0l : Nat) (l0c : Nat) (more0p : Option Addr) (more0l : Nat) (more0c : Nat) (w : World) (R : Ending → World → Prop) (h : S_law7_ArenaSlides l0p l0l l0c more0p more0l more0c w R) : Calls Try.prog 6 #[.slice l0p l0l l0c, .slice more0p more0l more0c] w R :=
  calls_of_X (an := S_law7_ArenaSlides_ann) wide_ok Try.func6 (by kernel_rfl) (by kernel_rfl) (by rw [S_law7_ArenaSlides_eq]; exact h)

def S_law7_ArenaPlays_j0 (R : Ending → World → Prop) (r0 : Option Addr) (b0 : Nat) (i0 : Int) (k0 : World → Prop) (next0 : Addr) (ok0 : Bool) (w25 : World) : Prop :=
  cond (!ok0)
  (R (.returned (.bool false)) w25)
  (LdI .i64 w25 next0 fun n16 =>
  LdS w25 (Addr.add next0 1) fun s4p s4l s4c =>
  LdS w25 (Addr.add next0 2) fun s5p s5l s5c =>
  LdI .i64 w25 (Addr.add next0 3) fun n17 =>
  LdB w25 (Addr.add next0 4) fun b5 =>
  StC w25 (⟨b0, 0, none⟩) (.int .i64 n16) fun w26 =>
  StC w26 (Addr.add (⟨b0, 0, none⟩) 1) (.slice s4p s4l s4c) fun w27 =>
  StC w27 (Addr.add (⟨b0, 0, none⟩) 2) (.slice s5p s5l s5c) fun w28 =>
  StC w28 (Addr.add (⟨b0, 0, none⟩) 3) (.int .i64 n17) fun w29 =>
  StC w29 (Addr.add (⟨b0, 0, none⟩) 4) (.bool b5) fun w30 =>
  DivC 5
  (cond ((Int.tmod i0 5) == 4)
  (LdI .i64 w30 (⟨b0, 0, none⟩) fun n18 =>
  LdS w30 (Addr.add (⟨b0, 0, none⟩) 1) fun s6p s6l s6c =>
  LdS w30 (Addr.add (⟨b0, 0, none⟩) 2) fun s7p s7l s7c =>
  LdI .i64 w30 (Addr.add (⟨b0, 0, none⟩) 3) fun n19 =>
  LdB w30 (Addr.add (⟨b0, 0, none⟩) 4) fun b6 =>
  Calls Try.prog 25 #[.pointer r0, .agg #[.int .i64 n18, .slice s6p s6l s6c, .slice s7p s7l s7c, .int .i64 n19, .bool b6]] w30 fun e4 w31 =>
  ∃ (r15 : Bool), e4 = .returned (.bool r15) ∧
  cond (!r15)
  (R (.returned (.bool false)) w31)
  (k0 w31))
  (k0 w30)))
def S_law7_ArenaPlays_j1 (i0 : Int) (w8 : World) (I0 : Int → World → Prop) (M0 : Int → World → Nat) (w32 : World) : Prop :=
  I0 (IntKind.wrap .i64 (i0 + 1)) w32 ∧ M0 (IntKind.wrap .i64 (i0 + 1)) w32 < M0 i0 w8
def S_law7_ArenaPlays_l0 (l0p : Option Addr) (l0l : Nat) (R : Ending → World → Prop) (r0 : Option Addr) (b0 : Nat) (i0 : Int) (w8 : World) (I0 : Int → World → Prop) (M0 : Int → World → Nat) : Prop :=
  cond (decide (i0 < (Nat.cast l0l : Int)))
  (∀ k0 : World → Prop,
  (∀ (w32 : World), S_law7_ArenaPlays_j1 i0 w8 I0 M0 w32 → k0 w32) →
  ∀ k1 : Addr → Bool → World → Prop,
  (∀ (next0 : Addr) (ok0 : Bool) (w25 : World), S_law7_ArenaPlays_j0 R r0 b0 i0 k0 next0 ok0 w25 → k1 next0 ok0 w25) →
  ∃ C0 : World → Prop, C0 (World.drew w8) ∧
  ∃ (n0 : Int), ∃ (s0p : Option Addr), ∃ (s0l : Nat), ∃ (s0c : Nat), ∃ (s1p : Option Addr), ∃ (s1l : Nat), ∃ (s1c : Nat), ∃ (n1 : Int), ∃ (b1 : Bool), (∀ (w9 : World), C0 w9 →
  LdI .i64 w9 (⟨b0, 0, none⟩) fun n2 =>
  LdS w9 (Addr.add (⟨b0, 0, none⟩) 1) fun s2p s2l s2c =>
  LdS w9 (Addr.add (⟨b0, 0, none⟩) 2) fun s3p s3l s3c =>
  LdI .i64 w9 (Addr.add (⟨b0, 0, none⟩) 3) fun n3 =>
  LdB w9 (Addr.add (⟨b0, 0, none⟩) 4) fun b2 =>
  Value.agg #[.int .i64 n2, .slice s2p s2l s2c, .slice s3p s3l s3c, .int .i64 n3, .bool b2] = .agg #[.int .i64 n0, .slice s0p s0l s0c, .slice s1p s1l s1c, .int .i64 n1, .bool b1]) ∧
  IdxC l0p l0l i0 6 fun a0 =>
  ∃ (n4 : Int), ∃ (n5 : Int), ∃ (n6 : Int), ∃ (n7 : Int), ∃ (n8 : Int), ∃ (n9 : Int), (∀ (w10 : World), C0 w10 →
  LdI .i64 w10 a0 fun n10 =>
  LdI .i64 w10 (Addr.add a0 1) fun n11 =>
  LdI .i64 w10 (Addr.add a0 2) fun n12 =>
  LdI .i64 w10 (Addr.add a0 3) fun n13 =>
  LdI .i64 w10 (Addr.add a0 4) fun n14 =>
  LdI .u64 w10 (Addr.add a0 5) fun n15 =>
  Value.agg #[.int .i64 n10, .int .i64 n11, .int .i64 n12, .int .i64 n13, .int .i64 n14, .int .u64 n15] = .agg #[.int .i64 n4, .int .i64 n5, .int .i64 n6, .int .i64 n7, .int .i64 n8, .int .u64 n9]) ∧
  (Calls Try.prog 24 #[.pointer r0, .agg #[.int .i64 n0, .slice s0p s0l s0c, .slice s1p s1l s1c, .int .i64 n1, .bool b1], .agg #[.int .i64 n4, .int .i64 n5, .int .i64 n6, .int .i64 n7, .int .i64 n8, .int .u64 n9]] (World.drew w8) fun e2 w11 =>
  ∃ (r3 : Int), ∃ (r4p : Option Addr), ∃ (r4l : Nat), ∃ (r4c : Nat), ∃ (r5p : Option Addr), ∃ (r5l : Nat), ∃ (r5c : Nat), ∃ (r6 : Int), ∃ (r7 : Bool), ∃ (r8 : Bool), e2 = .returned (.tuple #[.agg #[.int .i64 r3, .slice r4p r4l r4c, .slice r5p r5l r5c, .int .i64 r6, .bool r7], .bool r8]) ∧
  C0 w11 ∧
  NewC (.cells #[.int .i64 0, .slice none 0 0, .slice none 0 0, .int .i64 0, .bool false] 61 (0, 0)) w11 fun b3 w12 =>
  C0 w12 ∧
  StC w12 (⟨b3, 0, none⟩) (.int .i64 r3) fun w13 =>
  StC w13 (Addr.add (⟨b3, 0, none⟩) 1) (.slice r4p r4l r4c) fun w14 =>
  StC w14 (Addr.add (⟨b3, 0, none⟩) 2) (.slice r5p r5l r5c) fun w15 =>
  StC w15 (Addr.add (⟨b3, 0, none⟩) 3) (.int .i64 r6) fun w16 =>
  StC w16 (Addr.add (⟨b3, 0, none⟩) 4) (.bool r7) fun w17 =>
  C0 w17 ∧
  k1 (⟨b3, 0, none⟩) r8 w17) ∧
  (NewC (.cells #[.int .i64 0, .slice none 0 0, .slice none 0 0, .int .i64 0, .bool false] 61 (0, 0)) (World.drew w8) fun b4 w18 =>
  C0 w18 ∧
  Calls Try.prog 24 #[.pointer r0, .agg #[.int .i64 n0, .slice s0p s0l s0c, .slice s1p s1l s1c, .int .i64 n1, .bool b1], .agg #[.int .i64 n4, .int .i64 n5, .int .i64 n6, .int .i64 n7, .int .i64 n8, .int .u64 n9]] w18 fun e3 w19 =>
  ∃ (r9 : Int), ∃ (r10p : Option Addr), ∃ (r10l : Nat), ∃ (r10c : Nat), ∃ (r11p : Option Addr), ∃ (r11l : Nat), ∃ (r11c : Nat), ∃ (r12 : Int), ∃ (r13 : Bool), ∃ (r14 : Bool), e3 = .returned (.tuple #[.agg #[.int .i64 r9, .slice r10p r10l r10c, .slice r11p r11l r11c, .int .i64 r12, .bool r13], .bool r14]) ∧
  C0 w19 ∧
  StC w19 (⟨b4, 0, none⟩) (.int .i64 r9) fun w20 =>
  StC w20 (Addr.add (⟨b4, 0, none⟩) 1) (.slice r10p r10l r10c) fun w21 =>
  StC w21 (Addr.add (⟨b4, 0, none⟩) 2) (.slice r11p r11l r11c) fun w22 =>
  StC w22 (Addr.add (⟨b4, 0, none⟩) 3) (.int .i64 r12) fun w23 =>
  StC w23 (Addr.add (⟨b4, 0, none⟩) 4) (.bool r13) fun w24 =>
  C0 w24 ∧
  k1 (⟨b4, 0, none⟩) r14 w24))
  (LdI .i64 w8 (⟨b0, 0, none⟩) fun n20 =>
  LdS w8 (Addr.add (⟨b0, 0, none⟩) 1) fun s8p s8l s8c =>
  LdS w8 (Addr.add (⟨b0, 0, none⟩) 2) fun s9p s9l s9c =>
  LdI .i64 w8 (Addr.add (⟨b0, 0, none⟩) 3) fun n21 =>
  LdB w8 (Addr.add (⟨b0, 0, none⟩) 4) fun b7 =>
  Calls Try.prog 25 #[.pointer r0, .agg #[.int .i64 n20, .slice s8p s8l s8c, .slice s9p s9l s9c, .int .i64 n21, .bool b7]] w8 fun e5 w33 =>
  ∃ (r16 : Bool), e5 = .returned (.bool r16) ∧
  R (.returned (.bool r16)) w33)
def S_law7_ArenaPlays (words0 : Int) (l0p : Option Addr) (l0l : Nat) (l0c : Nat) (w : World) (R : Ending → World → Prop) : Prop :=
  Calls Try.prog 22 #[.int .i64 words0] w fun e0 w0 =>
  ∃ (r0 : Option Addr), ∃ (r1 : Int), e0 = .returned (.tuple #[.pointer r0, .int .i64 r1]) ∧
  Calls Try.prog 8 #[] w0 fun e1 w1 =>
  ∃ (r2 : Bool), e1 = .returned (.bool r2) ∧
  cond (!r2)
  (R (.returned (.bool false)) w1)
  (cond (decide (words0 < 1))
  (cond (r1 == 1)
  (R (.returned (.bool r0.isNone)) w1)
  (R (.returned (.bool false)) w1))
  (cond (decide (words0 > 1048576))
  (cond (r1 == 1)
  (R (.returned (.bool r0.isNone)) w1)
  (R (.returned (.bool false)) w1))
  (cond (r1 != 0)
  (R (.returned (.bool false)) w1)
  (cond r0.isNone
  (R (.returned (.bool false)) w1)
  (NewC (.cells #[.int .i64 0, .slice none 0 0, .slice none 0 0, .int .i64 0, .bool false] 61 (0, 0)) w1 fun b0 w2 =>
  StC w2 (⟨b0, 0, none⟩) (.int .i64 words0) fun w3 =>
  StC w3 (Addr.add (⟨b0, 0, none⟩) 1) (.slice none 0 0) fun w4 =>
  StC w4 (Addr.add (⟨b0, 0, none⟩) 2) (.slice none 0 0) fun w5 =>
  StC w5 (Addr.add (⟨b0, 0, none⟩) 3) (.int .i64 0) fun w6 =>
  StC w6 (Addr.add (⟨b0, 0, none⟩) 4) (.bool false) fun w7 =>
  ∃ (I0 : Int → World → Prop) (M0 : Int → World → Nat), I0 0 w7 ∧
  ∀ (i0 : Int) (w8 : World), I0 i0 w8 →
  S_law7_ArenaPlays_l0 l0p l0l R r0 b0 i0 w8 I0 M0)))))
def S_law7_ArenaPlays_ann : Ann := (.seq .leaf (.seq .leaf (.seq .leaf (.seq .leaf (.seq .leaf (.seq .leaf (.seq (.seq .leaf (.block (.loop [1, 5, 7] [(8, (.int .i64))] (.seq .leaf (.seq (.jblock [1, 5, 7, 8] [] (.join [1, 5, 7, 8] [(9, .addr), (10, .bool)] .any .leaf) .leaf) .leaf))))) .leaf)))))))
theorem S_law7_ArenaPlays_eq (words0 : Int) (l0p : Option Addr) (l0l : Nat) (l0c : Nat) (w : World) (R : Ending → World → Prop) : X Try.prog Try.f7.ntmps (bodyOf Try.f7) S_law7_ArenaPlays_ann (argEnv 0 [.int .i64 words0, .slice l0p l0l l0c]) w (fun e w' => resK Try.prog Try.f7.results.toList e w' [] fun vs => R (.returned (pack vs)) w') (fun e w' => resK Try.prog Try.f7.results.toList e w' [] fun vs => R (.returned (pack vs)) w') (fun _ _ _ => False) = S_law7_ArenaPlays words0 l0p l0l l0c w R := by kernel_rfl
theorem S_law7_ArenaPlays_ok (words0 : Int) (l0p : Option Addr) (l0l : Nat) (l0c : Nat) (w : World) (R : Ending → World → Prop) (h : S_law7_ArenaPlays words0 l0p l0l l0c w R) : Calls Try.prog 7 #[.int .i64 words0, .slice l0p l0l l0c] w R :=
  calls_of_X (an := S_law7_ArenaPlays_ann) wide_ok Try.func7 (by kernel_rfl) (by kernel_rfl) (by rw [S_law7_ArenaPlays_eq]; exact h)

def S_law7_awake (w : World) (R : Ending → World → Prop) : Prop :=
  Calls Try.prog 9 #[.int .i64 10] w fun e0 w0 =>
  ∃ (r0 : Option Addr), e0 = .returned (.pointer r0) ∧
  cond r0.isNone
  (R (.returned (.bool false)) w0)
  (Calls Try.prog 10 #[.pointer r0, .int .i64 1, .int .i64 1, .int .i64 2, .int .i64 5] w0 fun e1 w1 =>
  ∃ (r1 : Int), ∃ (r2 : Int), e1 = .returned (.tuple #[.int .i64 r1, .int .i64 r2]) ∧
  Calls Try.prog 12 #[.pointer r0, .int .i64 0, .int .i64 1, .int .u64 7] w1 fun e2 w2 =>
  ∃ (r3 : Int), e2 = .returned (.int .i64 r3) ∧
  Calls Try.prog 14 #[.pointer r0, .int .i64 0, .int .i64 1] w2 fun e3 w3 =>
  ∃ (r4 : Int), ∃ (r5 : Int), e3 = .returned (.tuple #[.int .u64 r4, .int .i64 r5]) ∧
  cond (r2 == 0)
  (cond (r1 == 0)
  (cond (r3 == 0)
  (cond (r5 == 0)
  (cond (r4 == 7)
  (Calls Try.prog 19 #[.pointer r0] w3 fun e4 w4 =>
  ∃ (r6 : Int), e4 = .returned (.int .i64 r6) ∧
  R (.returned (.bool (r6 == 3))) w4)
  (R (.returned (.bool false)) w3))
  (R (.returned (.bool false)) w3))
  (R (.returned (.bool false)) w3))
  (R (.returned (.bool false)) w3))
  (R (.returned (.bool false)) w3))
def S_law7_awake_ann : Ann := .leaf
theorem S_law7_awake_eq (w : World) (R : Ending → World → Prop) : X Try.prog Try.f8.ntmps (bodyOf Try.f8) S_law7_awake_ann (argEnv 0 []) w (fun e w' => resK Try.prog Try.f8.results.toList e w' [] fun vs => R (.returned (pack vs)) w') (fun e w' => resK Try.prog Try.f8.results.toList e w' [] fun vs => R (.returned (pack vs)) w') (fun _ _ _ => False) = S_law7_awake w R := by kernel_rfl
theorem S_law7_awake_ok (w : World) (R : Ending → World → Prop) (h : S_law7_awake w R) : Calls Try.prog 8 #[] w R :=
  calls_of_X (an := S_law7_awake_ann) wide_ok Try.func8 (by kernel_rfl) (by kernel_rfl) (by rw [S_law7_awake_eq]; exact h)

def S_law7_fresh (words0 : Int) (w : World) (R : Ending → World → Prop) : Prop :=
  Calls Try.prog 22 #[.int .i64 words0] w fun e0 w0 =>
  ∃ (r0 : Option Addr), ∃ (r1 : Int), e0 = .returned (.tuple #[.pointer r0, .int .i64 r1]) ∧
  cond (r1 != 0)
  (R (.returned (.pointer none)) w0)
  (R (.returned (.pointer r0)) w0)
def S_law7_fresh_ann : Ann := .leaf
theorem S_law7_fresh_eq (words0 : Int) (w : World) (R : Ending → World → Prop) : X Try.prog Try.f9.ntmps (bodyOf Try.f9) S_law7_fresh_ann (argEnv 0 [.int .i64 words0]) w (fun e w' => resK Try.prog Try.f9.results.toList e w' [] fun vs => R (.returned (pack vs)) w') (fun e w' => resK Try.prog Try.f9.results.toList e w' [] fun vs => R (.returned (pack vs)) w') (fun _ _ _ => False) = S_law7_fresh words0 w R := by kernel_rfl
theorem S_law7_fresh_ok (words0 : Int) (w : World) (R : Ending → World → Prop) (h : S_law7_fresh words0 w R) : Calls Try.prog 9 #[.int .i64 words0] w R :=
  calls_of_X (an := S_law7_fresh_ann) wide_ok Try.func9 (by kernel_rfl) (by kernel_rfl) (by rw [S_law7_fresh_eq]; exact h)

def S_arena_Arena_Alloc (a0 : Option Addr) (tag0 : Int) (refs0 : Int) (size0 : Int) (owner0 : Int) (w : World) (R : Ending → World → Prop) : Prop :=
  Calls Try.prog 26 #[.int .i64 tag0, .int .i64 refs0, .int .i64 size0, .int .i64 owner0] w fun e0 w0 =>
  ∃ (r0 : Int), e0 = .returned (.int .i64 r0) ∧
  cond (r0 != 0)
  (R (.returned (.tuple #[.int .i64 0, .int .i64 1])) w0)
  (Calls Try.prog 15 #[.pointer a0] w0 fun e1 w1 =>
  ∃ (r1 : Int), e1 = .returned (.int .i64 r1) ∧
  cond (decide (r1 < (IntKind.wrap .i64 (size0 + 1))))
  (R (.returned (.tuple #[.int .i64 0, .int .i64 5])) w1)
  (onSome a0 fun a1 =>
  LdI .i64 w1 (Addr.add a1 2) fun n0 =>
  ∃ C0 : World → Prop, C0 (World.drew w1) ∧
  onSome a0 fun a2 =>
  LdSQ C0 a2 fun s0p s0l _ =>
  Calls Try.prog 27 #[.agg #[.int .i64 tag0, .int .i64 refs0, .int .i64 size0, .bool false, .int .i64 owner0]] (World.drew w1) fun e2 w2 =>
  ∃ (r2 : Int), e2 = .returned (.int .u64 r2) ∧
  C0 w2 ∧
  IdxC s0p s0l n0 1 fun a3 =>
  StC w2 a3 (.int .u64 r2) fun w3 =>
  C0 w3 ∧
  onSome a0 fun a4 =>
  LdS w3 a4 fun s1p _ s1c =>
  SlC s1p s1c (IntKind.wrap .i64 (n0 + 1)) (IntKind.wrap .i64 ((IntKind.wrap .i64 (n0 + 1)) + size0)) (Nat.cast s1c : Int) 1 fun s2p s2l s2c =>
  RunU Try.prog (Builtin.clear_ #[32] 0 #[.slice s2p s2l s2c]) w3 fun w4 =>
  Calls Try.prog 28 #[.pointer a0, .int .i64 n0, .bool true] w4 fun e3 w5 =>
  e3 = .returned (.tuple #[]) ∧
  onSome a0 fun a5 =>
  LdI .i64 w5 (Addr.add a5 2) fun n1 =>
  onSome a0 fun a6 =>
  StC w5 (Addr.add a6 2) (.int .i64 (IntKind.wrap .i64 (n1 + (IntKind.wrap .i64 (size0 + 1))))) fun w6 =>
  R (.returned (.tuple #[.int .i64 n0, .int .i64 0])) w6))
def S_arena_Arena_Alloc_ann : Ann := (.seq .leaf (.seq .leaf (.seq .leaf (.seq .any .leaf))))
theorem S_arena_Arena_Alloc_eq (a0 : Option Addr) (tag0 : Int) (refs0 : Int) (size0 : Int) (owner0 : Int) (w : World) (R : Ending → World → Prop) : X Try.prog Try.f10.ntmps (bodyOf Try.f10) S_arena_Arena_Alloc_ann (argEnv 0 [.pointer a0, .int .i64 tag0, .int .i64 refs0, .int .i64 size0, .int .i64 owner0]) w (fun e w' => resK Try.prog Try.f10.results.toList e w' [] fun vs => R (.returned (pack vs)) w') (fun e w' => resK Try.prog Try.f10.results.toList e w' [] fun vs => R (.returned (pack vs)) w') (fun _ _ _ => False) = S_arena_Arena_Alloc a0 tag0 refs0 size0 owner0 w R := by kernel_rfl
theorem S_arena_Arena_Alloc_ok (a0 : Option Addr) (tag0 : Int) (refs0 : Int) (size0 : Int) (owner0 : Int) (w : World) (R : Ending → World → Prop) (h : S_arena_Arena_Alloc a0 tag0 refs0 size0 owner0 w R) : Calls Try.prog 10 #[.pointer a0, .int .i64 tag0, .int .i64 refs0, .int .i64 size0, .int .i64 owner0] w R :=
  calls_of_X (an := S_arena_Arena_Alloc_ann) wide_ok Try.func10 (by kernel_rfl) (by kernel_rfl) (by rw [S_arena_Arena_Alloc_eq]; exact h)

def S_arena_Arena_Mark (a0 : Option Addr) (at0 : Int) (on0 : Bool) (w : World) (R : Ending → World → Prop) : Prop :=
  Calls Try.prog 13 #[.pointer a0, .int .i64 at0] w fun e0 w0 =>
  ∃ (r0 : Int), ∃ (r1 : Int), ∃ (r2 : Int), ∃ (r3 : Bool), ∃ (r4 : Int), ∃ (r5 : Int), e0 = .returned (.tuple #[.agg #[.int .i64 r0, .int .i64 r1, .int .i64 r2, .bool r3, .int .i64 r4], .int .i64 r5]) ∧
  NewC (.cells #[.int .i64 0, .int .i64 0, .int .i64 0, .bool false, .int .i64 0] 39 (0, 0)) w0 fun b0 w1 =>
  StC w1 (⟨b0, 0, none⟩) (.int .i64 r0) fun w2 =>
  StC w2 (Addr.add (⟨b0, 0, none⟩) 1) (.int .i64 r1) fun w3 =>
  StC w3 (Addr.add (⟨b0, 0, none⟩) 2) (.int .i64 r2) fun w4 =>
  StC w4 (Addr.add (⟨b0, 0, none⟩) 3) (.bool r3) fun w5 =>
  StC w5 (Addr.add (⟨b0, 0, none⟩) 4) (.int .i64 r4) fun w6 =>
  cond (r5 == 0)
  (StC w6 (Addr.add (⟨b0, 0, none⟩) 3) (.bool on0) fun w7 =>
  ∃ C0 : World → Prop, C0 (World.drew w7) ∧
  onSome a0 fun a1 =>
  LdSQ C0 a1 fun s0p s0l _ =>
  ∃ (n0 : Int), ∃ (n1 : Int), ∃ (n2 : Int), ∃ (b1 : Bool), ∃ (n3 : Int), (∀ (w8 : World), C0 w8 →
  LdI .i64 w8 (⟨b0, 0, none⟩) fun n4 =>
  LdI .i64 w8 (Addr.add (⟨b0, 0, none⟩) 1) fun n5 =>
  LdI .i64 w8 (Addr.add (⟨b0, 0, none⟩) 2) fun n6 =>
  LdB w8 (Addr.add (⟨b0, 0, none⟩) 3) fun b2 =>
  LdI .i64 w8 (Addr.add (⟨b0, 0, none⟩) 4) fun n7 =>
  Value.agg #[.int .i64 n4, .int .i64 n5, .int .i64 n6, .bool b2, .int .i64 n7] = .agg #[.int .i64 n0, .int .i64 n1, .int .i64 n2, .bool b1, .int .i64 n3]) ∧
  Calls Try.prog 27 #[.agg #[.int .i64 n0, .int .i64 n1, .int .i64 n2, .bool b1, .int .i64 n3]] (World.drew w7) fun e1 w9 =>
  ∃ (r6 : Int), e1 = .returned (.int .u64 r6) ∧
  C0 w9 ∧
  IdxC s0p s0l at0 1 fun a2 =>
  StC w9 a2 (.int .u64 r6) fun w10 =>
  C0 w10 ∧
  R (.returned (.int .i64 r5)) w10)
  (R (.returned (.int .i64 r5)) w6)
def S_arena_Arena_Mark_ann : Ann := (.seq .leaf (.seq .leaf (.seq (.seq .leaf (.cond (.seq .leaf .any) .leaf)) .leaf)))
theorem S_arena_Arena_Mark_eq (a0 : Option Addr) (at0 : Int) (on0 : Bool) (w : World) (R : Ending → World → Prop) : X Try.prog Try.f11.ntmps (bodyOf Try.f11) S_arena_Arena_Mark_ann (argEnv 0 [.pointer a0, .int .i64 at0, .bool on0]) w (fun e w' => resK Try.prog Try.f11.results.toList e w' [] fun vs => R (.returned (pack vs)) w') (fun e w' => resK Try.prog Try.f11.results.toList e w' [] fun vs => R (.returned (pack vs)) w') (fun _ _ _ => False) = S_arena_Arena_Mark a0 at0 on0 w R := by kernel_rfl
theorem S_arena_Arena_Mark_ok (a0 : Option Addr) (at0 : Int) (on0 : Bool) (w : World) (R : Ending → World → Prop) (h : S_arena_Arena_Mark a0 at0 on0 w R) : Calls Try.prog 11 #[.pointer a0, .int .i64 at0, .bool on0] w R :=
  calls_of_X (an := S_arena_Arena_Mark_ann) wide_ok Try.func11 (by kernel_rfl) (by kernel_rfl) (by rw [S_arena_Arena_Mark_eq]; exact h)

def S_arena_Arena_Put (a0 : Option Addr) (at0 : Int) (i0 : Int) (w0 : Int) (w : World) (R : Ending → World → Prop) : Prop :=
  Calls Try.prog 29 #[.pointer a0, .int .i64 at0, .int .i64 i0] w fun e0 w1 =>
  ∃ (r0 : Int), ∃ (r1 : Int), e0 = .returned (.tuple #[.int .i64 r0, .int .i64 r1]) ∧
  cond (r1 == 0)
  (onSome a0 fun a1 =>
  LdS w1 a1 fun s0p s0l _ =>
  IdxC s0p s0l r0 1 fun a2 =>
  StC w1 a2 (.int .u64 w0) fun w2 =>
  R (.returned (.int .i64 r1)) w2)
  (R (.returned (.int .i64 r1)) w1)
def S_arena_Arena_Put_ann : Ann := .leaf
theorem S_arena_Arena_Put_eq (a0 : Option Addr) (at0 : Int) (i0 : Int) (w0 : Int) (w : World) (R : Ending → World → Prop) : X Try.prog Try.f12.ntmps (bodyOf Try.f12) S_arena_Arena_Put_ann (argEnv 0 [.pointer a0, .int .i64 at0, .int .i64 i0, .int .u64 w0]) w (fun e w' => resK Try.prog Try.f12.results.toList e w' [] fun vs => R (.returned (pack vs)) w') (fun e w' => resK Try.prog Try.f12.results.toList e w' [] fun vs => R (.returned (pack vs)) w') (fun _ _ _ => False) = S_arena_Arena_Put a0 at0 i0 w0 w R := by kernel_rfl
theorem S_arena_Arena_Put_ok (a0 : Option Addr) (at0 : Int) (i0 : Int) (w0 : Int) (w : World) (R : Ending → World → Prop) (h : S_arena_Arena_Put a0 at0 i0 w0 w R) : Calls Try.prog 12 #[.pointer a0, .int .i64 at0, .int .i64 i0, .int .u64 w0] w R :=
  calls_of_X (an := S_arena_Arena_Put_ann) wide_ok Try.func12 (by kernel_rfl) (by kernel_rfl) (by rw [S_arena_Arena_Put_eq]; exact h)

def S_arena_Arena_Head (a0 : Option Addr) (at0 : Int) (w : World) (R : Ending → World → Prop) : Prop :=
  NewC (.cells #[.int .i64 0, .int .i64 0, .int .i64 0, .bool false, .int .i64 0] 39 (0, 0)) w fun b0 w0 =>
  Calls Try.prog 30 #[.pointer a0, .int .i64 at0] w0 fun e0 w1 =>
  ∃ (r0 : Bool), e0 = .returned (.bool r0) ∧
  cond (!r0)
  (StC w1 (⟨b0, 0, none⟩) (.int .i64 0) fun w2 =>
  StC w2 (Addr.add (⟨b0, 0, none⟩) 1) (.int .i64 0) fun w3 =>
  StC w3 (Addr.add (⟨b0, 0, none⟩) 2) (.int .i64 0) fun w4 =>
  StC w4 (Addr.add (⟨b0, 0, none⟩) 3) (.bool false) fun w5 =>
  StC w5 (Addr.add (⟨b0, 0, none⟩) 4) (.int .i64 0) fun w6 =>
  LdI .i64 w6 (⟨b0, 0, none⟩) fun n0 =>
  LdI .i64 w6 (Addr.add (⟨b0, 0, none⟩) 1) fun n1 =>
  LdI .i64 w6 (Addr.add (⟨b0, 0, none⟩) 2) fun n2 =>
  LdB w6 (Addr.add (⟨b0, 0, none⟩) 3) fun b1 =>
  LdI .i64 w6 (Addr.add (⟨b0, 0, none⟩) 4) fun n3 =>
  R (.returned (.tuple #[.agg #[.int .i64 n0, .int .i64 n1, .int .i64 n2, .bool b1, .int .i64 n3], .int .i64 1])) w6)
  (onSome a0 fun a1 =>
  LdS w1 a1 fun s0p s0l _ =>
  IdxC s0p s0l at0 1 fun a2 =>
  LdI .u64 w1 a2 fun n4 =>
  Calls Try.prog 31 #[.int .u64 n4] w1 fun e1 w7 =>
  ∃ (r1 : Int), ∃ (r2 : Int), ∃ (r3 : Int), ∃ (r4 : Bool), ∃ (r5 : Int), e1 = .returned (.agg #[.int .i64 r1, .int .i64 r2, .int .i64 r3, .bool r4, .int .i64 r5]) ∧
  StC w7 (⟨b0, 0, none⟩) (.int .i64 r1) fun w8 =>
  StC w8 (Addr.add (⟨b0, 0, none⟩) 1) (.int .i64 r2) fun w9 =>
  StC w9 (Addr.add (⟨b0, 0, none⟩) 2) (.int .i64 r3) fun w10 =>
  StC w10 (Addr.add (⟨b0, 0, none⟩) 3) (.bool r4) fun w11 =>
  StC w11 (Addr.add (⟨b0, 0, none⟩) 4) (.int .i64 r5) fun w12 =>
  LdI .i64 w12 (⟨b0, 0, none⟩) fun n5 =>
  LdI .i64 w12 (Addr.add (⟨b0, 0, none⟩) 1) fun n6 =>
  LdI .i64 w12 (Addr.add (⟨b0, 0, none⟩) 2) fun n7 =>
  LdB w12 (Addr.add (⟨b0, 0, none⟩) 3) fun b2 =>
  LdI .i64 w12 (Addr.add (⟨b0, 0, none⟩) 4) fun n8 =>
  R (.returned (.tuple #[.agg #[.int .i64 n5, .int .i64 n6, .int .i64 n7, .bool b2, .int .i64 n8], .int .i64 0])) w12)
def S_arena_Arena_Head_ann : Ann := .leaf
theorem S_arena_Arena_Head_eq (a0 : Option Addr) (at0 : Int) (w : World) (R : Ending → World → Prop) : X Try.prog Try.f13.ntmps (bodyOf Try.f13) S_arena_Arena_Head_ann (argEnv 0 [.pointer a0, .int .i64 at0]) w (fun e w' => resK Try.prog Try.f13.results.toList e w' [] fun vs => R (.returned (pack vs)) w') (fun e w' => resK Try.prog Try.f13.results.toList e w' [] fun vs => R (.returned (pack vs)) w') (fun _ _ _ => False) = S_arena_Arena_Head a0 at0 w R := by kernel_rfl
theorem S_arena_Arena_Head_ok (a0 : Option Addr) (at0 : Int) (w : World) (R : Ending → World → Prop) (h : S_arena_Arena_Head a0 at0 w R) : Calls Try.prog 13 #[.pointer a0, .int .i64 at0] w R :=
  calls_of_X (an := S_arena_Arena_Head_ann) wide_ok Try.func13 (by kernel_rfl) (by kernel_rfl) (by rw [S_arena_Arena_Head_eq]; exact h)

def S_arena_Arena_Get (a0 : Option Addr) (at0 : Int) (i0 : Int) (w : World) (R : Ending → World → Prop) : Prop :=
  Calls Try.prog 29 #[.pointer a0, .int .i64 at0, .int .i64 i0] w fun e0 w0 =>
  ∃ (r0 : Int), ∃ (r1 : Int), e0 = .returned (.tuple #[.int .i64 r0, .int .i64 r1]) ∧
  cond (r1 != 0)
  (R (.returned (.tuple #[.int .u64 0, .int .i64 r1])) w0)
  (onSome a0 fun a1 =>
  LdS w0 a1 fun s0p s0l _ =>
  IdxC s0p s0l r0 1 fun a2 =>
  LdI .u64 w0 a2 fun n0 =>
  R (.returned (.tuple #[.int .u64 n0, .int .i64 0])) w0)
def S_arena_Arena_Get_ann : Ann := .leaf
theorem S_arena_Arena_Get_eq (a0 : Option Addr) (at0 : Int) (i0 : Int) (w : World) (R : Ending → World → Prop) : X Try.prog Try.f14.ntmps (bodyOf Try.f14) S_arena_Arena_Get_ann (argEnv 0 [.pointer a0, .int .i64 at0, .int .i64 i0]) w (fun e w' => resK Try.prog Try.f14.results.toList e w' [] fun vs => R (.returned (pack vs)) w') (fun e w' => resK Try.prog Try.f14.results.toList e w' [] fun vs => R (.returned (pack vs)) w') (fun _ _ _ => False) = S_arena_Arena_Get a0 at0 i0 w R := by kernel_rfl
theorem S_arena_Arena_Get_ok (a0 : Option Addr) (at0 : Int) (i0 : Int) (w : World) (R : Ending → World → Prop) (h : S_arena_Arena_Get a0 at0 i0 w R) : Calls Try.prog 14 #[.pointer a0, .int .i64 at0, .int .i64 i0] w R :=
  calls_of_X (an := S_arena_Arena_Get_ann) wide_ok Try.func14 (by kernel_rfl) (by kernel_rfl) (by rw [S_arena_Arena_Get_eq]; exact h)

def S_arena_Arena_Free (a0 : Option Addr) (w : World) (R : Ending → World → Prop) : Prop :=
  onSome a0 fun a1 =>
  LdS (World.drew w) a1 fun _ s0l _ =>
  onSome a0 fun a2 =>
  LdI .i64 (World.drew w) (Addr.add a2 2) fun n0 =>
  R (.returned (.int .i64 (IntKind.wrap .i64 ((Nat.cast s0l : Int) - n0)))) (World.drew w)
def S_arena_Arena_Free_ann : Ann := (.seq .leaf (.seq (.draw 11) .leaf))
theorem S_arena_Arena_Free_eq (a0 : Option Addr) (w : World) (R : Ending → World → Prop) : X Try.prog Try.f15.ntmps (bodyOf Try.f15) S_arena_Arena_Free_ann (argEnv 0 [.pointer a0]) w (fun e w' => resK Try.prog Try.f15.results.toList e w' [] fun vs => R (.returned (pack vs)) w') (fun e w' => resK Try.prog Try.f15.results.toList e w' [] fun vs => R (.returned (pack vs)) w') (fun _ _ _ => False) = S_arena_Arena_Free a0 w R := by kernel_rfl
theorem S_arena_Arena_Free_ok (a0 : Option Addr) (w : World) (R : Ending → World → Prop) (h : S_arena_Arena_Free a0 w R) : Calls Try.prog 15 #[.pointer a0] w R :=
  calls_of_X (an := S_arena_Arena_Free_ann) wide_ok Try.func15 (by kernel_rfl) (by kernel_rfl) (by rw [S_arena_Arena_Free_eq]; exact h)

def S_arena_Arena_Open (a0 : Option Addr) (w : World) (R : Ending → World → Prop) : Prop :=
  onSome a0 fun a1 =>
  LdB w (Addr.add a1 5) fun b0 =>
  cond b0
  (R (.returned (.int .i64 16)) w)
  (onSome a0 fun a2 =>
  StC w (Addr.add a2 5) (.bool true) fun w0 =>
  onSome a0 fun a3 =>
  StC w0 (Addr.add a3 3) (.int .i64 0) fun w1 =>
  onSome a0 fun a4 =>
  StC w1 (Addr.add a4 4) (.int .i64 0) fun w2 =>
  R (.returned (.int .i64 0)) w2)
def S_arena_Arena_Open_ann : Ann := .leaf
theorem S_arena_Arena_Open_eq (a0 : Option Addr) (w : World) (R : Ending → World → Prop) : X Try.prog Try.f16.ntmps (bodyOf Try.f16) S_arena_Arena_Open_ann (argEnv 0 [.pointer a0]) w (fun e w' => resK Try.prog Try.f16.results.toList e w' [] fun vs => R (.returned (pack vs)) w') (fun e w' => resK Try.prog Try.f16.results.toList e w' [] fun vs => R (.returned (pack vs)) w') (fun _ _ _ => False) = S_arena_Arena_Open a0 w R := by kernel_rfl
theorem S_arena_Arena_Open_ok (a0 : Option Addr) (w : World) (R : Ending → World → Prop) (h : S_arena_Arena_Open a0 w R) : Calls Try.prog 16 #[.pointer a0] w R :=
  calls_of_X (an := S_arena_Arena_Open_ann) wide_ok Try.func16 (by kernel_rfl) (by kernel_rfl) (by rw [S_arena_Arena_Open_eq]; exact h)

def S_arena_Arena_Skip (a0 : Option Addr) (w : World) (R : Ending → World → Prop) : Prop :=
  Calls Try.prog 32 #[.pointer a0] w fun e0 w0 =>
  ∃ (r0 : Int), ∃ (r1 : Int), ∃ (r2 : Int), ∃ (r3 : Bool), ∃ (r4 : Int), ∃ (r5 : Int), e0 = .returned (.tuple #[.agg #[.int .i64 r0, .int .i64 r1, .int .i64 r2, .bool r3, .int .i64 r4], .int .i64 r5]) ∧
  NewC (.cells #[.int .i64 0, .int .i64 0, .int .i64 0, .bool false, .int .i64 0] 39 (0, 0)) w0 fun b0 w1 =>
  StC w1 (⟨b0, 0, none⟩) (.int .i64 r0) fun w2 =>
  StC w2 (Addr.add (⟨b0, 0, none⟩) 1) (.int .i64 r1) fun w3 =>
  StC w3 (Addr.add (⟨b0, 0, none⟩) 2) (.int .i64 r2) fun w4 =>
  StC w4 (Addr.add (⟨b0, 0, none⟩) 3) (.bool r3) fun w5 =>
  StC w5 (Addr.add (⟨b0, 0, none⟩) 4) (.int .i64 r4) fun w6 =>
  cond (r5 != 0)
  (R (.returned (.tuple #[.int .i64 0, .int .i64 r5])) w6)
  (onSome a0 fun a1 =>
  LdI .i64 w6 (Addr.add a1 4) fun n0 =>
  Calls Try.prog 28 #[.pointer a0, .int .i64 n0, .bool false] w6 fun e1 w7 =>
  e1 = .returned (.tuple #[]) ∧
  onSome a0 fun a2 =>
  LdI .i64 (World.drew w7) (Addr.add a2 4) fun n1 =>
  LdI .i64 (World.drew w7) (Addr.add (⟨b0, 0, none⟩) 2) fun n2 =>
  onSome a0 fun a3 =>
  StC (World.drew w7) (Addr.add a3 4) (.int .i64 (IntKind.wrap .i64 (n1 + (IntKind.wrap .i64 (1 + n2))))) fun w8 =>
  R (.returned (.tuple #[.int .i64 n0, .int .i64 0])) w8)
def S_arena_Arena_Skip_ann : Ann := (.seq .leaf (.seq .leaf (.seq .leaf (.seq .leaf (.seq .leaf (.seq (.draw 10) .leaf))))))
theorem S_arena_Arena_Skip_eq (a0 : Option Addr) (w : World) (R : Ending → World → Prop) : X Try.prog Try.f17.ntmps (bodyOf Try.f17) S_arena_Arena_Skip_ann (argEnv 0 [.pointer a0]) w (fun e w' => resK Try.prog Try.f17.results.toList e w' [] fun vs => R (.returned (pack vs)) w') (fun e w' => resK Try.prog Try.f17.results.toList e w' [] fun vs => R (.returned (pack vs)) w') (fun _ _ _ => False) = S_arena_Arena_Skip a0 w R := by kernel_rfl
theorem S_arena_Arena_Skip_ok (a0 : Option Addr) (w : World) (R : Ending → World → Prop) (h : S_arena_Arena_Skip a0 w R) : Calls Try.prog 17 #[.pointer a0] w R :=
  calls_of_X (an := S_arena_Arena_Skip_ann) wide_ok Try.func17 (by kernel_rfl) (by kernel_rfl) (by rw [S_arena_Arena_Skip_eq]; exact h)

def S_arena_Arena_Close (a0 : Option Addr) (w : World) (R : Ending → World → Prop) : Prop :=
  onSome a0 fun a1 =>
  LdB w (Addr.add a1 5) fun b0 =>
  cond (!b0)
  (R (.returned (.int .i64 16)) w)
  (onSome a0 fun a2 =>
  LdI .i64 (World.drew w) (Addr.add a2 4) fun n0 =>
  onSome a0 fun a3 =>
  LdI .i64 (World.drew w) (Addr.add a3 2) fun n1 =>
  cond (n0 != n1)
  (R (.returned (.int .i64 20)) (World.drew w))
  (onSome a0 fun a4 =>
  LdI .i64 (World.drew w) (Addr.add a4 3) fun n2 =>
  onSome a0 fun a5 =>
  StC (World.drew w) (Addr.add a5 2) (.int .i64 n2) fun w0 =>
  onSome a0 fun a6 =>
  StC w0 (Addr.add a6 5) (.bool false) fun w1 =>
  onSome a0 fun a7 =>
  StC w1 (Addr.add a7 3) (.int .i64 0) fun w2 =>
  onSome a0 fun a8 =>
  StC w2 (Addr.add a8 4) (.int .i64 0) fun w3 =>
  R (.returned (.int .i64 0)) w3))
def S_arena_Arena_Close_ann : Ann := (.seq .leaf (.seq (.block (.seq .leaf (.cond .leaf (.seq (.draw 10) .leaf)))) .leaf))
theorem S_arena_Arena_Close_eq (a0 : Option Addr) (w : World) (R : Ending → World → Prop) : X Try.prog Try.f18.ntmps (bodyOf Try.f18) S_arena_Arena_Close_ann (argEnv 0 [.pointer a0]) w (fun e w' => resK Try.prog Try.f18.results.toList e w' [] fun vs => R (.returned (pack vs)) w') (fun e w' => resK Try.prog Try.f18.results.toList e w' [] fun vs => R (.returned (pack vs)) w') (fun _ _ _ => False) = S_arena_Arena_Close a0 w R := by kernel_rfl
theorem S_arena_Arena_Close_ok (a0 : Option Addr) (w : World) (R : Ending → World → Prop) (h : S_arena_Arena_Close a0 w R) : Calls Try.prog 18 #[.pointer a0] w R :=
  calls_of_X (an := S_arena_Arena_Close_ann) wide_ok Try.func18 (by kernel_rfl) (by kernel_rfl) (by rw [S_arena_Arena_Close_eq]; exact h)

def S_arena_Arena_Top (a0 : Option Addr) (w : World) (R : Ending → World → Prop) : Prop :=
  onSome a0 fun a1 =>
  LdI .i64 w (Addr.add a1 2) fun n0 =>
  R (.returned (.int .i64 n0)) w
def S_arena_Arena_Top_ann : Ann := .leaf
theorem S_arena_Arena_Top_eq (a0 : Option Addr) (w : World) (R : Ending → World → Prop) : X Try.prog Try.f19.ntmps (bodyOf Try.f19) S_arena_Arena_Top_ann (argEnv 0 [.pointer a0]) w (fun e w' => resK Try.prog Try.f19.results.toList e w' [] fun vs => R (.returned (pack vs)) w') (fun e w' => resK Try.prog Try.f19.results.toList e w' [] fun vs => R (.returned (pack vs)) w') (fun _ _ _ => False) = S_arena_Arena_Top a0 w R := by kernel_rfl
theorem S_arena_Arena_Top_ok (a0 : Option Addr) (w : World) (R : Ending → World → Prop) (h : S_arena_Arena_Top a0 w R) : Calls Try.prog 19 #[.pointer a0] w R :=
  calls_of_X (an := S_arena_Arena_Top_ann) wide_ok Try.func19 (by kernel_rfl) (by kernel_rfl) (by rw [S_arena_Arena_Top_eq]; exact h)

def S_arena_Arena_Keep (a0 : Option Addr) (w : World) (R : Ending → World → Prop) : Prop :=
  Calls Try.prog 32 #[.pointer a0] w fun e0 w0 =>
  ∃ (r0 : Int), ∃ (r1 : Int), ∃ (r2 : Int), ∃ (r3 : Bool), ∃ (r4 : Int), ∃ (r5 : Int), e0 = .returned (.tuple #[.agg #[.int .i64 r0, .int .i64 r1, .int .i64 r2, .bool r3, .int .i64 r4], .int .i64 r5]) ∧
  NewC (.cells #[.int .i64 0, .int .i64 0, .int .i64 0, .bool false, .int .i64 0] 39 (0, 0)) w0 fun b0 w1 =>
  StC w1 (⟨b0, 0, none⟩) (.int .i64 r0) fun w2 =>
  StC w2 (Addr.add (⟨b0, 0, none⟩) 1) (.int .i64 r1) fun w3 =>
  StC w3 (Addr.add (⟨b0, 0, none⟩) 2) (.int .i64 r2) fun w4 =>
  StC w4 (Addr.add (⟨b0, 0, none⟩) 3) (.bool r3) fun w5 =>
  StC w5 (Addr.add (⟨b0, 0, none⟩) 4) (.int .i64 r4) fun w6 =>
  cond (r5 != 0)
  (R (.returned (.tuple #[.int .i64 0, .int .i64 0, .int .i64 r5])) w6)
  (onSome a0 fun a1 =>
  LdI .i64 (World.drew w6) (Addr.add a1 4) fun n0 =>
  onSome a0 fun a2 =>
  LdI .i64 (World.drew w6) (Addr.add a2 3) fun n1 =>
  Calls Try.prog 28 #[.pointer a0, .int .i64 n0, .bool false] (World.drew w6) fun e1 w7 =>
  e1 = .returned (.tuple #[]) ∧
  onSome a0 fun a3 =>
  LdS (World.drew w7) a3 fun s0p s0l s0c =>
  SlC s0p s0c n1 (Nat.cast s0l : Int) (Nat.cast s0c : Int) 1 fun s1p s1l s1c =>
  onSome a0 fun a4 =>
  LdS (World.drew w7) a4 fun s2p _ s2c =>
  LdI .i64 (World.drew w7) (Addr.add (⟨b0, 0, none⟩) 2) fun n2 =>
  SlC s2p s2c n0 (IntKind.wrap .i64 ((IntKind.wrap .i64 (n0 + 1)) + n2)) (Nat.cast s2c : Int) 1 fun s3p s3l s3c =>
  RunI Try.prog .i64 (Builtin.copy_ #[32, 32] 3 #[.slice s1p s1l s1c, .slice s3p s3l s3c]) (World.drew w7) fun _ w8 =>
  Calls Try.prog 28 #[.pointer a0, .int .i64 n1, .bool true] w8 fun e2 w9 =>
  e2 = .returned (.tuple #[]) ∧
  ∃ C0 : World → Prop, C0 (World.drew w9) ∧
  LdIQ .i64 C0 (Addr.add (⟨b0, 0, none⟩) 2) fun n4 =>
  LdIQ .i64 C0 (Addr.add (⟨b0, 0, none⟩) 2) fun n5 =>
  onSome a0 fun a5 =>
  StC (World.drew w9) (Addr.add a5 3) (.int .i64 (IntKind.wrap .i64 ((IntKind.wrap .i64 (n1 + 1)) + n4))) fun w10 =>
  C0 w10 ∧
  onSome a0 fun a6 =>
  StC w10 (Addr.add a6 4) (.int .i64 (IntKind.wrap .i64 ((IntKind.wrap .i64 (n0 + 1)) + n5))) fun w11 =>
  C0 w11 ∧
  R (.returned (.tuple #[.int .i64 n0, .int .i64 n1, .int .i64 0])) w11)
def S_arena_Arena_Keep_ann : Ann := (.seq .leaf (.seq .leaf (.seq .leaf (.seq (.draw 10) (.seq .leaf (.seq (.draw 17) (.seq .leaf (.seq .any .leaf))))))))
theorem S_arena_Arena_Keep_eq (a0 : Option Addr) (w : World) (R : Ending → World → Prop) : X Try.prog Try.f20.ntmps (bodyOf Try.f20) S_arena_Arena_Keep_ann (argEnv 0 [.pointer a0]) w (fun e w' => resK Try.prog Try.f20.results.toList e w' [] fun vs => R (.returned (pack vs)) w') (fun e w' => resK Try.prog Try.f20.results.toList e w' [] fun vs => R (.returned (pack vs)) w') (fun _ _ _ => False) = S_arena_Arena_Keep a0 w R := by kernel_rfl
theorem S_arena_Arena_Keep_ok (a0 : Option Addr) (w : World) (R : Ending → World → Prop) (h : S_arena_Arena_Keep a0 w R) : Calls Try.prog 20 #[.pointer a0] w R :=
  calls_of_X (an := S_arena_Arena_Keep_ann) wide_ok Try.func20 (by kernel_rfl) (by kernel_rfl) (by rw [S_arena_Arena_Keep_eq]; exact h)

def S_arena_Arena_Next (a0 : Option Addr) (at0 : Int) (w : World) (R : Ending → World → Prop) : Prop :=
  Calls Try.prog 13 #[.pointer a0, .int .i64 at0] w fun e0 w0 =>
  ∃ (r0 : Int), ∃ (r1 : Int), ∃ (r2 : Int), ∃ (r3 : Bool), ∃ (r4 : Int), ∃ (r5 : Int), e0 = .returned (.tuple #[.agg #[.int .i64 r0, .int .i64 r1, .int .i64 r2, .bool r3, .int .i64 r4], .int .i64 r5]) ∧
  NewC (.cells #[.int .i64 0, .int .i64 0, .int .i64 0, .bool false, .int .i64 0] 39 (0, 0)) w0 fun b0 w1 =>
  StC w1 (⟨b0, 0, none⟩) (.int .i64 r0) fun w2 =>
  StC w2 (Addr.add (⟨b0, 0, none⟩) 1) (.int .i64 r1) fun w3 =>
  StC w3 (Addr.add (⟨b0, 0, none⟩) 2) (.int .i64 r2) fun w4 =>
  StC w4 (Addr.add (⟨b0, 0, none⟩) 3) (.bool r3) fun w5 =>
  StC w5 (Addr.add (⟨b0, 0, none⟩) 4) (.int .i64 r4) fun w6 =>
  cond (r5 != 0)
  (R (.returned (.tuple #[.int .i64 0, .int .i64 r5])) w6)
  (LdI .i64 w6 (Addr.add (⟨b0, 0, none⟩) 2) fun n0 =>
  Calls Try.prog 33 #[.pointer a0, .int .i64 (IntKind.wrap .i64 ((IntKind.wrap .i64 (at0 + 1)) + n0))] w6 fun e1 w7 =>
  ∃ (r6 : Int), e1 = .returned (.int .i64 r6) ∧
  R (.returned (.tuple #[.int .i64 r6, .int .i64 0])) w7)
def S_arena_Arena_Next_ann : Ann := .leaf
theorem S_arena_Arena_Next_eq (a0 : Option Addr) (at0 : Int) (w : World) (R : Ending → World → Prop) : X Try.prog Try.f21.ntmps (bodyOf Try.f21) S_arena_Arena_Next_ann (argEnv 0 [.pointer a0, .int .i64 at0]) w (fun e w' => resK Try.prog Try.f21.results.toList e w' [] fun vs => R (.returned (pack vs)) w') (fun e w' => resK Try.prog Try.f21.results.toList e w' [] fun vs => R (.returned (pack vs)) w') (fun _ _ _ => False) = S_arena_Arena_Next a0 at0 w R := by kernel_rfl
theorem S_arena_Arena_Next_ok (a0 : Option Addr) (at0 : Int) (w : World) (R : Ending → World → Prop) (h : S_arena_Arena_Next a0 at0 w R) : Calls Try.prog 21 #[.pointer a0, .int .i64 at0] w R :=
  calls_of_X (an := S_arena_Arena_Next_ann) wide_ok Try.func21 (by kernel_rfl) (by kernel_rfl) (by rw [S_arena_Arena_Next_eq]; exact h)

def S_arena_New (words0 : Int) (w : World) (R : Ending → World → Prop) : Prop :=
  cond (decide (words0 < 1))
  (R (.returned (.tuple #[.pointer none, .int .i64 1])) w)
  (cond (decide (words0 > 1048576))
  (R (.returned (.tuple #[.pointer none, .int .i64 1])) w)
  (∃ C0 : World → Prop, C0 (World.drew w) ∧
  DivC 64
  ((RunS Try.prog (Instr.makeSlice 32 (.int .i64 words0) (.int .i64 words0)) (World.drew w) fun s0p s0l s0c w0 =>
  C0 w0 ∧
  RunS Try.prog (Instr.makeSlice 32 (.int .i64 (IntKind.wrap .i64 ((IntKind.wrap .i64 (Int.tdiv words0 64)) + 1))) (.int .i64 (IntKind.wrap .i64 ((IntKind.wrap .i64 (Int.tdiv words0 64)) + 1)))) w0 fun s1p s1l s1c w1 =>
  C0 w1 ∧
  NewC (.cells #[.slice s0p s0l s0c, .slice s1p s1l s1c, .int .i64 0, .int .i64 0, .int .i64 0, .bool false] 68 (0, 0)) w1 fun b0 w2 =>
  C0 w2 ∧
  R (.returned (.tuple #[.pointer (some (⟨b0, 0, none⟩)), .int .i64 0])) w2) ∧
  (RunS Try.prog (Instr.makeSlice 32 (.int .i64 (IntKind.wrap .i64 ((IntKind.wrap .i64 (Int.tdiv words0 64)) + 1))) (.int .i64 (IntKind.wrap .i64 ((IntKind.wrap .i64 (Int.tdiv words0 64)) + 1)))) (World.drew w) fun s2p s2l s2c w3 =>
  C0 w3 ∧
  RunS Try.prog (Instr.makeSlice 32 (.int .i64 words0) (.int .i64 words0)) w3 fun s3p s3l s3c w4 =>
  C0 w4 ∧
  NewC (.cells #[.slice s3p s3l s3c, .slice s2p s2l s2c, .int .i64 0, .int .i64 0, .int .i64 0, .bool false] 68 (0, 0)) w4 fun b1 w5 =>
  C0 w5 ∧
  R (.returned (.tuple #[.pointer (some (⟨b1, 0, none⟩)), .int .i64 0])) w5))))
def S_arena_New_ann : Ann := (.seq .leaf (.seq .leaf (.seq .any .leaf)))
theorem S_arena_New_eq (words0 : Int) (w : World) (R : Ending → World → Prop) : X Try.prog Try.f22.ntmps (bodyOf Try.f22) S_arena_New_ann (argEnv 0 [.int .i64 words0]) w (fun e w' => resK Try.prog Try.f22.results.toList e w' [] fun vs => R (.returned (pack vs)) w') (fun e w' => resK Try.prog Try.f22.results.toList e w' [] fun vs => R (.returned (pack vs)) w') (fun _ _ _ => False) = S_arena_New words0 w R := by kernel_rfl
theorem S_arena_New_ok (words0 : Int) (w : World) (R : Ending → World → Prop) (h : S_arena_New words0 w R) : Calls Try.prog 22 #[.int .i64 words0] w R :=
  calls_of_X (an := S_arena_New_ann) wide_ok Try.func22 (by kernel_rfl) (by kernel_rfl) (by rw [S_arena_New_eq]; exact h)

def S_law7_lay_l0 (a0 : Option Addr) (b0 : Nat) (s0l : Nat) (r0 : Int) (k0 : Int → World → Prop) (e1 : Int) (i0 : Int) (w2 : World) (I0 : Int → Int → World → Prop) (M0 : Int → Int → World → Nat) : Prop :=
  cond (decide (i0 < (bAnd .i64 (Nat.cast s0l : Int) 15)))
  (cond (e1 == 0)
  (LdS w2 (Addr.add (⟨b0, 0, none⟩) 1) fun s1p s1l _ =>
  IdxC s1p s1l i0 1 fun a1 =>
  LdI .u64 w2 a1 fun n1 =>
  Calls Try.prog 12 #[.pointer a0, .int .i64 r0, .int .i64 i0, .int .u64 n1] w2 fun e2 w3 =>
  ∃ (r2 : Int), e2 = .returned (.int .i64 r2) ∧
  I0 r2 (IntKind.wrap .i64 (i0 + 1)) w3 ∧ M0 r2 (IntKind.wrap .i64 (i0 + 1)) w3 < M0 e1 i0 w2)
  (k0 e1 w2))
  (k0 e1 w2)
def S_law7_lay_j0 (R : Ending → World → Prop) (e3 : Int) (w4 : World) : Prop :=
  R (.returned (.bool (e3 == 0))) w4
def S_law7_lay (a0 : Option Addr) (x0 : Int) (x1p : Option Addr) (x1l : Nat) (x1c : Nat) (x2 : Bool) (owner0 : Int) (w : World) (R : Ending → World → Prop) : Prop :=
  NewC (.cells #[.int .i64 x0, .slice x1p x1l x1c, .bool x2] 57 (0, 0)) w fun b0 w0 =>
  LdS w0 (Addr.add (⟨b0, 0, none⟩) 1) fun _ s0l _ =>
  LdI .i64 w0 (⟨b0, 0, none⟩) fun n0 =>
  Calls Try.prog 10 #[.pointer a0, .int .i64 (IntKind.wrap .i64 (1 + (bAnd .i64 n0 127))), .int .i64 0, .int .i64 (bAnd .i64 (Nat.cast s0l : Int) 15), .int .i64 (bAnd .i64 owner0 1023)] w0 fun e0 w1 =>
  ∃ (r0 : Int), ∃ (r1 : Int), e0 = .returned (.tuple #[.int .i64 r0, .int .i64 r1]) ∧
  ∀ k0 : Int → World → Prop,
  (∀ (e3 : Int) (w4 : World), S_law7_lay_j0 R e3 w4 → k0 e3 w4) →
  ∃ (I0 : Int → Int → World → Prop) (M0 : Int → Int → World → Nat), I0 r1 0 w1 ∧
  ∀ (e1 : Int) (i0 : Int) (w2 : World), I0 e1 i0 w2 →
  S_law7_lay_l0 a0 b0 s0l r0 k0 e1 i0 w2 I0 M0
def S_law7_lay_ann : Ann := (.seq .leaf (.seq .leaf (.seq .leaf (.seq (.seq .leaf (.jblock [] [(9, (.int .i64))] (.loop [0, 4, 7, 8] [(9, (.int .i64)), (10, (.int .i64))] .leaf) .leaf)) .leaf))))
theorem S_law7_lay_eq (a0 : Option Addr) (x0 : Int) (x1p : Option Addr) (x1l : Nat) (x1c : Nat) (x2 : Bool) (owner0 : Int) (w : World) (R : Ending → World → Prop) : X Try.prog Try.f23.ntmps (bodyOf Try.f23) S_law7_lay_ann (argEnv 0 [.pointer a0, .agg #[.int .i64 x0, .slice x1p x1l x1c, .bool x2], .int .i64 owner0]) w (fun e w' => resK Try.prog Try.f23.results.toList e w' [] fun vs => R (.returned (pack vs)) w') (fun e w' => resK Try.prog Try.f23.results.toList e w' [] fun vs => R (.returned (pack vs)) w') (fun _ _ _ => False) = S_law7_lay a0 x0 x1p x1l x1c x2 owner0 w R := by kernel_rfl
theorem S_law7_lay_ok (a0 : Option Addr) (x0 : Int) (x1p : Option Addr) (x1l : Nat) (x1c : Nat) (x2 : Bool) (owner0 : Int) (w : World) (R : Ending → World → Prop) (h : S_law7_lay a0 x0 x1p x1l x1c x2 owner0 w R) : Calls Try.prog 23 #[.pointer a0, .agg #[.int .i64 x0, .slice x1p x1l x1c, .bool x2], .int .i64 owner0] w R :=
  calls_of_X (an := S_law7_lay_ann) wide_ok Try.func23 (by kernel_rfl) (by kernel_rfl) (by rw [S_law7_lay_eq]; exact h)

set_option maxRecDepth 100000 in
def S_law7_play (a0 : Option Addr) (m0 : Int) (m1p : Option Addr) (m1l : Nat) (m1c : Nat) (m2p : Option Addr) (m2l : Nat) (m2c : Nat) (m3 : Int) (m4 : Bool) (d0 : Int) (d1 : Int) (d2 : Int) (d3 : Int) (d4 : Int) (d5 : Int) (w : World) (R : Ending → World → Prop) : Prop :=
  NewC (.cells #[.int .i64 m0, .slice m1p m1l m1c, .slice m2p m2l m2c, .int .i64 m3, .bool m4] 61 (0, 0)) w fun b0 w0 =>
  NewC (.cells #[.int .i64 d0, .int .i64 d1, .int .i64 d2, .int .i64 d3, .int .i64 d4, .int .u64 d5] 35 (0, 0)) w0 fun b1 w1 =>
  NewC (.cells #[.int .i64 0, .slice none 0 0, .slice none 0 0, .int .i64 0, .bool false] 61 (0, 0)) w1 fun b2 w2 =>
  LdI .i64 w2 (⟨b1, 0, none⟩) fun n0 =>
  cond (decide (n0 ≤ 3))
  (LdI .i64 w2 (Addr.add (⟨b1, 0, none⟩) 2) fun n1 =>
  LdI .i64 w2 (Addr.add (⟨b1, 0, none⟩) 3) fun n2 =>
  LdI .i64 w2 (Addr.add (⟨b1, 0, none⟩) 4) fun n3 =>
  LdI .i64 w2 (Addr.add (⟨b1, 0, none⟩) 1) fun n4 =>
  Calls Try.prog 10 #[.pointer a0, .int .i64 n1, .int .i64 n2, .int .i64 n3, .int .i64 n4] w2 fun e0 w3 =>
  ∃ (r0 : Int), ∃ (r1 : Int), e0 = .returned (.tuple #[.int .i64 r0, .int .i64 r1]) ∧
  LdI .i64 w3 (⟨b0, 0, none⟩) fun n5 =>
  LdS w3 (Addr.add (⟨b0, 0, none⟩) 1) fun s0p s0l s0c =>
  LdS w3 (Addr.add (⟨b0, 0, none⟩) 2) fun s1p s1l s1c =>
  LdI .i64 w3 (Addr.add (⟨b0, 0, none⟩) 3) fun n6 =>
  LdB w3 (Addr.add (⟨b0, 0, none⟩) 4) fun b3 =>
  LdI .i64 w3 (Addr.add (⟨b1, 0, none⟩) 2) fun n7 =>
  LdI .i64 w3 (Addr.add (⟨b1, 0, none⟩) 3) fun n8 =>
  LdI .i64 w3 (Addr.add (⟨b1, 0, none⟩) 4) fun n9 =>
  LdI .i64 w3 (Addr.add (⟨b1, 0, none⟩) 1) fun n10 =>
  Calls Try.prog 34 #[.agg #[.int .i64 n5, .slice s0p s0l s0c, .slice s1p s1l s1c, .int .i64 n6, .bool b3], .int .i64 n7, .int .i64 n8, .int .i64 n9, .int .i64 n10] w3 fun e1 w4 =>
  ∃ (r2 : Int), ∃ (r3p : Option Addr), ∃ (r3l : Nat), ∃ (r3c : Nat), ∃ (r4p : Option Addr), ∃ (r4l : Nat), ∃ (r4c : Nat), ∃ (r5 : Int), ∃ (r6 : Bool), ∃ (r7 : Int), ∃ (r8 : Int), e1 = .returned (.tuple #[.agg #[.int .i64 r2, .slice r3p r3l r3c, .slice r4p r4l r4c, .int .i64 r5, .bool r6], .int .i64 r7, .int .i64 r8]) ∧
  NewC (.cells #[.int .i64 0, .slice none 0 0, .slice none 0 0, .int .i64 0, .bool false] 61 (0, 0)) w4 fun b4 w5 =>
  StC w5 (⟨b4, 0, none⟩) (.int .i64 r2) fun w6 =>
  StC w6 (Addr.add (⟨b4, 0, none⟩) 1) (.slice r3p r3l r3c) fun w7 =>
  StC w7 (Addr.add (⟨b4, 0, none⟩) 2) (.slice r4p r4l r4c) fun w8 =>
  StC w8 (Addr.add (⟨b4, 0, none⟩) 3) (.int .i64 r5) fun w9 =>
  StC w9 (Addr.add (⟨b4, 0, none⟩) 4) (.bool r6) fun w10 =>
  LdI .i64 w10 (⟨b4, 0, none⟩) fun n11 =>
  LdS w10 (Addr.add (⟨b4, 0, none⟩) 1) fun s2p s2l s2c =>
  LdS w10 (Addr.add (⟨b4, 0, none⟩) 2) fun s3p s3l s3c =>
  LdI .i64 w10 (Addr.add (⟨b4, 0, none⟩) 3) fun n12 =>
  LdB w10 (Addr.add (⟨b4, 0, none⟩) 4) fun b5 =>
  cond (r1 == r8)
  (StC w10 (⟨b2, 0, none⟩) (.int .i64 n11) fun w11 =>
  StC w11 (Addr.add (⟨b2, 0, none⟩) 1) (.slice s2p s2l s2c) fun w12 =>
  StC w12 (Addr.add (⟨b2, 0, none⟩) 2) (.slice s3p s3l s3c) fun w13 =>
  StC w13 (Addr.add (⟨b2, 0, none⟩) 3) (.int .i64 n12) fun w14 =>
  StC w14 (Addr.add (⟨b2, 0, none⟩) 4) (.bool b5) fun w15 =>
  LdI .i64 w15 (⟨b2, 0, none⟩) fun n13 =>
  LdS w15 (Addr.add (⟨b2, 0, none⟩) 1) fun s4p s4l s4c =>
  LdS w15 (Addr.add (⟨b2, 0, none⟩) 2) fun s5p s5l s5c =>
  LdI .i64 w15 (Addr.add (⟨b2, 0, none⟩) 3) fun n14 =>
  LdB w15 (Addr.add (⟨b2, 0, none⟩) 4) fun b6 =>
  R (.returned (.tuple #[.agg #[.int .i64 n13, .slice s4p s4l s4c, .slice s5p s5l s5c, .int .i64 n14, .bool b6], .bool (r0 == r7)])) w15)
  (StC w10 (⟨b2, 0, none⟩) (.int .i64 n11) fun w16 =>
  StC w16 (Addr.add (⟨b2, 0, none⟩) 1) (.slice s2p s2l s2c) fun w17 =>
  StC w17 (Addr.add (⟨b2, 0, none⟩) 2) (.slice s3p s3l s3c) fun w18 =>
  StC w18 (Addr.add (⟨b2, 0, none⟩) 3) (.int .i64 n12) fun w19 =>
  StC w19 (Addr.add (⟨b2, 0, none⟩) 4) (.bool b5) fun w20 =>
  LdI .i64 w20 (⟨b2, 0, none⟩) fun n15 =>
  LdS w20 (Addr.add (⟨b2, 0, none⟩) 1) fun s6p s6l s6c =>
  LdS w20 (Addr.add (⟨b2, 0, none⟩) 2) fun s7p s7l s7c =>
  LdI .i64 w20 (Addr.add (⟨b2, 0, none⟩) 3) fun n16 =>
  LdB w20 (Addr.add (⟨b2, 0, none⟩) 4) fun b7 =>
  R (.returned (.tuple #[.agg #[.int .i64 n15, .slice s6p s6l s6c, .slice s7p s7l s7c, .int .i64 n16, .bool b7], .bool false])) w20))
  (LdI .i64 w2 (⟨b1, 0, none⟩) fun n17 =>
  cond (decide (n17 ≤ 5))
  (LdI .i64 w2 (Addr.add (⟨b1, 0, none⟩) 1) fun n18 =>
  LdI .i64 w2 (Addr.add (⟨b1, 0, none⟩) 2) fun n19 =>
  LdI .u64 w2 (Addr.add (⟨b1, 0, none⟩) 5) fun n20 =>
  Calls Try.prog 12 #[.pointer a0, .int .i64 n18, .int .i64 n19, .int .u64 n20] w2 fun e2 w21 =>
  ∃ (r9 : Int), e2 = .returned (.int .i64 r9) ∧
  LdI .i64 w21 (⟨b0, 0, none⟩) fun n21 =>
  LdS w21 (Addr.add (⟨b0, 0, none⟩) 1) fun s8p s8l s8c =>
  LdS w21 (Addr.add (⟨b0, 0, none⟩) 2) fun s9p s9l s9c =>
  LdI .i64 w21 (Addr.add (⟨b0, 0, none⟩) 3) fun n22 =>
  LdB w21 (Addr.add (⟨b0, 0, none⟩) 4) fun b8 =>
  LdI .i64 w21 (Addr.add (⟨b1, 0, none⟩) 1) fun n23 =>
  LdI .i64 w21 (Addr.add (⟨b1, 0, none⟩) 2) fun n24 =>
  LdI .u64 w21 (Addr.add (⟨b1, 0, none⟩) 5) fun n25 =>
  Calls Try.prog 35 #[.agg #[.int .i64 n21, .slice s8p s8l s8c, .slice s9p s9l s9c, .int .i64 n22, .bool b8], .int .i64 n23, .int .i64 n24, .int .u64 n25] w21 fun e3 w22 =>
  ∃ (r10 : Int), ∃ (r11p : Option Addr), ∃ (r11l : Nat), ∃ (r11c : Nat), ∃ (r12p : Option Addr), ∃ (r12l : Nat), ∃ (r12c : Nat), ∃ (r13 : Int), ∃ (r14 : Bool), ∃ (r15 : Bool), e3 = .returned (.tuple #[.agg #[.int .i64 r10, .slice r11p r11l r11c, .slice r12p r12l r12c, .int .i64 r13, .bool r14], .bool r15]) ∧
  NewC (.cells #[.int .i64 0, .slice none 0 0, .slice none 0 0, .int .i64 0, .bool false] 61 (0, 0)) w22 fun b9 w23 =>
  StC w23 (⟨b9, 0, none⟩) (.int .i64 r10) fun w24 =>
  StC w24 (Addr.add (⟨b9, 0, none⟩) 1) (.slice r11p r11l r11c) fun w25 =>
  StC w25 (Addr.add (⟨b9, 0, none⟩) 2) (.slice r12p r12l r12c) fun w26 =>
  StC w26 (Addr.add (⟨b9, 0, none⟩) 3) (.int .i64 r13) fun w27 =>
  StC w27 (Addr.add (⟨b9, 0, none⟩) 4) (.bool r14) fun w28 =>
  LdI .i64 w28 (⟨b9, 0, none⟩) fun n26 =>
  LdS w28 (Addr.add (⟨b9, 0, none⟩) 1) fun s10p s10l s10c =>
  LdS w28 (Addr.add (⟨b9, 0, none⟩) 2) fun s11p s11l s11c =>
  LdI .i64 w28 (Addr.add (⟨b9, 0, none⟩) 3) fun n27 =>
  LdB w28 (Addr.add (⟨b9, 0, none⟩) 4) fun b10 =>
  cond (r15 == (r9 == 0))
  (cond r15
  (StC w28 (⟨b2, 0, none⟩) (.int .i64 n26) fun w29 =>
  StC w29 (Addr.add (⟨b2, 0, none⟩) 1) (.slice s10p s10l s10c) fun w30 =>
  StC w30 (Addr.add (⟨b2, 0, none⟩) 2) (.slice s11p s11l s11c) fun w31 =>
  StC w31 (Addr.add (⟨b2, 0, none⟩) 3) (.int .i64 n27) fun w32 =>
  StC w32 (Addr.add (⟨b2, 0, none⟩) 4) (.bool b10) fun w33 =>
  LdI .i64 w33 (⟨b2, 0, none⟩) fun n28 =>
  LdS w33 (Addr.add (⟨b2, 0, none⟩) 1) fun s12p s12l s12c =>
  LdS w33 (Addr.add (⟨b2, 0, none⟩) 2) fun s13p s13l s13c =>
  LdI .i64 w33 (Addr.add (⟨b2, 0, none⟩) 3) fun n29 =>
  LdB w33 (Addr.add (⟨b2, 0, none⟩) 4) fun b11 =>
  R (.returned (.tuple #[.agg #[.int .i64 n28, .slice s12p s12l s12c, .slice s13p s13l s13c, .int .i64 n29, .bool b11], .bool true])) w33)
  (StC w28 (⟨b2, 0, none⟩) (.int .i64 n26) fun w34 =>
  StC w34 (Addr.add (⟨b2, 0, none⟩) 1) (.slice s10p s10l s10c) fun w35 =>
  StC w35 (Addr.add (⟨b2, 0, none⟩) 2) (.slice s11p s11l s11c) fun w36 =>
  StC w36 (Addr.add (⟨b2, 0, none⟩) 3) (.int .i64 n27) fun w37 =>
  StC w37 (Addr.add (⟨b2, 0, none⟩) 4) (.bool b10) fun w38 =>
  LdI .i64 w38 (⟨b2, 0, none⟩) fun n30 =>
  LdS w38 (Addr.add (⟨b2, 0, none⟩) 1) fun s14p s14l s14c =>
  LdS w38 (Addr.add (⟨b2, 0, none⟩) 2) fun s15p s15l s15c =>
  LdI .i64 w38 (Addr.add (⟨b2, 0, none⟩) 3) fun n31 =>
  LdB w38 (Addr.add (⟨b2, 0, none⟩) 4) fun b12 =>
  R (.returned (.tuple #[.agg #[.int .i64 n30, .slice s14p s14l s14c, .slice s15p s15l s15c, .int .i64 n31, .bool b12], .bool (r9 == 1)])) w38))
  (StC w28 (⟨b2, 0, none⟩) (.int .i64 n26) fun w39 =>
  StC w39 (Addr.add (⟨b2, 0, none⟩) 1) (.slice s10p s10l s10c) fun w40 =>
  StC w40 (Addr.add (⟨b2, 0, none⟩) 2) (.slice s11p s11l s11c) fun w41 =>
  StC w41 (Addr.add (⟨b2, 0, none⟩) 3) (.int .i64 n27) fun w42 =>
  StC w42 (Addr.add (⟨b2, 0, none⟩) 4) (.bool b10) fun w43 =>
  LdI .i64 w43 (⟨b2, 0, none⟩) fun n32 =>
  LdS w43 (Addr.add (⟨b2, 0, none⟩) 1) fun s16p s16l s16c =>
  LdS w43 (Addr.add (⟨b2, 0, none⟩) 2) fun s17p s17l s17c =>
  LdI .i64 w43 (Addr.add (⟨b2, 0, none⟩) 3) fun n33 =>
  LdB w43 (Addr.add (⟨b2, 0, none⟩) 4) fun b13 =>
  R (.returned (.tuple #[.agg #[.int .i64 n32, .slice s16p s16l s16c, .slice s17p s17l s17c, .int .i64 n33, .bool b13], .bool false])) w43))
  (LdI .i64 w2 (⟨b1, 0, none⟩) fun n34 =>
  cond (n34 == 6)
  (LdI .i64 w2 (Addr.add (⟨b1, 0, none⟩) 1) fun n35 =>
  LdI .i64 w2 (Addr.add (⟨b1, 0, none⟩) 2) fun n36 =>
  Calls Try.prog 11 #[.pointer a0, .int .i64 n35, .bool ((bAnd .i64 n36 1) == 1)] w2 fun e4 w44 =>
  ∃ (r16 : Int), e4 = .returned (.int .i64 r16) ∧
  LdI .i64 w44 (⟨b0, 0, none⟩) fun n37 =>
  LdS w44 (Addr.add (⟨b0, 0, none⟩) 1) fun s18p s18l s18c =>
  LdS w44 (Addr.add (⟨b0, 0, none⟩) 2) fun s19p s19l s19c =>
  LdI .i64 w44 (Addr.add (⟨b0, 0, none⟩) 3) fun n38 =>
  LdB w44 (Addr.add (⟨b0, 0, none⟩) 4) fun b14 =>
  LdI .i64 w44 (Addr.add (⟨b1, 0, none⟩) 1) fun n39 =>
  LdI .i64 w44 (Addr.add (⟨b1, 0, none⟩) 2) fun n40 =>
  Calls Try.prog 36 #[.agg #[.int .i64 n37, .slice s18p s18l s18c, .slice s19p s19l s19c, .int .i64 n38, .bool b14], .int .i64 n39, .bool ((bAnd .i64 n40 1) == 1)] w44 fun e5 w45 =>
  ∃ (r17 : Int), ∃ (r18p : Option Addr), ∃ (r18l : Nat), ∃ (r18c : Nat), ∃ (r19p : Option Addr), ∃ (r19l : Nat), ∃ (r19c : Nat), ∃ (r20 : Int), ∃ (r21 : Bool), ∃ (r22 : Bool), e5 = .returned (.tuple #[.agg #[.int .i64 r17, .slice r18p r18l r18c, .slice r19p r19l r19c, .int .i64 r20, .bool r21], .bool r22]) ∧
  NewC (.cells #[.int .i64 0, .slice none 0 0, .slice none 0 0, .int .i64 0, .bool false] 61 (0, 0)) w45 fun b15 w46 =>
  StC w46 (⟨b15, 0, none⟩) (.int .i64 r17) fun w47 =>
  StC w47 (Addr.add (⟨b15, 0, none⟩) 1) (.slice r18p r18l r18c) fun w48 =>
  StC w48 (Addr.add (⟨b15, 0, none⟩) 2) (.slice r19p r19l r19c) fun w49 =>
  StC w49 (Addr.add (⟨b15, 0, none⟩) 3) (.int .i64 r20) fun w50 =>
  StC w50 (Addr.add (⟨b15, 0, none⟩) 4) (.bool r21) fun w51 =>
  LdI .i64 w51 (⟨b15, 0, none⟩) fun n41 =>
  LdS w51 (Addr.add (⟨b15, 0, none⟩) 1) fun s20p s20l s20c =>
  LdS w51 (Addr.add (⟨b15, 0, none⟩) 2) fun s21p s21l s21c =>
  LdI .i64 w51 (Addr.add (⟨b15, 0, none⟩) 3) fun n42 =>
  LdB w51 (Addr.add (⟨b15, 0, none⟩) 4) fun b16 =>
  cond (r22 == (r16 == 0))
  (cond r22
  (StC w51 (⟨b2, 0, none⟩) (.int .i64 n41) fun w52 =>
  StC w52 (Addr.add (⟨b2, 0, none⟩) 1) (.slice s20p s20l s20c) fun w53 =>
  StC w53 (Addr.add (⟨b2, 0, none⟩) 2) (.slice s21p s21l s21c) fun w54 =>
  StC w54 (Addr.add (⟨b2, 0, none⟩) 3) (.int .i64 n42) fun w55 =>
  StC w55 (Addr.add (⟨b2, 0, none⟩) 4) (.bool b16) fun w56 =>
  LdI .i64 w56 (⟨b2, 0, none⟩) fun n43 =>
  LdS w56 (Addr.add (⟨b2, 0, none⟩) 1) fun s22p s22l s22c =>
  LdS w56 (Addr.add (⟨b2, 0, none⟩) 2) fun s23p s23l s23c =>
  LdI .i64 w56 (Addr.add (⟨b2, 0, none⟩) 3) fun n44 =>
  LdB w56 (Addr.add (⟨b2, 0, none⟩) 4) fun b17 =>
  R (.returned (.tuple #[.agg #[.int .i64 n43, .slice s22p s22l s22c, .slice s23p s23l s23c, .int .i64 n44, .bool b17], .bool true])) w56)
  (StC w51 (⟨b2, 0, none⟩) (.int .i64 n41) fun w57 =>
  StC w57 (Addr.add (⟨b2, 0, none⟩) 1) (.slice s20p s20l s20c) fun w58 =>
  StC w58 (Addr.add (⟨b2, 0, none⟩) 2) (.slice s21p s21l s21c) fun w59 =>
  StC w59 (Addr.add (⟨b2, 0, none⟩) 3) (.int .i64 n42) fun w60 =>
  StC w60 (Addr.add (⟨b2, 0, none⟩) 4) (.bool b16) fun w61 =>
  LdI .i64 w61 (⟨b2, 0, none⟩) fun n45 =>
  LdS w61 (Addr.add (⟨b2, 0, none⟩) 1) fun s24p s24l s24c =>
  LdS w61 (Addr.add (⟨b2, 0, none⟩) 2) fun s25p s25l s25c =>
  LdI .i64 w61 (Addr.add (⟨b2, 0, none⟩) 3) fun n46 =>
  LdB w61 (Addr.add (⟨b2, 0, none⟩) 4) fun b18 =>
  R (.returned (.tuple #[.agg #[.int .i64 n45, .slice s24p s24l s24c, .slice s25p s25l s25c, .int .i64 n46, .bool b18], .bool (r16 == 1)])) w61))
  (StC w51 (⟨b2, 0, none⟩) (.int .i64 n41) fun w62 =>
  StC w62 (Addr.add (⟨b2, 0, none⟩) 1) (.slice s20p s20l s20c) fun w63 =>
  StC w63 (Addr.add (⟨b2, 0, none⟩) 2) (.slice s21p s21l s21c) fun w64 =>
  StC w64 (Addr.add (⟨b2, 0, none⟩) 3) (.int .i64 n42) fun w65 =>
  StC w65 (Addr.add (⟨b2, 0, none⟩) 4) (.bool b16) fun w66 =>
  LdI .i64 w66 (⟨b2, 0, none⟩) fun n47 =>
  LdS w66 (Addr.add (⟨b2, 0, none⟩) 1) fun s26p s26l s26c =>
  LdS w66 (Addr.add (⟨b2, 0, none⟩) 2) fun s27p s27l s27c =>
  LdI .i64 w66 (Addr.add (⟨b2, 0, none⟩) 3) fun n48 =>
  LdB w66 (Addr.add (⟨b2, 0, none⟩) 4) fun b19 =>
  R (.returned (.tuple #[.agg #[.int .i64 n47, .slice s26p s26l s26c, .slice s27p s27l s27c, .int .i64 n48, .bool b19], .bool false])) w66))
  (LdI .i64 w2 (⟨b1, 0, none⟩) fun n49 =>
  cond (n49 == 7)
  (LdI .i64 w2 (Addr.add (⟨b1, 0, none⟩) 1) fun n50 =>
  LdI .i64 w2 (Addr.add (⟨b1, 0, none⟩) 2) fun n51 =>
  Calls Try.prog 14 #[.pointer a0, .int .i64 n50, .int .i64 n51] w2 fun e6 w67 =>
  ∃ (r23 : Int), ∃ (r24 : Int), e6 = .returned (.tuple #[.int .u64 r23, .int .i64 r24]) ∧
  LdI .i64 w67 (⟨b0, 0, none⟩) fun n52 =>
  LdS w67 (Addr.add (⟨b0, 0, none⟩) 1) fun s28p s28l s28c =>
  LdS w67 (Addr.add (⟨b0, 0, none⟩) 2) fun s29p s29l s29c =>
  LdI .i64 w67 (Addr.add (⟨b0, 0, none⟩) 3) fun n53 =>
  LdB w67 (Addr.add (⟨b0, 0, none⟩) 4) fun b20 =>
  LdI .i64 w67 (Addr.add (⟨b1, 0, none⟩) 1) fun n54 =>
  Calls Try.prog 37 #[.agg #[.int .i64 n52, .slice s28p s28l s28c, .slice s29p s29l s29c, .int .i64 n53, .bool b20], .int .i64 n54] w67 fun e7 w68 =>
  ∃ (r25 : Int), ∃ (r26 : Int), ∃ (r27 : Int), ∃ (r28 : Bool), ∃ (r29p : Option Addr), ∃ (r29l : Nat), ∃ (r29c : Nat), ∃ (r30 : Bool), e7 = .returned (.tuple #[.agg #[.int .i64 r25, .int .i64 r26, .int .i64 r27, .bool r28, .slice r29p r29l r29c], .bool r30]) ∧
  NewC (.cells #[.int .i64 0, .int .i64 0, .int .i64 0, .bool false, .slice none 0 0] 81 (0, 0)) w68 fun b21 w69 =>
  StC w69 (⟨b21, 0, none⟩) (.int .i64 r25) fun w70 =>
  StC w70 (Addr.add (⟨b21, 0, none⟩) 1) (.int .i64 r26) fun w71 =>
  StC w71 (Addr.add (⟨b21, 0, none⟩) 2) (.int .i64 r27) fun w72 =>
  StC w72 (Addr.add (⟨b21, 0, none⟩) 3) (.bool r28) fun w73 =>
  StC w73 (Addr.add (⟨b21, 0, none⟩) 4) (.slice r29p r29l r29c) fun w74 =>
  cond (!r30)
  (LdI .i64 w74 (⟨b0, 0, none⟩) fun n55 =>
  LdS w74 (Addr.add (⟨b0, 0, none⟩) 1) fun s30p s30l s30c =>
  LdS w74 (Addr.add (⟨b0, 0, none⟩) 2) fun s31p s31l s31c =>
  LdI .i64 w74 (Addr.add (⟨b0, 0, none⟩) 3) fun n56 =>
  LdB w74 (Addr.add (⟨b0, 0, none⟩) 4) fun b22 =>
  cond (r24 == 1)
  (StC w74 (⟨b2, 0, none⟩) (.int .i64 n55) fun w75 =>
  StC w75 (Addr.add (⟨b2, 0, none⟩) 1) (.slice s30p s30l s30c) fun w76 =>
  StC w76 (Addr.add (⟨b2, 0, none⟩) 2) (.slice s31p s31l s31c) fun w77 =>
  StC w77 (Addr.add (⟨b2, 0, none⟩) 3) (.int .i64 n56) fun w78 =>
  StC w78 (Addr.add (⟨b2, 0, none⟩) 4) (.bool b22) fun w79 =>
  LdI .i64 w79 (⟨b2, 0, none⟩) fun n57 =>
  LdS w79 (Addr.add (⟨b2, 0, none⟩) 1) fun s32p s32l s32c =>
  LdS w79 (Addr.add (⟨b2, 0, none⟩) 2) fun s33p s33l s33c =>
  LdI .i64 w79 (Addr.add (⟨b2, 0, none⟩) 3) fun n58 =>
  LdB w79 (Addr.add (⟨b2, 0, none⟩) 4) fun b23 =>
  R (.returned (.tuple #[.agg #[.int .i64 n57, .slice s32p s32l s32c, .slice s33p s33l s33c, .int .i64 n58, .bool b23], .bool (r23 == 0)])) w79)
  (StC w74 (⟨b2, 0, none⟩) (.int .i64 n55) fun w80 =>
  StC w80 (Addr.add (⟨b2, 0, none⟩) 1) (.slice s30p s30l s30c) fun w81 =>
  StC w81 (Addr.add (⟨b2, 0, none⟩) 2) (.slice s31p s31l s31c) fun w82 =>
  StC w82 (Addr.add (⟨b2, 0, none⟩) 3) (.int .i64 n56) fun w83 =>
  StC w83 (Addr.add (⟨b2, 0, none⟩) 4) (.bool b22) fun w84 =>
  LdI .i64 w84 (⟨b2, 0, none⟩) fun n59 =>
  LdS w84 (Addr.add (⟨b2, 0, none⟩) 1) fun s34p s34l s34c =>
  LdS w84 (Addr.add (⟨b2, 0, none⟩) 2) fun s35p s35l s35c =>
  LdI .i64 w84 (Addr.add (⟨b2, 0, none⟩) 3) fun n60 =>
  LdB w84 (Addr.add (⟨b2, 0, none⟩) 4) fun b24 =>
  R (.returned (.tuple #[.agg #[.int .i64 n59, .slice s34p s34l s34c, .slice s35p s35l s35c, .int .i64 n60, .bool b24], .bool false])) w84))
  (LdI .i64 w74 (Addr.add (⟨b1, 0, none⟩) 2) fun n61 =>
  cond (decide (n61 < 0))
  (LdI .i64 w74 (⟨b0, 0, none⟩) fun n62 =>
  LdS w74 (Addr.add (⟨b0, 0, none⟩) 1) fun s36p s36l s36c =>
  LdS w74 (Addr.add (⟨b0, 0, none⟩) 2) fun s37p s37l s37c =>
  LdI .i64 w74 (Addr.add (⟨b0, 0, none⟩) 3) fun n63 =>
  LdB w74 (Addr.add (⟨b0, 0, none⟩) 4) fun b25 =>
  cond (r24 == 1)
  (StC w74 (⟨b2, 0, none⟩) (.int .i64 n62) fun w85 =>
  StC w85 (Addr.add (⟨b2, 0, none⟩) 1) (.slice s36p s36l s36c) fun w86 =>
  StC w86 (Addr.add (⟨b2, 0, none⟩) 2) (.slice s37p s37l s37c) fun w87 =>
  StC w87 (Addr.add (⟨b2, 0, none⟩) 3) (.int .i64 n63) fun w88 =>
  StC w88 (Addr.add (⟨b2, 0, none⟩) 4) (.bool b25) fun w89 =>
  LdI .i64 w89 (⟨b2, 0, none⟩) fun n64 =>
  LdS w89 (Addr.add (⟨b2, 0, none⟩) 1) fun s38p s38l s38c =>
  LdS w89 (Addr.add (⟨b2, 0, none⟩) 2) fun s39p s39l s39c =>
  LdI .i64 w89 (Addr.add (⟨b2, 0, none⟩) 3) fun n65 =>
  LdB w89 (Addr.add (⟨b2, 0, none⟩) 4) fun b26 =>
  R (.returned (.tuple #[.agg #[.int .i64 n64, .slice s38p s38l s38c, .slice s39p s39l s39c, .int .i64 n65, .bool b26], .bool (r23 == 0)])) w89)
  (StC w74 (⟨b2, 0, none⟩) (.int .i64 n62) fun w90 =>
  StC w90 (Addr.add (⟨b2, 0, none⟩) 1) (.slice s36p s36l s36c) fun w91 =>
  StC w91 (Addr.add (⟨b2, 0, none⟩) 2) (.slice s37p s37l s37c) fun w92 =>
  StC w92 (Addr.add (⟨b2, 0, none⟩) 3) (.int .i64 n63) fun w93 =>
  StC w93 (Addr.add (⟨b2, 0, none⟩) 4) (.bool b25) fun w94 =>
  LdI .i64 w94 (⟨b2, 0, none⟩) fun n66 =>
  LdS w94 (Addr.add (⟨b2, 0, none⟩) 1) fun s40p s40l s40c =>
  LdS w94 (Addr.add (⟨b2, 0, none⟩) 2) fun s41p s41l s41c =>
  LdI .i64 w94 (Addr.add (⟨b2, 0, none⟩) 3) fun n67 =>
  LdB w94 (Addr.add (⟨b2, 0, none⟩) 4) fun b27 =>
  R (.returned (.tuple #[.agg #[.int .i64 n66, .slice s40p s40l s40c, .slice s41p s41l s41c, .int .i64 n67, .bool b27], .bool false])) w94))
  (LdI .i64 w74 (Addr.add (⟨b1, 0, none⟩) 2) fun n68 =>
  LdS w74 (Addr.add (⟨b21, 0, none⟩) 4) fun _ s42l _ =>
  cond (decide (n68 ≥ (Nat.cast s42l : Int)))
  (LdI .i64 w74 (⟨b0, 0, none⟩) fun n69 =>
  LdS w74 (Addr.add (⟨b0, 0, none⟩) 1) fun s43p s43l s43c =>
  LdS w74 (Addr.add (⟨b0, 0, none⟩) 2) fun s44p s44l s44c =>
  LdI .i64 w74 (Addr.add (⟨b0, 0, none⟩) 3) fun n70 =>
  LdB w74 (Addr.add (⟨b0, 0, none⟩) 4) fun b28 =>
  cond (r24 == 1)
  (StC w74 (⟨b2, 0, none⟩) (.int .i64 n69) fun w95 =>
  StC w95 (Addr.add (⟨b2, 0, none⟩) 1) (.slice s43p s43l s43c) fun w96 =>
  StC w96 (Addr.add (⟨b2, 0, none⟩) 2) (.slice s44p s44l s44c) fun w97 =>
  StC w97 (Addr.add (⟨b2, 0, none⟩) 3) (.int .i64 n70) fun w98 =>
  StC w98 (Addr.add (⟨b2, 0, none⟩) 4) (.bool b28) fun w99 =>
  LdI .i64 w99 (⟨b2, 0, none⟩) fun n71 =>
  LdS w99 (Addr.add (⟨b2, 0, none⟩) 1) fun s45p s45l s45c =>
  LdS w99 (Addr.add (⟨b2, 0, none⟩) 2) fun s46p s46l s46c =>
  LdI .i64 w99 (Addr.add (⟨b2, 0, none⟩) 3) fun n72 =>
  LdB w99 (Addr.add (⟨b2, 0, none⟩) 4) fun b29 =>
  R (.returned (.tuple #[.agg #[.int .i64 n71, .slice s45p s45l s45c, .slice s46p s46l s46c, .int .i64 n72, .bool b29], .bool (r23 == 0)])) w99)
  (StC w74 (⟨b2, 0, none⟩) (.int .i64 n69) fun w100 =>
  StC w100 (Addr.add (⟨b2, 0, none⟩) 1) (.slice s43p s43l s43c) fun w101 =>
  StC w101 (Addr.add (⟨b2, 0, none⟩) 2) (.slice s44p s44l s44c) fun w102 =>
  StC w102 (Addr.add (⟨b2, 0, none⟩) 3) (.int .i64 n70) fun w103 =>
  StC w103 (Addr.add (⟨b2, 0, none⟩) 4) (.bool b28) fun w104 =>
  LdI .i64 w104 (⟨b2, 0, none⟩) fun n73 =>
  LdS w104 (Addr.add (⟨b2, 0, none⟩) 1) fun s47p s47l s47c =>
  LdS w104 (Addr.add (⟨b2, 0, none⟩) 2) fun s48p s48l s48c =>
  LdI .i64 w104 (Addr.add (⟨b2, 0, none⟩) 3) fun n74 =>
  LdB w104 (Addr.add (⟨b2, 0, none⟩) 4) fun b30 =>
  R (.returned (.tuple #[.agg #[.int .i64 n73, .slice s47p s47l s47c, .slice s48p s48l s48c, .int .i64 n74, .bool b30], .bool false])) w104))
  (∃ C0 : World → Prop, C0 (World.drew w74) ∧
  ∃ (n75 : Int), ∃ (s49p : Option Addr), ∃ (s49l : Nat), ∃ (s49c : Nat), ∃ (s50p : Option Addr), ∃ (s50l : Nat), ∃ (s50c : Nat), ∃ (n76 : Int), ∃ (b31 : Bool), (∀ (w105 : World), C0 w105 →
  LdI .i64 w105 (⟨b0, 0, none⟩) fun n77 =>
  LdS w105 (Addr.add (⟨b0, 0, none⟩) 1) fun s51p s51l s51c =>
  LdS w105 (Addr.add (⟨b0, 0, none⟩) 2) fun s52p s52l s52c =>
  LdI .i64 w105 (Addr.add (⟨b0, 0, none⟩) 3) fun n78 =>
  LdB w105 (Addr.add (⟨b0, 0, none⟩) 4) fun b32 =>
  Value.agg #[.int .i64 n77, .slice s51p s51l s51c, .slice s52p s52l s52c, .int .i64 n78, .bool b32] = .agg #[.int .i64 n75, .slice s49p s49l s49c, .slice s50p s50l s50c, .int .i64 n76, .bool b31]) ∧
  cond (r24 == 0)
  (LdSQ C0 (Addr.add (⟨b21, 0, none⟩) 4) fun s53p s53l _ =>
  LdIQ .i64 C0 (Addr.add (⟨b1, 0, none⟩) 2) fun n79 =>
  IdxC s53p s53l n79 1 fun a1 =>
  LdIQ .u64 C0 a1 fun n80 =>
  StC (World.drew w74) (⟨b2, 0, none⟩) (.int .i64 n75) fun w106 =>
  StC w106 (Addr.add (⟨b2, 0, none⟩) 1) (.slice s49p s49l s49c) fun w107 =>
  StC w107 (Addr.add (⟨b2, 0, none⟩) 2) (.slice s50p s50l s50c) fun w108 =>
  StC w108 (Addr.add (⟨b2, 0, none⟩) 3) (.int .i64 n76) fun w109 =>
  StC w109 (Addr.add (⟨b2, 0, none⟩) 4) (.bool b31) fun w110 =>
  C0 w110 ∧
  LdI .i64 w110 (⟨b2, 0, none⟩) fun n81 =>
  LdS w110 (Addr.add (⟨b2, 0, none⟩) 1) fun s54p s54l s54c =>
  LdS w110 (Addr.add (⟨b2, 0, none⟩) 2) fun s55p s55l s55c =>
  LdI .i64 w110 (Addr.add (⟨b2, 0, none⟩) 3) fun n82 =>
  LdB w110 (Addr.add (⟨b2, 0, none⟩) 4) fun b33 =>
  R (.returned (.tuple #[.agg #[.int .i64 n81, .slice s54p s54l s54c, .slice s55p s55l s55c, .int .i64 n82, .bool b33], .bool (r23 == n80)])) w110)
  (StC (World.drew w74) (⟨b2, 0, none⟩) (.int .i64 n75) fun w111 =>
  StC w111 (Addr.add (⟨b2, 0, none⟩) 1) (.slice s49p s49l s49c) fun w112 =>
  StC w112 (Addr.add (⟨b2, 0, none⟩) 2) (.slice s50p s50l s50c) fun w113 =>
  StC w113 (Addr.add (⟨b2, 0, none⟩) 3) (.int .i64 n76) fun w114 =>
  StC w114 (Addr.add (⟨b2, 0, none⟩) 4) (.bool b31) fun w115 =>
  C0 w115 ∧
  LdI .i64 w115 (⟨b2, 0, none⟩) fun n83 =>
  LdS w115 (Addr.add (⟨b2, 0, none⟩) 1) fun s56p s56l s56c =>
  LdS w115 (Addr.add (⟨b2, 0, none⟩) 2) fun s57p s57l s57c =>
  LdI .i64 w115 (Addr.add (⟨b2, 0, none⟩) 3) fun n84 =>
  LdB w115 (Addr.add (⟨b2, 0, none⟩) 4) fun b34 =>
  R (.returned (.tuple #[.agg #[.int .i64 n83, .slice s56p s56l s56c, .slice s57p s57l s57c, .int .i64 n84, .bool b34], .bool false])) w115)))))
  (LdI .i64 w2 (⟨b1, 0, none⟩) fun n85 =>
  cond (n85 == 8)
  (Calls Try.prog 16 #[.pointer a0] w2 fun e8 w116 =>
  ∃ (r31 : Int), e8 = .returned (.int .i64 r31) ∧
  LdI .i64 w116 (⟨b0, 0, none⟩) fun n86 =>
  LdS w116 (Addr.add (⟨b0, 0, none⟩) 1) fun s58p s58l s58c =>
  LdS w116 (Addr.add (⟨b0, 0, none⟩) 2) fun s59p s59l s59c =>
  LdI .i64 w116 (Addr.add (⟨b0, 0, none⟩) 3) fun n87 =>
  LdB w116 (Addr.add (⟨b0, 0, none⟩) 4) fun b35 =>
  Calls Try.prog 38 #[.agg #[.int .i64 n86, .slice s58p s58l s58c, .slice s59p s59l s59c, .int .i64 n87, .bool b35]] w116 fun e9 w117 =>
  ∃ (r32 : Int), ∃ (r33p : Option Addr), ∃ (r33l : Nat), ∃ (r33c : Nat), ∃ (r34p : Option Addr), ∃ (r34l : Nat), ∃ (r34c : Nat), ∃ (r35 : Int), ∃ (r36 : Bool), ∃ (r37 : Bool), e9 = .returned (.tuple #[.agg #[.int .i64 r32, .slice r33p r33l r33c, .slice r34p r34l r34c, .int .i64 r35, .bool r36], .bool r37]) ∧
  NewC (.cells #[.int .i64 0, .slice none 0 0, .slice none 0 0, .int .i64 0, .bool false] 61 (0, 0)) w117 fun b36 w118 =>
  StC w118 (⟨b36, 0, none⟩) (.int .i64 r32) fun w119 =>
  StC w119 (Addr.add (⟨b36, 0, none⟩) 1) (.slice r33p r33l r33c) fun w120 =>
  StC w120 (Addr.add (⟨b36, 0, none⟩) 2) (.slice r34p r34l r34c) fun w121 =>
  StC w121 (Addr.add (⟨b36, 0, none⟩) 3) (.int .i64 r35) fun w122 =>
  StC w122 (Addr.add (⟨b36, 0, none⟩) 4) (.bool r36) fun w123 =>
  LdI .i64 w123 (⟨b36, 0, none⟩) fun n88 =>
  LdS w123 (Addr.add (⟨b36, 0, none⟩) 1) fun s60p s60l s60c =>
  LdS w123 (Addr.add (⟨b36, 0, none⟩) 2) fun s61p s61l s61c =>
  LdI .i64 w123 (Addr.add (⟨b36, 0, none⟩) 3) fun n89 =>
  LdB w123 (Addr.add (⟨b36, 0, none⟩) 4) fun b37 =>
  cond r37
  (cond (r31 == 0)
  (StC w123 (⟨b2, 0, none⟩) (.int .i64 n88) fun w124 =>
  StC w124 (Addr.add (⟨b2, 0, none⟩) 1) (.slice s60p s60l s60c) fun w125 =>
  StC w125 (Addr.add (⟨b2, 0, none⟩) 2) (.slice s61p s61l s61c) fun w126 =>
  StC w126 (Addr.add (⟨b2, 0, none⟩) 3) (.int .i64 n89) fun w127 =>
  StC w127 (Addr.add (⟨b2, 0, none⟩) 4) (.bool b37) fun w128 =>
  LdI .i64 w128 (⟨b2, 0, none⟩) fun n90 =>
  LdS w128 (Addr.add (⟨b2, 0, none⟩) 1) fun s62p s62l s62c =>
  LdS w128 (Addr.add (⟨b2, 0, none⟩) 2) fun s63p s63l s63c =>
  LdI .i64 w128 (Addr.add (⟨b2, 0, none⟩) 3) fun n91 =>
  LdB w128 (Addr.add (⟨b2, 0, none⟩) 4) fun b38 =>
  R (.returned (.tuple #[.agg #[.int .i64 n90, .slice s62p s62l s62c, .slice s63p s63l s63c, .int .i64 n91, .bool b38], .bool true])) w128)
  (cond (!r37)
  (StC w123 (⟨b2, 0, none⟩) (.int .i64 n88) fun w129 =>
  StC w129 (Addr.add (⟨b2, 0, none⟩) 1) (.slice s60p s60l s60c) fun w130 =>
  StC w130 (Addr.add (⟨b2, 0, none⟩) 2) (.slice s61p s61l s61c) fun w131 =>
  StC w131 (Addr.add (⟨b2, 0, none⟩) 3) (.int .i64 n89) fun w132 =>
  StC w132 (Addr.add (⟨b2, 0, none⟩) 4) (.bool b37) fun w133 =>
  LdI .i64 w133 (⟨b2, 0, none⟩) fun n92 =>
  LdS w133 (Addr.add (⟨b2, 0, none⟩) 1) fun s64p s64l s64c =>
  LdS w133 (Addr.add (⟨b2, 0, none⟩) 2) fun s65p s65l s65c =>
  LdI .i64 w133 (Addr.add (⟨b2, 0, none⟩) 3) fun n93 =>
  LdB w133 (Addr.add (⟨b2, 0, none⟩) 4) fun b39 =>
  R (.returned (.tuple #[.agg #[.int .i64 n92, .slice s64p s64l s64c, .slice s65p s65l s65c, .int .i64 n93, .bool b39], .bool (r31 == 16)])) w133)
  (StC w123 (⟨b2, 0, none⟩) (.int .i64 n88) fun w134 =>
  StC w134 (Addr.add (⟨b2, 0, none⟩) 1) (.slice s60p s60l s60c) fun w135 =>
  StC w135 (Addr.add (⟨b2, 0, none⟩) 2) (.slice s61p s61l s61c) fun w136 =>
  StC w136 (Addr.add (⟨b2, 0, none⟩) 3) (.int .i64 n89) fun w137 =>
  StC w137 (Addr.add (⟨b2, 0, none⟩) 4) (.bool b37) fun w138 =>
  LdI .i64 w138 (⟨b2, 0, none⟩) fun n94 =>
  LdS w138 (Addr.add (⟨b2, 0, none⟩) 1) fun s66p s66l s66c =>
  LdS w138 (Addr.add (⟨b2, 0, none⟩) 2) fun s67p s67l s67c =>
  LdI .i64 w138 (Addr.add (⟨b2, 0, none⟩) 3) fun n95 =>
  LdB w138 (Addr.add (⟨b2, 0, none⟩) 4) fun b40 =>
  R (.returned (.tuple #[.agg #[.int .i64 n94, .slice s66p s66l s66c, .slice s67p s67l s67c, .int .i64 n95, .bool b40], .bool false])) w138)))
  (cond (!r37)
  (StC w123 (⟨b2, 0, none⟩) (.int .i64 n88) fun w139 =>
  StC w139 (Addr.add (⟨b2, 0, none⟩) 1) (.slice s60p s60l s60c) fun w140 =>
  StC w140 (Addr.add (⟨b2, 0, none⟩) 2) (.slice s61p s61l s61c) fun w141 =>
  StC w141 (Addr.add (⟨b2, 0, none⟩) 3) (.int .i64 n89) fun w142 =>
  StC w142 (Addr.add (⟨b2, 0, none⟩) 4) (.bool b37) fun w143 =>
  LdI .i64 w143 (⟨b2, 0, none⟩) fun n96 =>
  LdS w143 (Addr.add (⟨b2, 0, none⟩) 1) fun s68p s68l s68c =>
  LdS w143 (Addr.add (⟨b2, 0, none⟩) 2) fun s69p s69l s69c =>
  LdI .i64 w143 (Addr.add (⟨b2, 0, none⟩) 3) fun n97 =>
  LdB w143 (Addr.add (⟨b2, 0, none⟩) 4) fun b41 =>
  R (.returned (.tuple #[.agg #[.int .i64 n96, .slice s68p s68l s68c, .slice s69p s69l s69c, .int .i64 n97, .bool b41], .bool (r31 == 16)])) w143)
  (StC w123 (⟨b2, 0, none⟩) (.int .i64 n88) fun w144 =>
  StC w144 (Addr.add (⟨b2, 0, none⟩) 1) (.slice s60p s60l s60c) fun w145 =>
  StC w145 (Addr.add (⟨b2, 0, none⟩) 2) (.slice s61p s61l s61c) fun w146 =>
  StC w146 (Addr.add (⟨b2, 0, none⟩) 3) (.int .i64 n89) fun w147 =>
  StC w147 (Addr.add (⟨b2, 0, none⟩) 4) (.bool b37) fun w148 =>
  LdI .i64 w148 (⟨b2, 0, none⟩) fun n98 =>
  LdS w148 (Addr.add (⟨b2, 0, none⟩) 1) fun s70p s70l s70c =>
  LdS w148 (Addr.add (⟨b2, 0, none⟩) 2) fun s71p s71l s71c =>
  LdI .i64 w148 (Addr.add (⟨b2, 0, none⟩) 3) fun n99 =>
  LdB w148 (Addr.add (⟨b2, 0, none⟩) 4) fun b42 =>
  R (.returned (.tuple #[.agg #[.int .i64 n98, .slice s70p s70l s70c, .slice s71p s71l s71c, .int .i64 n99, .bool b42], .bool false])) w148)))
  (LdI .i64 w2 (⟨b1, 0, none⟩) fun n100 =>
  cond (decide (n100 ≤ 10))
  (Calls Try.prog 20 #[.pointer a0] w2 fun e10 w149 =>
  ∃ (r38 : Int), ∃ (r39 : Int), ∃ (r40 : Int), e10 = .returned (.tuple #[.int .i64 r38, .int .i64 r39, .int .i64 r40]) ∧
  LdI .i64 w149 (⟨b0, 0, none⟩) fun n101 =>
  LdS w149 (Addr.add (⟨b0, 0, none⟩) 1) fun s72p s72l s72c =>
  LdS w149 (Addr.add (⟨b0, 0, none⟩) 2) fun s73p s73l s73c =>
  LdI .i64 w149 (Addr.add (⟨b0, 0, none⟩) 3) fun n102 =>
  LdB w149 (Addr.add (⟨b0, 0, none⟩) 4) fun b43 =>
  Calls Try.prog 39 #[.agg #[.int .i64 n101, .slice s72p s72l s72c, .slice s73p s73l s73c, .int .i64 n102, .bool b43]] w149 fun e11 w150 =>
  ∃ (r41 : Int), ∃ (r42p : Option Addr), ∃ (r42l : Nat), ∃ (r42c : Nat), ∃ (r43p : Option Addr), ∃ (r43l : Nat), ∃ (r43c : Nat), ∃ (r44 : Int), ∃ (r45 : Bool), ∃ (r46 : Int), ∃ (r47 : Int), ∃ (r48 : Int), e11 = .returned (.tuple #[.agg #[.int .i64 r41, .slice r42p r42l r42c, .slice r43p r43l r43c, .int .i64 r44, .bool r45], .int .i64 r46, .int .i64 r47, .int .i64 r48]) ∧
  NewC (.cells #[.int .i64 0, .slice none 0 0, .slice none 0 0, .int .i64 0, .bool false] 61 (0, 0)) w150 fun b44 w151 =>
  StC w151 (⟨b44, 0, none⟩) (.int .i64 r41) fun w152 =>
  StC w152 (Addr.add (⟨b44, 0, none⟩) 1) (.slice r42p r42l r42c) fun w153 =>
  StC w153 (Addr.add (⟨b44, 0, none⟩) 2) (.slice r43p r43l r43c) fun w154 =>
  StC w154 (Addr.add (⟨b44, 0, none⟩) 3) (.int .i64 r44) fun w155 =>
  StC w155 (Addr.add (⟨b44, 0, none⟩) 4) (.bool r45) fun w156 =>
  LdI .i64 w156 (⟨b44, 0, none⟩) fun n103 =>
  LdS w156 (Addr.add (⟨b44, 0, none⟩) 1) fun s74p s74l s74c =>
  LdS w156 (Addr.add (⟨b44, 0, none⟩) 2) fun s75p s75l s75c =>
  LdI .i64 w156 (Addr.add (⟨b44, 0, none⟩) 3) fun n104 =>
  LdB w156 (Addr.add (⟨b44, 0, none⟩) 4) fun b45 =>
  cond (r40 == r48)
  (cond (r38 == r46)
  (StC w156 (⟨b2, 0, none⟩) (.int .i64 n103) fun w157 =>
  StC w157 (Addr.add (⟨b2, 0, none⟩) 1) (.slice s74p s74l s74c) fun w158 =>
  StC w158 (Addr.add (⟨b2, 0, none⟩) 2) (.slice s75p s75l s75c) fun w159 =>
  StC w159 (Addr.add (⟨b2, 0, none⟩) 3) (.int .i64 n104) fun w160 =>
  StC w160 (Addr.add (⟨b2, 0, none⟩) 4) (.bool b45) fun w161 =>
  LdI .i64 w161 (⟨b2, 0, none⟩) fun n105 =>
  LdS w161 (Addr.add (⟨b2, 0, none⟩) 1) fun s76p s76l s76c =>
  LdS w161 (Addr.add (⟨b2, 0, none⟩) 2) fun s77p s77l s77c =>
  LdI .i64 w161 (Addr.add (⟨b2, 0, none⟩) 3) fun n106 =>
  LdB w161 (Addr.add (⟨b2, 0, none⟩) 4) fun b46 =>
  R (.returned (.tuple #[.agg #[.int .i64 n105, .slice s76p s76l s76c, .slice s77p s77l s77c, .int .i64 n106, .bool b46], .bool (r39 == r47)])) w161)
  (StC w156 (⟨b2, 0, none⟩) (.int .i64 n103) fun w162 =>
  StC w162 (Addr.add (⟨b2, 0, none⟩) 1) (.slice s74p s74l s74c) fun w163 =>
  StC w163 (Addr.add (⟨b2, 0, none⟩) 2) (.slice s75p s75l s75c) fun w164 =>
  StC w164 (Addr.add (⟨b2, 0, none⟩) 3) (.int .i64 n104) fun w165 =>
  StC w165 (Addr.add (⟨b2, 0, none⟩) 4) (.bool b45) fun w166 =>
  LdI .i64 w166 (⟨b2, 0, none⟩) fun n107 =>
  LdS w166 (Addr.add (⟨b2, 0, none⟩) 1) fun s78p s78l s78c =>
  LdS w166 (Addr.add (⟨b2, 0, none⟩) 2) fun s79p s79l s79c =>
  LdI .i64 w166 (Addr.add (⟨b2, 0, none⟩) 3) fun n108 =>
  LdB w166 (Addr.add (⟨b2, 0, none⟩) 4) fun b47 =>
  R (.returned (.tuple #[.agg #[.int .i64 n107, .slice s78p s78l s78c, .slice s79p s79l s79c, .int .i64 n108, .bool b47], .bool false])) w166))
  (StC w156 (⟨b2, 0, none⟩) (.int .i64 n103) fun w167 =>
  StC w167 (Addr.add (⟨b2, 0, none⟩) 1) (.slice s74p s74l s74c) fun w168 =>
  StC w168 (Addr.add (⟨b2, 0, none⟩) 2) (.slice s75p s75l s75c) fun w169 =>
  StC w169 (Addr.add (⟨b2, 0, none⟩) 3) (.int .i64 n104) fun w170 =>
  StC w170 (Addr.add (⟨b2, 0, none⟩) 4) (.bool b45) fun w171 =>
  LdI .i64 w171 (⟨b2, 0, none⟩) fun n109 =>
  LdS w171 (Addr.add (⟨b2, 0, none⟩) 1) fun s80p s80l s80c =>
  LdS w171 (Addr.add (⟨b2, 0, none⟩) 2) fun s81p s81l s81c =>
  LdI .i64 w171 (Addr.add (⟨b2, 0, none⟩) 3) fun n110 =>
  LdB w171 (Addr.add (⟨b2, 0, none⟩) 4) fun b48 =>
  R (.returned (.tuple #[.agg #[.int .i64 n109, .slice s80p s80l s80c, .slice s81p s81l s81c, .int .i64 n110, .bool b48], .bool false])) w171))
  (LdI .i64 w2 (⟨b1, 0, none⟩) fun n111 =>
  cond (n111 == 11)
  (Calls Try.prog 17 #[.pointer a0] w2 fun e12 w172 =>
  ∃ (r49 : Int), ∃ (r50 : Int), e12 = .returned (.tuple #[.int .i64 r49, .int .i64 r50]) ∧
  LdI .i64 w172 (⟨b0, 0, none⟩) fun n112 =>
  LdS w172 (Addr.add (⟨b0, 0, none⟩) 1) fun s82p s82l s82c =>
  LdS w172 (Addr.add (⟨b0, 0, none⟩) 2) fun s83p s83l s83c =>
  LdI .i64 w172 (Addr.add (⟨b0, 0, none⟩) 3) fun n113 =>
  LdB w172 (Addr.add (⟨b0, 0, none⟩) 4) fun b49 =>
  Calls Try.prog 40 #[.agg #[.int .i64 n112, .slice s82p s82l s82c, .slice s83p s83l s83c, .int .i64 n113, .bool b49]] w172 fun e13 w173 =>
  ∃ (r51 : Int), ∃ (r52p : Option Addr), ∃ (r52l : Nat), ∃ (r52c : Nat), ∃ (r53p : Option Addr), ∃ (r53l : Nat), ∃ (r53c : Nat), ∃ (r54 : Int), ∃ (r55 : Bool), ∃ (r56 : Int), ∃ (r57 : Int), e13 = .returned (.tuple #[.agg #[.int .i64 r51, .slice r52p r52l r52c, .slice r53p r53l r53c, .int .i64 r54, .bool r55], .int .i64 r56, .int .i64 r57]) ∧
  NewC (.cells #[.int .i64 0, .slice none 0 0, .slice none 0 0, .int .i64 0, .bool false] 61 (0, 0)) w173 fun b50 w174 =>
  StC w174 (⟨b50, 0, none⟩) (.int .i64 r51) fun w175 =>
  StC w175 (Addr.add (⟨b50, 0, none⟩) 1) (.slice r52p r52l r52c) fun w176 =>
  StC w176 (Addr.add (⟨b50, 0, none⟩) 2) (.slice r53p r53l r53c) fun w177 =>
  StC w177 (Addr.add (⟨b50, 0, none⟩) 3) (.int .i64 r54) fun w178 =>
  StC w178 (Addr.add (⟨b50, 0, none⟩) 4) (.bool r55) fun w179 =>
  LdI .i64 w179 (⟨b50, 0, none⟩) fun n114 =>
  LdS w179 (Addr.add (⟨b50, 0, none⟩) 1) fun s84p s84l s84c =>
  LdS w179 (Addr.add (⟨b50, 0, none⟩) 2) fun s85p s85l s85c =>
  LdI .i64 w179 (Addr.add (⟨b50, 0, none⟩) 3) fun n115 =>
  LdB w179 (Addr.add (⟨b50, 0, none⟩) 4) fun b51 =>
  cond (r50 == r57)
  (StC w179 (⟨b2, 0, none⟩) (.int .i64 n114) fun w180 =>
  StC w180 (Addr.add (⟨b2, 0, none⟩) 1) (.slice s84p s84l s84c) fun w181 =>
  StC w181 (Addr.add (⟨b2, 0, none⟩) 2) (.slice s85p s85l s85c) fun w182 =>
  StC w182 (Addr.add (⟨b2, 0, none⟩) 3) (.int .i64 n115) fun w183 =>
  StC w183 (Addr.add (⟨b2, 0, none⟩) 4) (.bool b51) fun w184 =>
  LdI .i64 w184 (⟨b2, 0, none⟩) fun n116 =>
  LdS w184 (Addr.add (⟨b2, 0, none⟩) 1) fun s86p s86l s86c =>
  LdS w184 (Addr.add (⟨b2, 0, none⟩) 2) fun s87p s87l s87c =>
  LdI .i64 w184 (Addr.add (⟨b2, 0, none⟩) 3) fun n117 =>
  LdB w184 (Addr.add (⟨b2, 0, none⟩) 4) fun b52 =>
  R (.returned (.tuple #[.agg #[.int .i64 n116, .slice s86p s86l s86c, .slice s87p s87l s87c, .int .i64 n117, .bool b52], .bool (r49 == r56)])) w184)
  (StC w179 (⟨b2, 0, none⟩) (.int .i64 n114) fun w185 =>
  StC w185 (Addr.add (⟨b2, 0, none⟩) 1) (.slice s84p s84l s84c) fun w186 =>
  StC w186 (Addr.add (⟨b2, 0, none⟩) 2) (.slice s85p s85l s85c) fun w187 =>
  StC w187 (Addr.add (⟨b2, 0, none⟩) 3) (.int .i64 n115) fun w188 =>
  StC w188 (Addr.add (⟨b2, 0, none⟩) 4) (.bool b51) fun w189 =>
  LdI .i64 w189 (⟨b2, 0, none⟩) fun n118 =>
  LdS w189 (Addr.add (⟨b2, 0, none⟩) 1) fun s88p s88l s88c =>
  LdS w189 (Addr.add (⟨b2, 0, none⟩) 2) fun s89p s89l s89c =>
  LdI .i64 w189 (Addr.add (⟨b2, 0, none⟩) 3) fun n119 =>
  LdB w189 (Addr.add (⟨b2, 0, none⟩) 4) fun b53 =>
  R (.returned (.tuple #[.agg #[.int .i64 n118, .slice s88p s88l s88c, .slice s89p s89l s89c, .int .i64 n119, .bool b53], .bool false])) w189))
  (Calls Try.prog 18 #[.pointer a0] w2 fun e14 w190 =>
  ∃ (r58 : Int), e14 = .returned (.int .i64 r58) ∧
  LdI .i64 w190 (⟨b0, 0, none⟩) fun n120 =>
  LdS w190 (Addr.add (⟨b0, 0, none⟩) 1) fun s90p s90l s90c =>
  LdS w190 (Addr.add (⟨b0, 0, none⟩) 2) fun s91p s91l s91c =>
  LdI .i64 w190 (Addr.add (⟨b0, 0, none⟩) 3) fun n121 =>
  LdB w190 (Addr.add (⟨b0, 0, none⟩) 4) fun b54 =>
  Calls Try.prog 41 #[.agg #[.int .i64 n120, .slice s90p s90l s90c, .slice s91p s91l s91c, .int .i64 n121, .bool b54]] w190 fun e15 w191 =>
  ∃ (r59 : Int), ∃ (r60p : Option Addr), ∃ (r60l : Nat), ∃ (r60c : Nat), ∃ (r61p : Option Addr), ∃ (r61l : Nat), ∃ (r61c : Nat), ∃ (r62 : Int), ∃ (r63 : Bool), ∃ (r64 : Int), e15 = .returned (.tuple #[.agg #[.int .i64 r59, .slice r60p r60l r60c, .slice r61p r61l r61c, .int .i64 r62, .bool r63], .int .i64 r64]) ∧
  NewC (.cells #[.int .i64 0, .slice none 0 0, .slice none 0 0, .int .i64 0, .bool false] 61 (0, 0)) w191 fun b55 w192 =>
  StC w192 (⟨b55, 0, none⟩) (.int .i64 r59) fun w193 =>
  StC w193 (Addr.add (⟨b55, 0, none⟩) 1) (.slice r60p r60l r60c) fun w194 =>
  StC w194 (Addr.add (⟨b55, 0, none⟩) 2) (.slice r61p r61l r61c) fun w195 =>
  StC w195 (Addr.add (⟨b55, 0, none⟩) 3) (.int .i64 r62) fun w196 =>
  StC w196 (Addr.add (⟨b55, 0, none⟩) 4) (.bool r63) fun w197 =>
  LdI .i64 w197 (⟨b55, 0, none⟩) fun n122 =>
  LdS w197 (Addr.add (⟨b55, 0, none⟩) 1) fun s92p s92l s92c =>
  LdS w197 (Addr.add (⟨b55, 0, none⟩) 2) fun s93p s93l s93c =>
  LdI .i64 w197 (Addr.add (⟨b55, 0, none⟩) 3) fun n123 =>
  LdB w197 (Addr.add (⟨b55, 0, none⟩) 4) fun b56 =>
  StC w197 (⟨b2, 0, none⟩) (.int .i64 n122) fun w198 =>
  StC w198 (Addr.add (⟨b2, 0, none⟩) 1) (.slice s92p s92l s92c) fun w199 =>
  StC w199 (Addr.add (⟨b2, 0, none⟩) 2) (.slice s93p s93l s93c) fun w200 =>
  StC w200 (Addr.add (⟨b2, 0, none⟩) 3) (.int .i64 n123) fun w201 =>
  StC w201 (Addr.add (⟨b2, 0, none⟩) 4) (.bool b56) fun w202 =>
  LdI .i64 w202 (⟨b2, 0, none⟩) fun n124 =>
  LdS w202 (Addr.add (⟨b2, 0, none⟩) 1) fun s94p s94l s94c =>
  LdS w202 (Addr.add (⟨b2, 0, none⟩) 2) fun s95p s95l s95c =>
  LdI .i64 w202 (Addr.add (⟨b2, 0, none⟩) 3) fun n125 =>
  LdB w202 (Addr.add (⟨b2, 0, none⟩) 4) fun b57 =>
  R (.returned (.tuple #[.agg #[.int .i64 n124, .slice s94p s94l s94c, .slice s95p s95l s95c, .int .i64 n125, .bool b57], .bool (r58 == r64)])) w202)))))))
def S_law7_play_ann : Ann := (.seq .leaf (.seq (.block (.seq .leaf (.cond .leaf (.seq .leaf (.cond .leaf (.seq .leaf (.cond .leaf (.seq .leaf (.cond (.seq .leaf (.seq .leaf (.seq .leaf (.seq .any .leaf)))) .leaf))))))))) .leaf))
theorem S_law7_play_eq (a0 : Option Addr) (m0 : Int) (m1p : Option Addr) (m1l : Nat) (m1c : Nat) (m2p : Option Addr) (m2l : Nat) (m2c : Nat) (m3 : Int) (m4 : Bool) (d0 : Int) (d1 : Int) (d2 : Int) (d3 : Int) (d4 : Int) (d5 : Int) (w : World) (R : Ending → World → Prop) : X Try.prog Try.f24.ntmps (bodyOf Try.f24) S_law7_play_ann (argEnv 0 [.pointer a0, .agg #[.int .i64 m0, .slice m1p m1l m1c, .slice m2p m2l m2c, .int .i64 m3, .bool m4], .agg #[.int .i64 d0, .int .i64 d1, .int .i64 d2, .int .i64 d3, .int .i64 d4, .int .u64 d5]]) w (fun e w' => resK Try.prog Try.f24.results.toList e w' [] fun vs => R (.returned (pack vs)) w') (fun e w' => resK Try.prog Try.f24.results.toList e w' [] fun vs => R (.returned (pack vs)) w') (fun _ _ _ => False) = S_law7_play a0 m0 m1p m1l m1c m2p m2l m2c m3 m4 d0 d1 d2 d3 d4 d5 w R := by kernel_rfl
theorem S_law7_play_ok (a0 : Option Addr) (m0 : Int) (m1p : Option Addr) (m1l : Nat) (m1c : Nat) (m2p : Option Addr) (m2l : Nat) (m2c : Nat) (m3 : Int) (m4 : Bool) (d0 : Int) (d1 : Int) (d2 : Int) (d3 : Int) (d4 : Int) (d5 : Int) (w : World) (R : Ending → World → Prop) (h : S_law7_play a0 m0 m1p m1l m1c m2p m2l m2c m3 m4 d0 d1 d2 d3 d4 d5 w R) : Calls Try.prog 24 #[.pointer a0, .agg #[.int .i64 m0, .slice m1p m1l m1c, .slice m2p m2l m2c, .int .i64 m3, .bool m4], .agg #[.int .i64 d0, .int .i64 d1, .int .i64 d2, .int .i64 d3, .int .i64 d4, .int .u64 d5]] w R :=
  calls_of_X (an := S_law7_play_ann) wide_ok Try.func24 (by kernel_rfl) (by kernel_rfl) (by rw [S_law7_play_eq]; exact h)

def S_law7_looks_l0 (a0 : Option Addr) (R : Ending → World → Prop) (at0 : Int) (b12 : Nat) (k2 : World → Prop) (i0 : Int) (w33 : World) (I1 : Int → World → Prop) (M1 : Int → World → Nat) : Prop :=
  LdS w33 (Addr.add (⟨b12, 0, none⟩) 4) fun _ s21l _ =>
  cond (decide (i0 < (Nat.cast s21l : Int)))
  (cond (decide (i0 < 40))
  (Calls Try.prog 14 #[.pointer a0, .int .i64 at0, .int .i64 i0] w33 fun e16 w34 =>
  ∃ (r31 : Int), ∃ (r32 : Int), e16 = .returned (.tuple #[.int .u64 r31, .int .i64 r32]) ∧
  cond (r32 != 0)
  (R (.returned (.bool false)) w34)
  (LdS w34 (Addr.add (⟨b12, 0, none⟩) 4) fun s22p s22l _ =>
  IdxC s22p s22l i0 1 fun a1 =>
  LdI .u64 w34 a1 fun n33 =>
  cond (r31 != n33)
  (R (.returned (.bool false)) w34)
  (I1 (IntKind.wrap .i64 (i0 + 1)) w34 ∧ M1 (IntKind.wrap .i64 (i0 + 1)) w34 < M1 i0 w33)))
  (k2 w33))
  (k2 w33)
def S_law7_looks_j0 (k1 : World → Prop) (w35 : World) : Prop :=
  k1 w35
def S_law7_looks_j1 (at0 : Int) (w13 : World) (I0 : Int → World → Prop) (M0 : Int → World → Nat) (w36 : World) : Prop :=
  I0 (IntKind.wrap .i64 (at0 + 1)) w36 ∧ M0 (IntKind.wrap .i64 (at0 + 1)) w36 < M0 at0 w13
def S_law7_looks_l1 (a0 : Option Addr) (R : Ending → World → Prop) (b0 : Nat) (k0 : World → Prop) (at0 : Int) (w13 : World) (I0 : Int → World → Prop) (M0 : Int → World → Nat) : Prop :=
  LdI .i64 w13 (⟨b0, 0, none⟩) fun n16 =>
  LdS w13 (Addr.add (⟨b0, 0, none⟩) 1) fun s14p s14l s14c =>
  LdS w13 (Addr.add (⟨b0, 0, none⟩) 2) fun s15p s15l s15c =>
  LdI .i64 w13 (Addr.add (⟨b0, 0, none⟩) 3) fun n17 =>
  LdB w13 (Addr.add (⟨b0, 0, none⟩) 4) fun b9 =>
  Calls Try.prog 45 #[.agg #[.int .i64 n16, .slice s14p s14l s14c, .slice s15p s15l s15c, .int .i64 n17, .bool b9]] w13 fun e9 w14 =>
  ∃ (r12 : Int), e9 = .returned (.int .i64 r12) ∧
  cond (decide (at0 ≤ r12))
  (cond (decide (at0 < 200))
  (∀ k1 : World → Prop,
  (∀ (w36 : World), S_law7_looks_j1 at0 w13 I0 M0 w36 → k1 w36) →
  Calls Try.prog 13 #[.pointer a0, .int .i64 at0] w14 fun e10 w15 =>
  ∃ (r13 : Int), ∃ (r14 : Int), ∃ (r15 : Int), ∃ (r16 : Bool), ∃ (r17 : Int), ∃ (r18 : Int), e10 = .returned (.tuple #[.agg #[.int .i64 r13, .int .i64 r14, .int .i64 r15, .bool r16, .int .i64 r17], .int .i64 r18]) ∧
  NewC (.cells #[.int .i64 0, .int .i64 0, .int .i64 0, .bool false, .int .i64 0] 39 (0, 0)) w15 fun b10 w16 =>
  StC w16 (⟨b10, 0, none⟩) (.int .i64 r13) fun w17 =>
  StC w17 (Addr.add (⟨b10, 0, none⟩) 1) (.int .i64 r14) fun w18 =>
  StC w18 (Addr.add (⟨b10, 0, none⟩) 2) (.int .i64 r15) fun w19 =>
  StC w19 (Addr.add (⟨b10, 0, none⟩) 3) (.bool r16) fun w20 =>
  StC w20 (Addr.add (⟨b10, 0, none⟩) 4) (.int .i64 r17) fun w21 =>
  Calls Try.prog 21 #[.pointer a0, .int .i64 at0] w21 fun e11 w22 =>
  ∃ (r19 : Int), ∃ (r20 : Int), e11 = .returned (.tuple #[.int .i64 r19, .int .i64 r20]) ∧
  LdI .i64 w22 (⟨b0, 0, none⟩) fun n18 =>
  LdS w22 (Addr.add (⟨b0, 0, none⟩) 1) fun s16p s16l s16c =>
  LdS w22 (Addr.add (⟨b0, 0, none⟩) 2) fun s17p s17l s17c =>
  LdI .i64 w22 (Addr.add (⟨b0, 0, none⟩) 3) fun n19 =>
  LdB w22 (Addr.add (⟨b0, 0, none⟩) 4) fun b11 =>
  Calls Try.prog 37 #[.agg #[.int .i64 n18, .slice s16p s16l s16c, .slice s17p s17l s17c, .int .i64 n19, .bool b11], .int .i64 at0] w22 fun e12 w23 =>
  ∃ (r21 : Int), ∃ (r22 : Int), ∃ (r23 : Int), ∃ (r24 : Bool), ∃ (r25p : Option Addr), ∃ (r25l : Nat), ∃ (r25c : Nat), ∃ (r26 : Bool), e12 = .returned (.tuple #[.agg #[.int .i64 r21, .int .i64 r22, .int .i64 r23, .bool r24, .slice r25p r25l r25c], .bool r26]) ∧
  NewC (.cells #[.int .i64 0, .int .i64 0, .int .i64 0, .bool false, .slice none 0 0] 81 (0, 0)) w23 fun b12 w24 =>
  StC w24 (⟨b12, 0, none⟩) (.int .i64 r21) fun w25 =>
  StC w25 (Addr.add (⟨b12, 0, none⟩) 1) (.int .i64 r22) fun w26 =>
  StC w26 (Addr.add (⟨b12, 0, none⟩) 2) (.int .i64 r23) fun w27 =>
  StC w27 (Addr.add (⟨b12, 0, none⟩) 3) (.bool r24) fun w28 =>
  StC w28 (Addr.add (⟨b12, 0, none⟩) 4) (.slice r25p r25l r25c) fun w29 =>
  LdI .i64 w29 (⟨b0, 0, none⟩) fun n20 =>
  LdS w29 (Addr.add (⟨b0, 0, none⟩) 1) fun s18p s18l s18c =>
  LdS w29 (Addr.add (⟨b0, 0, none⟩) 2) fun s19p s19l s19c =>
  LdI .i64 w29 (Addr.add (⟨b0, 0, none⟩) 3) fun n21 =>
  LdB w29 (Addr.add (⟨b0, 0, none⟩) 4) fun b13 =>
  Calls Try.prog 48 #[.agg #[.int .i64 n20, .slice s18p s18l s18c, .slice s19p s19l s19c, .int .i64 n21, .bool b13], .int .i64 at0] w29 fun e13 w30 =>
  ∃ (r27 : Int), ∃ (r28 : Bool), e13 = .returned (.tuple #[.int .i64 r27, .bool r28]) ∧
  cond (!r26)
  (cond (r18 != 1)
  (R (.returned (.bool false)) w30)
  (cond (r20 != 1)
  (R (.returned (.bool false)) w30)
  (cond (r19 != 0)
  (R (.returned (.bool false)) w30)
  (LdI .i64 w30 (⟨b10, 0, none⟩) fun n22 =>
  LdI .i64 w30 (Addr.add (⟨b10, 0, none⟩) 1) fun n23 =>
  LdI .i64 w30 (Addr.add (⟨b10, 0, none⟩) 2) fun n24 =>
  LdB w30 (Addr.add (⟨b10, 0, none⟩) 3) fun b14 =>
  LdI .i64 w30 (Addr.add (⟨b10, 0, none⟩) 4) fun n25 =>
  Calls Try.prog 49 #[.agg #[.int .i64 n22, .int .i64 n23, .int .i64 n24, .bool b14, .int .i64 n25], .agg #[.int .i64 0, .int .i64 0, .int .i64 0, .bool false, .slice none 0 0]] w30 fun e14 w31 =>
  ∃ (r29 : Bool), e14 = .returned (.bool r29) ∧
  cond (!r29)
  (R (.returned (.bool false)) w31)
  (cond r28
  (R (.returned (.bool false)) w31)
  (k1 w31))))))
  (cond (r18 != 0)
  (R (.returned (.bool false)) w30)
  (LdI .i64 w30 (⟨b10, 0, none⟩) fun n26 =>
  LdI .i64 w30 (Addr.add (⟨b10, 0, none⟩) 1) fun n27 =>
  LdI .i64 w30 (Addr.add (⟨b10, 0, none⟩) 2) fun n28 =>
  LdB w30 (Addr.add (⟨b10, 0, none⟩) 3) fun b15 =>
  LdI .i64 w30 (Addr.add (⟨b10, 0, none⟩) 4) fun n29 =>
  LdI .i64 w30 (⟨b12, 0, none⟩) fun n30 =>
  LdI .i64 w30 (Addr.add (⟨b12, 0, none⟩) 1) fun n31 =>
  LdI .i64 w30 (Addr.add (⟨b12, 0, none⟩) 2) fun n32 =>
  LdB w30 (Addr.add (⟨b12, 0, none⟩) 3) fun b16 =>
  LdS w30 (Addr.add (⟨b12, 0, none⟩) 4) fun s20p s20l s20c =>
  Calls Try.prog 49 #[.agg #[.int .i64 n26, .int .i64 n27, .int .i64 n28, .bool b15, .int .i64 n29], .agg #[.int .i64 n30, .int .i64 n31, .int .i64 n32, .bool b16, .slice s20p s20l s20c]] w30 fun e15 w32 =>
  ∃ (r30 : Bool), e15 = .returned (.bool r30) ∧
  cond (!r30)
  (R (.returned (.bool false)) w32)
  (cond (r20 != 0)
  (R (.returned (.bool false)) w32)
  (cond (r19 != r27)
  (R (.returned (.bool false)) w32)
  (∀ k2 : World → Prop,
  (∀ (w35 : World), S_law7_looks_j0 k1 w35 → k2 w35) →
  ∃ (I1 : Int → World → Prop) (M1 : Int → World → Nat), I1 0 w32 ∧
  ∀ (i0 : Int) (w33 : World), I1 i0 w33 →
  S_law7_looks_l0 a0 R at0 b12 k2 i0 w33 I1 M1))))))
  (k0 w14))
  (k0 w14)
def S_law7_looks_j2 (R : Ending → World → Prop) (w37 : World) : Prop :=
  R (.returned (.bool true)) w37
def S_law7_looks (a0 : Option Addr) (m0 : Int) (m1p : Option Addr) (m1l : Nat) (m1c : Nat) (m2p : Option Addr) (m2l : Nat) (m2c : Nat) (m3 : Int) (m4 : Bool) (w : World) (R : Ending → World → Prop) : Prop :=
  NewC (.cells #[.int .i64 m0, .slice m1p m1l m1c, .slice m2p m2l m2c, .int .i64 m3, .bool m4] 61 (0, 0)) w fun b0 w0 =>
  Calls Try.prog 42 #[.pointer a0] w0 fun e0 w1 =>
  ∃ (r0 : Int), ∃ (r1 : Int), ∃ (r2 : Bool), e0 = .returned (.tuple #[.int .i64 r0, .int .i64 r1, .bool r2]) ∧
  LdI .i64 w1 (⟨b0, 0, none⟩) fun n0 =>
  LdS w1 (Addr.add (⟨b0, 0, none⟩) 1) fun s0p s0l s0c =>
  LdS w1 (Addr.add (⟨b0, 0, none⟩) 2) fun s1p s1l s1c =>
  LdI .i64 w1 (Addr.add (⟨b0, 0, none⟩) 3) fun n1 =>
  LdB w1 (Addr.add (⟨b0, 0, none⟩) 4) fun b1 =>
  Calls Try.prog 43 #[.agg #[.int .i64 n0, .slice s0p s0l s0c, .slice s1p s1l s1c, .int .i64 n1, .bool b1]] w1 fun e1 w2 =>
  ∃ (r3 : Int), ∃ (r4 : Int), e1 = .returned (.tuple #[.int .i64 r3, .int .i64 r4]) ∧
  ∃ C0 : World → Prop, C0 (World.drew w2) ∧
  LdIQ .i64 C0 (⟨b0, 0, none⟩) fun n2 =>
  Calls Try.prog 44 #[.pointer a0] (World.drew w2) fun e2 w3 =>
  ∃ (r5 : Int), e2 = .returned (.int .i64 r5) ∧
  C0 w3 ∧
  cond (r5 != n2)
  (R (.returned (.bool false)) w3)
  (∃ (n3 : Int), ∃ (s2p : Option Addr), ∃ (s2l : Nat), ∃ (s2c : Nat), ∃ (s3p : Option Addr), ∃ (s3l : Nat), ∃ (s3c : Nat), ∃ (n4 : Int), ∃ (b2 : Bool), (∀ (w4 : World), C0 w4 →
  LdI .i64 w4 (⟨b0, 0, none⟩) fun n5 =>
  LdS w4 (Addr.add (⟨b0, 0, none⟩) 1) fun s4p s4l s4c =>
  LdS w4 (Addr.add (⟨b0, 0, none⟩) 2) fun s5p s5l s5c =>
  LdI .i64 w4 (Addr.add (⟨b0, 0, none⟩) 3) fun n6 =>
  LdB w4 (Addr.add (⟨b0, 0, none⟩) 4) fun b3 =>
  Value.agg #[.int .i64 n5, .slice s4p s4l s4c, .slice s5p s5l s5c, .int .i64 n6, .bool b3] = .agg #[.int .i64 n3, .slice s2p s2l s2c, .slice s3p s3l s3c, .int .i64 n4, .bool b2]) ∧
  Calls Try.prog 19 #[.pointer a0] w3 fun e3 w5 =>
  ∃ (r6 : Int), e3 = .returned (.int .i64 r6) ∧
  C0 w5 ∧
  Calls Try.prog 45 #[.agg #[.int .i64 n3, .slice s2p s2l s2c, .slice s3p s3l s3c, .int .i64 n4, .bool b2]] w5 fun e4 w6 =>
  ∃ (r7 : Int), e4 = .returned (.int .i64 r7) ∧
  C0 w6 ∧
  cond (r6 != r7)
  (R (.returned (.bool false)) w6)
  (LdIQ .i64 C0 (⟨b0, 0, none⟩) fun n7 =>
  ∃ (n8 : Int), ∃ (s6p : Option Addr), ∃ (s6l : Nat), ∃ (s6c : Nat), ∃ (s7p : Option Addr), ∃ (s7l : Nat), ∃ (s7c : Nat), ∃ (n9 : Int), ∃ (b4 : Bool), (∀ (w7 : World), C0 w7 →
  LdI .i64 w7 (⟨b0, 0, none⟩) fun n10 =>
  LdS w7 (Addr.add (⟨b0, 0, none⟩) 1) fun s8p s8l s8c =>
  LdS w7 (Addr.add (⟨b0, 0, none⟩) 2) fun s9p s9l s9c =>
  LdI .i64 w7 (Addr.add (⟨b0, 0, none⟩) 3) fun n11 =>
  LdB w7 (Addr.add (⟨b0, 0, none⟩) 4) fun b5 =>
  Value.agg #[.int .i64 n10, .slice s8p s8l s8c, .slice s9p s9l s9c, .int .i64 n11, .bool b5] = .agg #[.int .i64 n8, .slice s6p s6l s6c, .slice s7p s7l s7c, .int .i64 n9, .bool b4]) ∧
  Calls Try.prog 15 #[.pointer a0] w6 fun e5 w8 =>
  ∃ (r8 : Int), e5 = .returned (.int .i64 r8) ∧
  C0 w8 ∧
  Calls Try.prog 45 #[.agg #[.int .i64 n8, .slice s6p s6l s6c, .slice s7p s7l s7c, .int .i64 n9, .bool b4]] w8 fun e6 w9 =>
  ∃ (r9 : Int), e6 = .returned (.int .i64 r9) ∧
  C0 w9 ∧
  cond (r8 != (IntKind.wrap .i64 (n7 - r9)))
  (R (.returned (.bool false)) w9)
  (cond (r0 != r3)
  (R (.returned (.bool false)) w9)
  (cond (r1 != r4)
  (R (.returned (.bool false)) w9)
  (LdBQ C0 (Addr.add (⟨b0, 0, none⟩) 4) fun b6 =>
  cond (!(r2 == b6))
  (R (.returned (.bool false)) w9)
  (∃ (n12 : Int), ∃ (s10p : Option Addr), ∃ (s10l : Nat), ∃ (s10c : Nat), ∃ (s11p : Option Addr), ∃ (s11l : Nat), ∃ (s11c : Nat), ∃ (n13 : Int), ∃ (b7 : Bool), (∀ (w10 : World), C0 w10 →
  LdI .i64 w10 (⟨b0, 0, none⟩) fun n14 =>
  LdS w10 (Addr.add (⟨b0, 0, none⟩) 1) fun s12p s12l s12c =>
  LdS w10 (Addr.add (⟨b0, 0, none⟩) 2) fun s13p s13l s13c =>
  LdI .i64 w10 (Addr.add (⟨b0, 0, none⟩) 3) fun n15 =>
  LdB w10 (Addr.add (⟨b0, 0, none⟩) 4) fun b8 =>
  Value.agg #[.int .i64 n14, .slice s12p s12l s12c, .slice s13p s13l s13c, .int .i64 n15, .bool b8] = .agg #[.int .i64 n12, .slice s10p s10l s10c, .slice s11p s11l s11c, .int .i64 n13, .bool b7]) ∧
  Calls Try.prog 46 #[.pointer a0] w9 fun e7 w11 =>
  ∃ (r10 : Int), e7 = .returned (.int .i64 r10) ∧
  C0 w11 ∧
  Calls Try.prog 47 #[.agg #[.int .i64 n12, .slice s10p s10l s10c, .slice s11p s11l s11c, .int .i64 n13, .bool b7]] w11 fun e8 w12 =>
  ∃ (r11 : Int), e8 = .returned (.int .i64 r11) ∧
  C0 w12 ∧
  cond (r10 != r11)
  (R (.returned (.bool false)) w12)
  (∀ k0 : World → Prop,
  (∀ (w37 : World), S_law7_looks_j2 R w37 → k0 w37) →
  ∃ (I0 : Int → World → Prop) (M0 : Int → World → Nat), I0 0 w12 ∧
  ∀ (at0 : Int) (w13 : World), I0 at0 w13 →
  S_law7_looks_l1 a0 R b0 k0 at0 w13 I0 M0)))))))
def S_law7_looks_ann : Ann := (.seq .leaf (.seq .leaf (.seq .leaf (.seq (.seq .any .leaf) (.seq (.seq .leaf (.jblock [] [] (.loop [0, 3] [(10, (.int .i64))] (.seq .leaf (.seq (.jblock [0, 3, 10] [] (.seq .leaf (.seq .leaf (.seq .leaf (.seq .leaf (.seq .leaf (.seq .leaf (.seq .leaf (.jblock [0, 3, 10] [] (.loop [0, 3, 10, 15] [(19, (.int .i64))] .leaf) .leaf)))))))) .leaf) .leaf))) .leaf)) .leaf)))))
theorem S_law7_looks_eq (a0 : Option Addr) (m0 : Int) (m1p : Option Addr) (m1l : Nat) (m1c : Nat) (m2p : Option Addr) (m2l : Nat) (m2c : Nat) (m3 : Int) (m4 : Bool) (w : World) (R : Ending → World → Prop) : X Try.prog Try.f25.ntmps (bodyOf Try.f25) S_law7_looks_ann (argEnv 0 [.pointer a0, .agg #[.int .i64 m0, .slice m1p m1l m1c, .slice m2p m2l m2c, .int .i64 m3, .bool m4]]) w (fun e w' => resK Try.prog Try.f25.results.toList e w' [] fun vs => R (.returned (pack vs)) w') (fun e w' => resK Try.prog Try.f25.results.toList e w' [] fun vs => R (.returned (pack vs)) w') (fun _ _ _ => False) = S_law7_looks a0 m0 m1p m1l m1c m2p m2l m2c m3 m4 w R := by kernel_rfl
theorem S_law7_looks_ok (a0 : Option Addr) (m0 : Int) (m1p : Option Addr) (m1l : Nat) (m1c : Nat) (m2p : Option Addr) (m2l : Nat) (m2c : Nat) (m3 : Int) (m4 : Bool) (w : World) (R : Ending → World → Prop) (h : S_law7_looks a0 m0 m1p m1l m1c m2p m2l m2c m3 m4 w R) : Calls Try.prog 25 #[.pointer a0, .agg #[.int .i64 m0, .slice m1p m1l m1c, .slice m2p m2l m2c, .int .i64 m3, .bool m4]] w R :=
  calls_of_X (an := S_law7_looks_ann) wide_ok Try.func25 (by kernel_rfl) (by kernel_rfl) (by rw [S_law7_looks_eq]; exact h)

def S_arena_Fits (tag0 : Int) (refs0 : Int) (size0 : Int) (owner0 : Int) (w : World) (R : Ending → World → Prop) : Prop :=
  cond (decide (tag0 < 1))
  (R (.returned (.int .i64 1)) w)
  (cond (decide (tag0 > 255))
  (R (.returned (.int .i64 1)) w)
  (cond (decide (size0 < 0))
  (R (.returned (.int .i64 1)) w)
  (cond (decide (size0 > 4096))
  (R (.returned (.int .i64 1)) w)
  (cond (decide (refs0 < 0))
  (R (.returned (.int .i64 1)) w)
  (cond (decide (refs0 > size0))
  (R (.returned (.int .i64 1)) w)
  (cond (decide (owner0 < 0))
  (R (.returned (.int .i64 1)) w)
  (cond (decide (owner0 ≥ 1048576))
  (R (.returned (.int .i64 1)) w)
  (R (.returned (.int .i64 0)) w))))))))
def S_arena_Fits_ann : Ann := .leaf
theorem S_arena_Fits_eq (tag0 : Int) (refs0 : Int) (size0 : Int) (owner0 : Int) (w : World) (R : Ending → World → Prop) : X Try.prog Try.f26.ntmps (bodyOf Try.f26) S_arena_Fits_ann (argEnv 0 [.int .i64 tag0, .int .i64 refs0, .int .i64 size0, .int .i64 owner0]) w (fun e w' => resK Try.prog Try.f26.results.toList e w' [] fun vs => R (.returned (pack vs)) w') (fun e w' => resK Try.prog Try.f26.results.toList e w' [] fun vs => R (.returned (pack vs)) w') (fun _ _ _ => False) = S_arena_Fits tag0 refs0 size0 owner0 w R := by kernel_rfl
theorem S_arena_Fits_ok (tag0 : Int) (refs0 : Int) (size0 : Int) (owner0 : Int) (w : World) (R : Ending → World → Prop) (h : S_arena_Fits tag0 refs0 size0 owner0 w R) : Calls Try.prog 26 #[.int .i64 tag0, .int .i64 refs0, .int .i64 size0, .int .i64 owner0] w R :=
  calls_of_X (an := S_arena_Fits_ann) wide_ok Try.func26 (by kernel_rfl) (by kernel_rfl) (by rw [S_arena_Fits_eq]; exact h)

def S_arena_packed (h0 : Int) (h1 : Int) (h2 : Int) (h3 : Bool) (h4 : Int) (w : World) (R : Ending → World → Prop) : Prop :=
  NewC (.cells #[.int .i64 h0, .int .i64 h1, .int .i64 h2, .bool h3, .int .i64 h4] 39 (0, 0)) w fun b0 w0 =>
  LdI .i64 w0 (⟨b0, 0, none⟩) fun n0 =>
  LdI .i64 w0 (Addr.add (⟨b0, 0, none⟩) 1) fun n1 =>
  LdI .i64 w0 (Addr.add (⟨b0, 0, none⟩) 2) fun n2 =>
  LdI .i64 w0 (Addr.add (⟨b0, 0, none⟩) 4) fun n3 =>
  LdB w0 (Addr.add (⟨b0, 0, none⟩) 3) fun b1 =>
  cond b1
  (R (.returned (.int .u64 (bOr .u64 (bOr .u64 (bOr .u64 (bOr .u64 (IntKind.wrap .u64 n0) (bShl .u64 (IntKind.wrap .u64 n1) 9)) (bShl .u64 (IntKind.wrap .u64 n2) 22)) (bShl .u64 (IntKind.wrap .u64 n3) 35)) 256))) w0)
  (R (.returned (.int .u64 (bOr .u64 (bOr .u64 (bOr .u64 (IntKind.wrap .u64 n0) (bShl .u64 (IntKind.wrap .u64 n1) 9)) (bShl .u64 (IntKind.wrap .u64 n2) 22)) (bShl .u64 (IntKind.wrap .u64 n3) 35)))) w0)
def S_arena_packed_ann : Ann := .leaf
theorem S_arena_packed_eq (h0 : Int) (h1 : Int) (h2 : Int) (h3 : Bool) (h4 : Int) (w : World) (R : Ending → World → Prop) : X Try.prog Try.f27.ntmps (bodyOf Try.f27) S_arena_packed_ann (argEnv 0 [.agg #[.int .i64 h0, .int .i64 h1, .int .i64 h2, .bool h3, .int .i64 h4]]) w (fun e w' => resK Try.prog Try.f27.results.toList e w' [] fun vs => R (.returned (pack vs)) w') (fun e w' => resK Try.prog Try.f27.results.toList e w' [] fun vs => R (.returned (pack vs)) w') (fun _ _ _ => False) = S_arena_packed h0 h1 h2 h3 h4 w R := by kernel_rfl
theorem S_arena_packed_ok (h0 : Int) (h1 : Int) (h2 : Int) (h3 : Bool) (h4 : Int) (w : World) (R : Ending → World → Prop) (h : S_arena_packed h0 h1 h2 h3 h4 w R) : Calls Try.prog 27 #[.agg #[.int .i64 h0, .int .i64 h1, .int .i64 h2, .bool h3, .int .i64 h4]] w R :=
  calls_of_X (an := S_arena_packed_ann) wide_ok Try.func27 (by kernel_rfl) (by kernel_rfl) (by rw [S_arena_packed_eq]; exact h)

def S_arena_Arena_set (a0 : Option Addr) (at0 : Int) (on0 : Bool) (w : World) (R : Ending → World → Prop) : Prop :=
  DivC 64
  (ShC (Int.tmod at0 64)
  (cond on0
  (onSome a0 fun a1 =>
  LdS w (Addr.add a1 1) fun s0p s0l _ =>
  DivC 64
  (IdxC s0p s0l (IntKind.wrap .i64 (Int.tdiv at0 64)) 1 fun a2 =>
  LdI .u64 w a2 fun n0 =>
  IdxC s0p s0l (IntKind.wrap .i64 (Int.tdiv at0 64)) 1 fun a3 =>
  StC w a3 (.int .u64 (bOr .u64 n0 (bShl .u64 1 (Int.tmod at0 64)))) fun w0 =>
  R (.returned (.tuple #[])) w0))
  (onSome a0 fun a4 =>
  LdS w (Addr.add a4 1) fun s1p s1l _ =>
  DivC 64
  (IdxC s1p s1l (IntKind.wrap .i64 (Int.tdiv at0 64)) 1 fun a5 =>
  LdI .u64 w a5 fun n1 =>
  IdxC s1p s1l (IntKind.wrap .i64 (Int.tdiv at0 64)) 1 fun a6 =>
  StC w a6 (.int .u64 (bAndNot .u64 n1 (bShl .u64 1 (Int.tmod at0 64)))) fun w1 =>
  R (.returned (.tuple #[])) w1))))
def S_arena_Arena_set_ann : Ann := .leaf
theorem S_arena_Arena_set_eq (a0 : Option Addr) (at0 : Int) (on0 : Bool) (w : World) (R : Ending → World → Prop) : X Try.prog Try.f28.ntmps (bodyOf Try.f28) S_arena_Arena_set_ann (argEnv 0 [.pointer a0, .int .i64 at0, .bool on0]) w (fun e w' => resK Try.prog Try.f28.results.toList e w' [] fun vs => R (.returned (pack vs)) w') (fun e w' => resK Try.prog Try.f28.results.toList e w' [] fun vs => R (.returned (pack vs)) w') (fun _ _ _ => False) = S_arena_Arena_set a0 at0 on0 w R := by kernel_rfl
theorem S_arena_Arena_set_ok (a0 : Option Addr) (at0 : Int) (on0 : Bool) (w : World) (R : Ending → World → Prop) (h : S_arena_Arena_set a0 at0 on0 w R) : Calls Try.prog 28 #[.pointer a0, .int .i64 at0, .bool on0] w R :=
  calls_of_X (an := S_arena_Arena_set_ann) wide_ok Try.func28 (by kernel_rfl) (by kernel_rfl) (by rw [S_arena_Arena_set_eq]; exact h)

def S_arena_Arena_word (a0 : Option Addr) (at0 : Int) (i0 : Int) (w : World) (R : Ending → World → Prop) : Prop :=
  Calls Try.prog 13 #[.pointer a0, .int .i64 at0] w fun e0 w0 =>
  ∃ (r0 : Int), ∃ (r1 : Int), ∃ (r2 : Int), ∃ (r3 : Bool), ∃ (r4 : Int), ∃ (r5 : Int), e0 = .returned (.tuple #[.agg #[.int .i64 r0, .int .i64 r1, .int .i64 r2, .bool r3, .int .i64 r4], .int .i64 r5]) ∧
  NewC (.cells #[.int .i64 0, .int .i64 0, .int .i64 0, .bool false, .int .i64 0] 39 (0, 0)) w0 fun b0 w1 =>
  StC w1 (⟨b0, 0, none⟩) (.int .i64 r0) fun w2 =>
  StC w2 (Addr.add (⟨b0, 0, none⟩) 1) (.int .i64 r1) fun w3 =>
  StC w3 (Addr.add (⟨b0, 0, none⟩) 2) (.int .i64 r2) fun w4 =>
  StC w4 (Addr.add (⟨b0, 0, none⟩) 3) (.bool r3) fun w5 =>
  StC w5 (Addr.add (⟨b0, 0, none⟩) 4) (.int .i64 r4) fun w6 =>
  cond (r5 != 0)
  (R (.returned (.tuple #[.int .i64 0, .int .i64 1])) w6)
  (cond (decide (i0 < 0))
  (R (.returned (.tuple #[.int .i64 0, .int .i64 1])) w6)
  (LdI .i64 w6 (Addr.add (⟨b0, 0, none⟩) 2) fun n0 =>
  cond (decide (i0 ≥ n0))
  (R (.returned (.tuple #[.int .i64 0, .int .i64 1])) w6)
  (R (.returned (.tuple #[.int .i64 (IntKind.wrap .i64 ((IntKind.wrap .i64 (at0 + 1)) + i0)), .int .i64 0])) w6)))
def S_arena_Arena_word_ann : Ann := .leaf
theorem S_arena_Arena_word_eq (a0 : Option Addr) (at0 : Int) (i0 : Int) (w : World) (R : Ending → World → Prop) : X Try.prog Try.f29.ntmps (bodyOf Try.f29) S_arena_Arena_word_ann (argEnv 0 [.pointer a0, .int .i64 at0, .int .i64 i0]) w (fun e w' => resK Try.prog Try.f29.results.toList e w' [] fun vs => R (.returned (pack vs)) w') (fun e w' => resK Try.prog Try.f29.results.toList e w' [] fun vs => R (.returned (pack vs)) w') (fun _ _ _ => False) = S_arena_Arena_word a0 at0 i0 w R := by kernel_rfl
theorem S_arena_Arena_word_ok (a0 : Option Addr) (at0 : Int) (i0 : Int) (w : World) (R : Ending → World → Prop) (h : S_arena_Arena_word a0 at0 i0 w R) : Calls Try.prog 29 #[.pointer a0, .int .i64 at0, .int .i64 i0] w R :=
  calls_of_X (an := S_arena_Arena_word_ann) wide_ok Try.func29 (by kernel_rfl) (by kernel_rfl) (by rw [S_arena_Arena_word_eq]; exact h)

def S_arena_Arena_is (a0 : Option Addr) (at0 : Int) (w : World) (R : Ending → World → Prop) : Prop :=
  cond (decide (at0 ≥ 0))
  (onSome a0 fun a1 =>
  LdS w a1 fun _ s0l _ =>
  cond (decide (at0 < (Nat.cast s0l : Int)))
  (onSome a0 fun a2 =>
  LdS w (Addr.add a2 1) fun s1p s1l _ =>
  DivC 64
  (IdxC s1p s1l (IntKind.wrap .i64 (Int.tdiv at0 64)) 1 fun a3 =>
  LdI .u64 w a3 fun n0 =>
  DivC 64
  (ShC (Int.tmod at0 64)
  (R (.returned (.bool ((bAnd .u64 (bShr .u64 n0 (Int.tmod at0 64)) 1) == 1))) w))))
  (R (.returned (.bool false)) w))
  (R (.returned (.bool false)) w)
def S_arena_Arena_is_ann : Ann := .leaf
theorem S_arena_Arena_is_eq (a0 : Option Addr) (at0 : Int) (w : World) (R : Ending → World → Prop) : X Try.prog Try.f30.ntmps (bodyOf Try.f30) S_arena_Arena_is_ann (argEnv 0 [.pointer a0, .int .i64 at0]) w (fun e w' => resK Try.prog Try.f30.results.toList e w' [] fun vs => R (.returned (pack vs)) w') (fun e w' => resK Try.prog Try.f30.results.toList e w' [] fun vs => R (.returned (pack vs)) w') (fun _ _ _ => False) = S_arena_Arena_is a0 at0 w R := by kernel_rfl
theorem S_arena_Arena_is_ok (a0 : Option Addr) (at0 : Int) (w : World) (R : Ending → World → Prop) (h : S_arena_Arena_is a0 at0 w R) : Calls Try.prog 30 #[.pointer a0, .int .i64 at0] w R :=
  calls_of_X (an := S_arena_Arena_is_ann) wide_ok Try.func30 (by kernel_rfl) (by kernel_rfl) (by rw [S_arena_Arena_is_eq]; exact h)

def S_arena_unpacked (w0 : Int) (w : World) (R : Ending → World → Prop) : Prop :=
  NewC (.cells #[.int .i64 0, .int .i64 0, .int .i64 0, .bool false, .int .i64 0] 39 (0, 0)) w fun b0 w1 =>
  StC w1 (⟨b0, 0, none⟩) (.int .i64 (IntKind.wrap .i64 (bAnd .u64 w0 255))) fun w2 =>
  StC w2 (Addr.add (⟨b0, 0, none⟩) 1) (.int .i64 (IntKind.wrap .i64 (bAnd .u64 (bShr .u64 w0 9) 8191))) fun w3 =>
  StC w3 (Addr.add (⟨b0, 0, none⟩) 2) (.int .i64 (IntKind.wrap .i64 (bAnd .u64 (bShr .u64 w0 22) 8191))) fun w4 =>
  StC w4 (Addr.add (⟨b0, 0, none⟩) 3) (.bool ((bAnd .u64 (bShr .u64 w0 8) 1) == 1)) fun w5 =>
  StC w5 (Addr.add (⟨b0, 0, none⟩) 4) (.int .i64 (IntKind.wrap .i64 (bAnd .u64 (bShr .u64 w0 35) 1048575))) fun w6 =>
  LdI .i64 w6 (⟨b0, 0, none⟩) fun n0 =>
  LdI .i64 w6 (Addr.add (⟨b0, 0, none⟩) 1) fun n1 =>
  LdI .i64 w6 (Addr.add (⟨b0, 0, none⟩) 2) fun n2 =>
  LdB w6 (Addr.add (⟨b0, 0, none⟩) 3) fun b1 =>
  LdI .i64 w6 (Addr.add (⟨b0, 0, none⟩) 4) fun n3 =>
  R (.returned (.agg #[.int .i64 n0, .int .i64 n1, .int .i64 n2, .bool b1, .int .i64 n3])) w6
def S_arena_unpacked_ann : Ann := .leaf
theorem S_arena_unpacked_eq (w0 : Int) (w : World) (R : Ending → World → Prop) : X Try.prog Try.f31.ntmps (bodyOf Try.f31) S_arena_unpacked_ann (argEnv 0 [.int .u64 w0]) w (fun e w' => resK Try.prog Try.f31.results.toList e w' [] fun vs => R (.returned (pack vs)) w') (fun e w' => resK Try.prog Try.f31.results.toList e w' [] fun vs => R (.returned (pack vs)) w') (fun _ _ _ => False) = S_arena_unpacked w0 w R := by kernel_rfl
theorem S_arena_unpacked_ok (w0 : Int) (w : World) (R : Ending → World → Prop) (h : S_arena_unpacked w0 w R) : Calls Try.prog 31 #[.int .u64 w0] w R :=
  calls_of_X (an := S_arena_unpacked_ann) wide_ok Try.func31 (by kernel_rfl) (by kernel_rfl) (by rw [S_arena_unpacked_eq]; exact h)

def S_arena_Arena_behind (a0 : Option Addr) (w : World) (R : Ending → World → Prop) : Prop :=
  NewC (.cells #[.int .i64 0, .int .i64 0, .int .i64 0, .bool false, .int .i64 0] 39 (0, 0)) w fun b0 w0 =>
  onSome a0 fun a1 =>
  LdB w0 (Addr.add a1 5) fun b1 =>
  cond (!b1)
  (StC w0 (⟨b0, 0, none⟩) (.int .i64 0) fun w1 =>
  StC w1 (Addr.add (⟨b0, 0, none⟩) 1) (.int .i64 0) fun w2 =>
  StC w2 (Addr.add (⟨b0, 0, none⟩) 2) (.int .i64 0) fun w3 =>
  StC w3 (Addr.add (⟨b0, 0, none⟩) 3) (.bool false) fun w4 =>
  StC w4 (Addr.add (⟨b0, 0, none⟩) 4) (.int .i64 0) fun w5 =>
  LdI .i64 w5 (⟨b0, 0, none⟩) fun n0 =>
  LdI .i64 w5 (Addr.add (⟨b0, 0, none⟩) 1) fun n1 =>
  LdI .i64 w5 (Addr.add (⟨b0, 0, none⟩) 2) fun n2 =>
  LdB w5 (Addr.add (⟨b0, 0, none⟩) 3) fun b2 =>
  LdI .i64 w5 (Addr.add (⟨b0, 0, none⟩) 4) fun n3 =>
  R (.returned (.tuple #[.agg #[.int .i64 n0, .int .i64 n1, .int .i64 n2, .bool b2, .int .i64 n3], .int .i64 16])) w5)
  (onSome a0 fun a2 =>
  LdI .i64 (World.drew w0) (Addr.add a2 4) fun n4 =>
  onSome a0 fun a3 =>
  LdI .i64 (World.drew w0) (Addr.add a3 2) fun n5 =>
  cond (n4 == n5)
  (StC (World.drew w0) (⟨b0, 0, none⟩) (.int .i64 0) fun w6 =>
  StC w6 (Addr.add (⟨b0, 0, none⟩) 1) (.int .i64 0) fun w7 =>
  StC w7 (Addr.add (⟨b0, 0, none⟩) 2) (.int .i64 0) fun w8 =>
  StC w8 (Addr.add (⟨b0, 0, none⟩) 3) (.bool false) fun w9 =>
  StC w9 (Addr.add (⟨b0, 0, none⟩) 4) (.int .i64 0) fun w10 =>
  LdI .i64 w10 (⟨b0, 0, none⟩) fun n6 =>
  LdI .i64 w10 (Addr.add (⟨b0, 0, none⟩) 1) fun n7 =>
  LdI .i64 w10 (Addr.add (⟨b0, 0, none⟩) 2) fun n8 =>
  LdB w10 (Addr.add (⟨b0, 0, none⟩) 3) fun b3 =>
  LdI .i64 w10 (Addr.add (⟨b0, 0, none⟩) 4) fun n9 =>
  R (.returned (.tuple #[.agg #[.int .i64 n6, .int .i64 n7, .int .i64 n8, .bool b3, .int .i64 n9], .int .i64 17])) w10)
  (onSome a0 fun a4 =>
  LdS (World.drew (World.drew w0)) a4 fun s0p s0l _ =>
  onSome a0 fun a5 =>
  LdI .i64 (World.drew (World.drew w0)) (Addr.add a5 4) fun n10 =>
  IdxC s0p s0l n10 1 fun a6 =>
  LdI .u64 (World.drew (World.drew w0)) a6 fun n11 =>
  Calls Try.prog 31 #[.int .u64 n11] (World.drew (World.drew w0)) fun e0 w11 =>
  ∃ (r0 : Int), ∃ (r1 : Int), ∃ (r2 : Int), ∃ (r3 : Bool), ∃ (r4 : Int), e0 = .returned (.agg #[.int .i64 r0, .int .i64 r1, .int .i64 r2, .bool r3, .int .i64 r4]) ∧
  StC w11 (⟨b0, 0, none⟩) (.int .i64 r0) fun w12 =>
  StC w12 (Addr.add (⟨b0, 0, none⟩) 1) (.int .i64 r1) fun w13 =>
  StC w13 (Addr.add (⟨b0, 0, none⟩) 2) (.int .i64 r2) fun w14 =>
  StC w14 (Addr.add (⟨b0, 0, none⟩) 3) (.bool r3) fun w15 =>
  StC w15 (Addr.add (⟨b0, 0, none⟩) 4) (.int .i64 r4) fun w16 =>
  LdI .i64 w16 (⟨b0, 0, none⟩) fun n12 =>
  LdI .i64 w16 (Addr.add (⟨b0, 0, none⟩) 1) fun n13 =>
  LdI .i64 w16 (Addr.add (⟨b0, 0, none⟩) 2) fun n14 =>
  LdB w16 (Addr.add (⟨b0, 0, none⟩) 3) fun b4 =>
  LdI .i64 w16 (Addr.add (⟨b0, 0, none⟩) 4) fun n15 =>
  R (.returned (.tuple #[.agg #[.int .i64 n12, .int .i64 n13, .int .i64 n14, .bool b4, .int .i64 n15], .int .i64 0])) w16))
def S_arena_Arena_behind_ann : Ann := (.seq .leaf (.seq (.block (.seq .leaf (.cond .leaf (.seq (.draw 10) .leaf)))) (.seq (.draw 10) .leaf)))
theorem S_arena_Arena_behind_eq (a0 : Option Addr) (w : World) (R : Ending → World → Prop) : X Try.prog Try.f32.ntmps (bodyOf Try.f32) S_arena_Arena_behind_ann (argEnv 0 [.pointer a0]) w (fun e w' => resK Try.prog Try.f32.results.toList e w' [] fun vs => R (.returned (pack vs)) w') (fun e w' => resK Try.prog Try.f32.results.toList e w' [] fun vs => R (.returned (pack vs)) w') (fun _ _ _ => False) = S_arena_Arena_behind a0 w R := by kernel_rfl
theorem S_arena_Arena_behind_ok (a0 : Option Addr) (w : World) (R : Ending → World → Prop) (h : S_arena_Arena_behind a0 w R) : Calls Try.prog 32 #[.pointer a0] w R :=
  calls_of_X (an := S_arena_Arena_behind_ann) wide_ok Try.func32 (by kernel_rfl) (by kernel_rfl) (by rw [S_arena_Arena_behind_eq]; exact h)

def S_arena_Arena_from (a0 : Option Addr) (at0 : Int) (w : World) (R : Ending → World → Prop) : Prop :=
  onSome a0 fun a1 =>
  LdB w (Addr.add a1 5) fun b0 =>
  cond b0
  (onSome a0 fun a2 =>
  LdI .i64 w (Addr.add a2 3) fun n0 =>
  cond (at0 == n0)
  (onSome a0 fun a3 =>
  LdI .i64 w (Addr.add a3 4) fun n1 =>
  R (.returned (.int .i64 n1)) w)
  (R (.returned (.int .i64 at0)) w))
  (R (.returned (.int .i64 at0)) w)
def S_arena_Arena_from_ann : Ann := .leaf
theorem S_arena_Arena_from_eq (a0 : Option Addr) (at0 : Int) (w : World) (R : Ending → World → Prop) : X Try.prog Try.f33.ntmps (bodyOf Try.f33) S_arena_Arena_from_ann (argEnv 0 [.pointer a0, .int .i64 at0]) w (fun e w' => resK Try.prog Try.f33.results.toList e w' [] fun vs => R (.returned (pack vs)) w') (fun e w' => resK Try.prog Try.f33.results.toList e w' [] fun vs => R (.returned (pack vs)) w') (fun _ _ _ => False) = S_arena_Arena_from a0 at0 w R := by kernel_rfl
theorem S_arena_Arena_from_ok (a0 : Option Addr) (at0 : Int) (w : World) (R : Ending → World → Prop) (h : S_arena_Arena_from a0 at0 w R) : Calls Try.prog 33 #[.pointer a0, .int .i64 at0] w R :=
  calls_of_X (an := S_arena_Arena_from_ann) wide_ok Try.func33 (by kernel_rfl) (by kernel_rfl) (by rw [S_arena_Arena_from_eq]; exact h)

set_option maxRecDepth 100000 in
def S_ref7_Alloc (a0 : Int) (a1p : Option Addr) (a1l : Nat) (a1c : Nat) (a2p : Option Addr) (a2l : Nat) (a2c : Nat) (a3 : Int) (a4 : Bool) (tag0 : Int) (refs0 : Int) (words0 : Int) (owner0 : Int) (w : World) (R : Ending → World → Prop) : Prop :=
  NewC (.cells #[.int .i64 a0, .slice a1p a1l a1c, .slice a2p a2l a2c, .int .i64 a3, .bool a4] 61 (0, 0)) w fun b0 w0 =>
  NewC (.cells #[.int .i64 0, .slice none 0 0, .slice none 0 0, .int .i64 0, .bool false] 61 (0, 0)) w0 fun b1 w1 =>
  cond (decide (tag0 < 1))
  (LdI .i64 w1 (⟨b0, 0, none⟩) fun n0 =>
  LdS w1 (Addr.add (⟨b0, 0, none⟩) 1) fun s0p s0l s0c =>
  LdS w1 (Addr.add (⟨b0, 0, none⟩) 2) fun s1p s1l s1c =>
  LdI .i64 w1 (Addr.add (⟨b0, 0, none⟩) 3) fun n1 =>
  LdB w1 (Addr.add (⟨b0, 0, none⟩) 4) fun b2 =>
  StC w1 (⟨b1, 0, none⟩) (.int .i64 n0) fun w2 =>
  StC w2 (Addr.add (⟨b1, 0, none⟩) 1) (.slice s0p s0l s0c) fun w3 =>
  StC w3 (Addr.add (⟨b1, 0, none⟩) 2) (.slice s1p s1l s1c) fun w4 =>
  StC w4 (Addr.add (⟨b1, 0, none⟩) 3) (.int .i64 n1) fun w5 =>
  StC w5 (Addr.add (⟨b1, 0, none⟩) 4) (.bool b2) fun w6 =>
  LdI .i64 w6 (⟨b1, 0, none⟩) fun n2 =>
  LdS w6 (Addr.add (⟨b1, 0, none⟩) 1) fun s2p s2l s2c =>
  LdS w6 (Addr.add (⟨b1, 0, none⟩) 2) fun s3p s3l s3c =>
  LdI .i64 w6 (Addr.add (⟨b1, 0, none⟩) 3) fun n3 =>
  LdB w6 (Addr.add (⟨b1, 0, none⟩) 4) fun b3 =>
  R (.returned (.tuple #[.agg #[.int .i64 n2, .slice s2p s2l s2c, .slice s3p s3l s3c, .int .i64 n3, .bool b3], .int .i64 0, .int .i64 1])) w6)
  (cond (decide (tag0 > 255))
  (LdI .i64 w1 (⟨b0, 0, none⟩) fun n4 =>
  LdS w1 (Addr.add (⟨b0, 0, none⟩) 1) fun s4p s4l s4c =>
  LdS w1 (Addr.add (⟨b0, 0, none⟩) 2) fun s5p s5l s5c =>
  LdI .i64 w1 (Addr.add (⟨b0, 0, none⟩) 3) fun n5 =>
  LdB w1 (Addr.add (⟨b0, 0, none⟩) 4) fun b4 =>
  StC w1 (⟨b1, 0, none⟩) (.int .i64 n4) fun w7 =>
  StC w7 (Addr.add (⟨b1, 0, none⟩) 1) (.slice s4p s4l s4c) fun w8 =>
  StC w8 (Addr.add (⟨b1, 0, none⟩) 2) (.slice s5p s5l s5c) fun w9 =>
  StC w9 (Addr.add (⟨b1, 0, none⟩) 3) (.int .i64 n5) fun w10 =>
  StC w10 (Addr.add (⟨b1, 0, none⟩) 4) (.bool b4) fun w11 =>
  LdI .i64 w11 (⟨b1, 0, none⟩) fun n6 =>
  LdS w11 (Addr.add (⟨b1, 0, none⟩) 1) fun s6p s6l s6c =>
  LdS w11 (Addr.add (⟨b1, 0, none⟩) 2) fun s7p s7l s7c =>
  LdI .i64 w11 (Addr.add (⟨b1, 0, none⟩) 3) fun n7 =>
  LdB w11 (Addr.add (⟨b1, 0, none⟩) 4) fun b5 =>
  R (.returned (.tuple #[.agg #[.int .i64 n6, .slice s6p s6l s6c, .slice s7p s7l s7c, .int .i64 n7, .bool b5], .int .i64 0, .int .i64 1])) w11)
  (cond (decide (words0 < 0))
  (LdI .i64 w1 (⟨b0, 0, none⟩) fun n8 =>
  LdS w1 (Addr.add (⟨b0, 0, none⟩) 1) fun s8p s8l s8c =>
  LdS w1 (Addr.add (⟨b0, 0, none⟩) 2) fun s9p s9l s9c =>
  LdI .i64 w1 (Addr.add (⟨b0, 0, none⟩) 3) fun n9 =>
  LdB w1 (Addr.add (⟨b0, 0, none⟩) 4) fun b6 =>
  StC w1 (⟨b1, 0, none⟩) (.int .i64 n8) fun w12 =>
  StC w12 (Addr.add (⟨b1, 0, none⟩) 1) (.slice s8p s8l s8c) fun w13 =>
  StC w13 (Addr.add (⟨b1, 0, none⟩) 2) (.slice s9p s9l s9c) fun w14 =>
  StC w14 (Addr.add (⟨b1, 0, none⟩) 3) (.int .i64 n9) fun w15 =>
  StC w15 (Addr.add (⟨b1, 0, none⟩) 4) (.bool b6) fun w16 =>
  LdI .i64 w16 (⟨b1, 0, none⟩) fun n10 =>
  LdS w16 (Addr.add (⟨b1, 0, none⟩) 1) fun s10p s10l s10c =>
  LdS w16 (Addr.add (⟨b1, 0, none⟩) 2) fun s11p s11l s11c =>
  LdI .i64 w16 (Addr.add (⟨b1, 0, none⟩) 3) fun n11 =>
  LdB w16 (Addr.add (⟨b1, 0, none⟩) 4) fun b7 =>
  R (.returned (.tuple #[.agg #[.int .i64 n10, .slice s10p s10l s10c, .slice s11p s11l s11c, .int .i64 n11, .bool b7], .int .i64 0, .int .i64 1])) w16)
  (cond (decide (words0 > 4096))
  (LdI .i64 w1 (⟨b0, 0, none⟩) fun n12 =>
  LdS w1 (Addr.add (⟨b0, 0, none⟩) 1) fun s12p s12l s12c =>
  LdS w1 (Addr.add (⟨b0, 0, none⟩) 2) fun s13p s13l s13c =>
  LdI .i64 w1 (Addr.add (⟨b0, 0, none⟩) 3) fun n13 =>
  LdB w1 (Addr.add (⟨b0, 0, none⟩) 4) fun b8 =>
  StC w1 (⟨b1, 0, none⟩) (.int .i64 n12) fun w17 =>
  StC w17 (Addr.add (⟨b1, 0, none⟩) 1) (.slice s12p s12l s12c) fun w18 =>
  StC w18 (Addr.add (⟨b1, 0, none⟩) 2) (.slice s13p s13l s13c) fun w19 =>
  StC w19 (Addr.add (⟨b1, 0, none⟩) 3) (.int .i64 n13) fun w20 =>
  StC w20 (Addr.add (⟨b1, 0, none⟩) 4) (.bool b8) fun w21 =>
  LdI .i64 w21 (⟨b1, 0, none⟩) fun n14 =>
  LdS w21 (Addr.add (⟨b1, 0, none⟩) 1) fun s14p s14l s14c =>
  LdS w21 (Addr.add (⟨b1, 0, none⟩) 2) fun s15p s15l s15c =>
  LdI .i64 w21 (Addr.add (⟨b1, 0, none⟩) 3) fun n15 =>
  LdB w21 (Addr.add (⟨b1, 0, none⟩) 4) fun b9 =>
  R (.returned (.tuple #[.agg #[.int .i64 n14, .slice s14p s14l s14c, .slice s15p s15l s15c, .int .i64 n15, .bool b9], .int .i64 0, .int .i64 1])) w21)
  (cond (decide (refs0 < 0))
  (LdI .i64 w1 (⟨b0, 0, none⟩) fun n16 =>
  LdS w1 (Addr.add (⟨b0, 0, none⟩) 1) fun s16p s16l s16c =>
  LdS w1 (Addr.add (⟨b0, 0, none⟩) 2) fun s17p s17l s17c =>
  LdI .i64 w1 (Addr.add (⟨b0, 0, none⟩) 3) fun n17 =>
  LdB w1 (Addr.add (⟨b0, 0, none⟩) 4) fun b10 =>
  StC w1 (⟨b1, 0, none⟩) (.int .i64 n16) fun w22 =>
  StC w22 (Addr.add (⟨b1, 0, none⟩) 1) (.slice s16p s16l s16c) fun w23 =>
  StC w23 (Addr.add (⟨b1, 0, none⟩) 2) (.slice s17p s17l s17c) fun w24 =>
  StC w24 (Addr.add (⟨b1, 0, none⟩) 3) (.int .i64 n17) fun w25 =>
  StC w25 (Addr.add (⟨b1, 0, none⟩) 4) (.bool b10) fun w26 =>
  LdI .i64 w26 (⟨b1, 0, none⟩) fun n18 =>
  LdS w26 (Addr.add (⟨b1, 0, none⟩) 1) fun s18p s18l s18c =>
  LdS w26 (Addr.add (⟨b1, 0, none⟩) 2) fun s19p s19l s19c =>
  LdI .i64 w26 (Addr.add (⟨b1, 0, none⟩) 3) fun n19 =>
  LdB w26 (Addr.add (⟨b1, 0, none⟩) 4) fun b11 =>
  R (.returned (.tuple #[.agg #[.int .i64 n18, .slice s18p s18l s18c, .slice s19p s19l s19c, .int .i64 n19, .bool b11], .int .i64 0, .int .i64 1])) w26)
  (cond (decide (refs0 > words0))
  (LdI .i64 w1 (⟨b0, 0, none⟩) fun n20 =>
  LdS w1 (Addr.add (⟨b0, 0, none⟩) 1) fun s20p s20l s20c =>
  LdS w1 (Addr.add (⟨b0, 0, none⟩) 2) fun s21p s21l s21c =>
  LdI .i64 w1 (Addr.add (⟨b0, 0, none⟩) 3) fun n21 =>
  LdB w1 (Addr.add (⟨b0, 0, none⟩) 4) fun b12 =>
  StC w1 (⟨b1, 0, none⟩) (.int .i64 n20) fun w27 =>
  StC w27 (Addr.add (⟨b1, 0, none⟩) 1) (.slice s20p s20l s20c) fun w28 =>
  StC w28 (Addr.add (⟨b1, 0, none⟩) 2) (.slice s21p s21l s21c) fun w29 =>
  StC w29 (Addr.add (⟨b1, 0, none⟩) 3) (.int .i64 n21) fun w30 =>
  StC w30 (Addr.add (⟨b1, 0, none⟩) 4) (.bool b12) fun w31 =>
  LdI .i64 w31 (⟨b1, 0, none⟩) fun n22 =>
  LdS w31 (Addr.add (⟨b1, 0, none⟩) 1) fun s22p s22l s22c =>
  LdS w31 (Addr.add (⟨b1, 0, none⟩) 2) fun s23p s23l s23c =>
  LdI .i64 w31 (Addr.add (⟨b1, 0, none⟩) 3) fun n23 =>
  LdB w31 (Addr.add (⟨b1, 0, none⟩) 4) fun b13 =>
  R (.returned (.tuple #[.agg #[.int .i64 n22, .slice s22p s22l s22c, .slice s23p s23l s23c, .int .i64 n23, .bool b13], .int .i64 0, .int .i64 1])) w31)
  (cond (decide (owner0 < 0))
  (LdI .i64 w1 (⟨b0, 0, none⟩) fun n24 =>
  LdS w1 (Addr.add (⟨b0, 0, none⟩) 1) fun s24p s24l s24c =>
  LdS w1 (Addr.add (⟨b0, 0, none⟩) 2) fun s25p s25l s25c =>
  LdI .i64 w1 (Addr.add (⟨b0, 0, none⟩) 3) fun n25 =>
  LdB w1 (Addr.add (⟨b0, 0, none⟩) 4) fun b14 =>
  StC w1 (⟨b1, 0, none⟩) (.int .i64 n24) fun w32 =>
  StC w32 (Addr.add (⟨b1, 0, none⟩) 1) (.slice s24p s24l s24c) fun w33 =>
  StC w33 (Addr.add (⟨b1, 0, none⟩) 2) (.slice s25p s25l s25c) fun w34 =>
  StC w34 (Addr.add (⟨b1, 0, none⟩) 3) (.int .i64 n25) fun w35 =>
  StC w35 (Addr.add (⟨b1, 0, none⟩) 4) (.bool b14) fun w36 =>
  LdI .i64 w36 (⟨b1, 0, none⟩) fun n26 =>
  LdS w36 (Addr.add (⟨b1, 0, none⟩) 1) fun s26p s26l s26c =>
  LdS w36 (Addr.add (⟨b1, 0, none⟩) 2) fun s27p s27l s27c =>
  LdI .i64 w36 (Addr.add (⟨b1, 0, none⟩) 3) fun n27 =>
  LdB w36 (Addr.add (⟨b1, 0, none⟩) 4) fun b15 =>
  R (.returned (.tuple #[.agg #[.int .i64 n26, .slice s26p s26l s26c, .slice s27p s27l s27c, .int .i64 n27, .bool b15], .int .i64 0, .int .i64 1])) w36)
  (cond (decide (owner0 ≥ 1048576))
  (LdI .i64 w1 (⟨b0, 0, none⟩) fun n28 =>
  LdS w1 (Addr.add (⟨b0, 0, none⟩) 1) fun s28p s28l s28c =>
  LdS w1 (Addr.add (⟨b0, 0, none⟩) 2) fun s29p s29l s29c =>
  LdI .i64 w1 (Addr.add (⟨b0, 0, none⟩) 3) fun n29 =>
  LdB w1 (Addr.add (⟨b0, 0, none⟩) 4) fun b16 =>
  StC w1 (⟨b1, 0, none⟩) (.int .i64 n28) fun w37 =>
  StC w37 (Addr.add (⟨b1, 0, none⟩) 1) (.slice s28p s28l s28c) fun w38 =>
  StC w38 (Addr.add (⟨b1, 0, none⟩) 2) (.slice s29p s29l s29c) fun w39 =>
  StC w39 (Addr.add (⟨b1, 0, none⟩) 3) (.int .i64 n29) fun w40 =>
  StC w40 (Addr.add (⟨b1, 0, none⟩) 4) (.bool b16) fun w41 =>
  LdI .i64 w41 (⟨b1, 0, none⟩) fun n30 =>
  LdS w41 (Addr.add (⟨b1, 0, none⟩) 1) fun s30p s30l s30c =>
  LdS w41 (Addr.add (⟨b1, 0, none⟩) 2) fun s31p s31l s31c =>
  LdI .i64 w41 (Addr.add (⟨b1, 0, none⟩) 3) fun n31 =>
  LdB w41 (Addr.add (⟨b1, 0, none⟩) 4) fun b17 =>
  R (.returned (.tuple #[.agg #[.int .i64 n30, .slice s30p s30l s30c, .slice s31p s31l s31c, .int .i64 n31, .bool b17], .int .i64 0, .int .i64 1])) w41)
  (LdI .i64 w1 (⟨b0, 0, none⟩) fun n32 =>
  LdS w1 (Addr.add (⟨b0, 0, none⟩) 1) fun s32p s32l s32c =>
  LdS w1 (Addr.add (⟨b0, 0, none⟩) 2) fun s33p s33l s33c =>
  LdI .i64 w1 (Addr.add (⟨b0, 0, none⟩) 3) fun n33 =>
  LdB w1 (Addr.add (⟨b0, 0, none⟩) 4) fun b18 =>
  Calls Try.prog 45 #[.agg #[.int .i64 n32, .slice s32p s32l s32c, .slice s33p s33l s33c, .int .i64 n33, .bool b18]] w1 fun e0 w42 =>
  ∃ (r0 : Int), e0 = .returned (.int .i64 r0) ∧
  LdI .i64 w42 (⟨b0, 0, none⟩) fun n34 =>
  cond (decide ((IntKind.wrap .i64 (n34 - r0)) < (IntKind.wrap .i64 (words0 + 1))))
  (LdI .i64 w42 (⟨b0, 0, none⟩) fun n35 =>
  LdS w42 (Addr.add (⟨b0, 0, none⟩) 1) fun s34p s34l s34c =>
  LdS w42 (Addr.add (⟨b0, 0, none⟩) 2) fun s35p s35l s35c =>
  LdI .i64 w42 (Addr.add (⟨b0, 0, none⟩) 3) fun n36 =>
  LdB w42 (Addr.add (⟨b0, 0, none⟩) 4) fun b19 =>
  StC w42 (⟨b1, 0, none⟩) (.int .i64 n35) fun w43 =>
  StC w43 (Addr.add (⟨b1, 0, none⟩) 1) (.slice s34p s34l s34c) fun w44 =>
  StC w44 (Addr.add (⟨b1, 0, none⟩) 2) (.slice s35p s35l s35c) fun w45 =>
  StC w45 (Addr.add (⟨b1, 0, none⟩) 3) (.int .i64 n36) fun w46 =>
  StC w46 (Addr.add (⟨b1, 0, none⟩) 4) (.bool b19) fun w47 =>
  LdI .i64 w47 (⟨b1, 0, none⟩) fun n37 =>
  LdS w47 (Addr.add (⟨b1, 0, none⟩) 1) fun s36p s36l s36c =>
  LdS w47 (Addr.add (⟨b1, 0, none⟩) 2) fun s37p s37l s37c =>
  LdI .i64 w47 (Addr.add (⟨b1, 0, none⟩) 3) fun n38 =>
  LdB w47 (Addr.add (⟨b1, 0, none⟩) 4) fun b20 =>
  R (.returned (.tuple #[.agg #[.int .i64 n37, .slice s36p s36l s36c, .slice s37p s37l s37c, .int .i64 n38, .bool b20], .int .i64 0, .int .i64 5])) w47)
  (RunS Try.prog (Instr.makeSlice 32 (.int .i64 words0) (.int .i64 words0)) w42 fun s38p s38l s38c w48 =>
  NewC (.cells #[.int .i64 0, .int .i64 0, .int .i64 0, .bool false, .slice none 0 0] 81 (0, 0)) w48 fun b21 w49 =>
  StC w49 (⟨b21, 0, none⟩) (.int .i64 tag0) fun w50 =>
  StC w50 (Addr.add (⟨b21, 0, none⟩) 1) (.int .i64 refs0) fun w51 =>
  StC w51 (Addr.add (⟨b21, 0, none⟩) 2) (.int .i64 owner0) fun w52 =>
  StC w52 (Addr.add (⟨b21, 0, none⟩) 3) (.bool false) fun w53 =>
  StC w53 (Addr.add (⟨b21, 0, none⟩) 4) (.slice s38p s38l s38c) fun w54 =>
  LdB w54 (Addr.add (⟨b0, 0, none⟩) 4) fun b22 =>
  cond b22
  (∃ C0 : World → Prop, C0 (World.drew w54) ∧
  LdSQ C0 (Addr.add (⟨b0, 0, none⟩) 2) fun s39p s39l s39c =>
  ∃ (n39 : Int), ∃ (n40 : Int), ∃ (n41 : Int), ∃ (b23 : Bool), ∃ (s40p : Option Addr), ∃ (s40l : Nat), ∃ (s40c : Nat), (∀ (w55 : World), C0 w55 →
  LdI .i64 w55 (⟨b21, 0, none⟩) fun n42 =>
  LdI .i64 w55 (Addr.add (⟨b21, 0, none⟩) 1) fun n43 =>
  LdI .i64 w55 (Addr.add (⟨b21, 0, none⟩) 2) fun n44 =>
  LdB w55 (Addr.add (⟨b21, 0, none⟩) 3) fun b24 =>
  LdS w55 (Addr.add (⟨b21, 0, none⟩) 4) fun s41p s41l s41c =>
  Value.agg #[.int .i64 n42, .int .i64 n43, .int .i64 n44, .bool b24, .slice s41p s41l s41c] = .agg #[.int .i64 n39, .int .i64 n40, .int .i64 n41, .bool b23, .slice s40p s40l s40c]) ∧
  (RunS Try.prog (Builtin.append_ #[59, 59] 59 #[.slice none 0 0, .slice s39p s39l s39c]) (World.drew w54) fun s42p s42l s42c w56 =>
  C0 w56 ∧
  NewC (.cells #[.int .i64 n39, .int .i64 n40, .int .i64 n41, .bool b23, .slice s40p s40l s40c] 81 (0, 0)) w56 fun b25 w57 =>
  C0 w57 ∧
  RunS Try.prog (Builtin.append_ #[59, 59] 59 #[.slice s42p s42l s42c, .slice (some (⟨b25, 0, none⟩)) 1 1]) w57 fun s43p s43l s43c w58 =>
  C0 w58 ∧
  StC w58 (Addr.add (⟨b0, 0, none⟩) 2) (.slice s43p s43l s43c) fun w59 =>
  LdI .i64 w59 (⟨b0, 0, none⟩) fun n45 =>
  LdS w59 (Addr.add (⟨b0, 0, none⟩) 1) fun s44p s44l s44c =>
  LdS w59 (Addr.add (⟨b0, 0, none⟩) 2) fun s45p s45l s45c =>
  LdI .i64 w59 (Addr.add (⟨b0, 0, none⟩) 3) fun n46 =>
  LdB w59 (Addr.add (⟨b0, 0, none⟩) 4) fun b26 =>
  StC w59 (⟨b1, 0, none⟩) (.int .i64 n45) fun w60 =>
  StC w60 (Addr.add (⟨b1, 0, none⟩) 1) (.slice s44p s44l s44c) fun w61 =>
  StC w61 (Addr.add (⟨b1, 0, none⟩) 2) (.slice s45p s45l s45c) fun w62 =>
  StC w62 (Addr.add (⟨b1, 0, none⟩) 3) (.int .i64 n46) fun w63 =>
  StC w63 (Addr.add (⟨b1, 0, none⟩) 4) (.bool b26) fun w64 =>
  LdI .i64 w64 (⟨b1, 0, none⟩) fun n47 =>
  LdS w64 (Addr.add (⟨b1, 0, none⟩) 1) fun s46p s46l s46c =>
  LdS w64 (Addr.add (⟨b1, 0, none⟩) 2) fun s47p s47l s47c =>
  LdI .i64 w64 (Addr.add (⟨b1, 0, none⟩) 3) fun n48 =>
  LdB w64 (Addr.add (⟨b1, 0, none⟩) 4) fun b27 =>
  R (.returned (.tuple #[.agg #[.int .i64 n47, .slice s46p s46l s46c, .slice s47p s47l s47c, .int .i64 n48, .bool b27], .int .i64 r0, .int .i64 0])) w64) ∧
  (NewC (.cells #[.int .i64 n39, .int .i64 n40, .int .i64 n41, .bool b23, .slice s40p s40l s40c] 81 (0, 0)) (World.drew w54) fun b28 w65 =>
  C0 w65 ∧
  RunS Try.prog (Builtin.append_ #[59, 59] 59 #[.slice none 0 0, .slice s39p s39l s39c]) w65 fun s48p s48l s48c w66 =>
  C0 w66 ∧
  RunS Try.prog (Builtin.append_ #[59, 59] 59 #[.slice s48p s48l s48c, .slice (some (⟨b28, 0, none⟩)) 1 1]) w66 fun s49p s49l s49c w67 =>
  C0 w67 ∧
  StC w67 (Addr.add (⟨b0, 0, none⟩) 2) (.slice s49p s49l s49c) fun w68 =>
  LdI .i64 w68 (⟨b0, 0, none⟩) fun n49 =>
  LdS w68 (Addr.add (⟨b0, 0, none⟩) 1) fun s50p s50l s50c =>
  LdS w68 (Addr.add (⟨b0, 0, none⟩) 2) fun s51p s51l s51c =>
  LdI .i64 w68 (Addr.add (⟨b0, 0, none⟩) 3) fun n50 =>
  LdB w68 (Addr.add (⟨b0, 0, none⟩) 4) fun b29 =>
  StC w68 (⟨b1, 0, none⟩) (.int .i64 n49) fun w69 =>
  StC w69 (Addr.add (⟨b1, 0, none⟩) 1) (.slice s50p s50l s50c) fun w70 =>
  StC w70 (Addr.add (⟨b1, 0, none⟩) 2) (.slice s51p s51l s51c) fun w71 =>
  StC w71 (Addr.add (⟨b1, 0, none⟩) 3) (.int .i64 n50) fun w72 =>
  StC w72 (Addr.add (⟨b1, 0, none⟩) 4) (.bool b29) fun w73 =>
  LdI .i64 w73 (⟨b1, 0, none⟩) fun n51 =>
  LdS w73 (Addr.add (⟨b1, 0, none⟩) 1) fun s52p s52l s52c =>
  LdS w73 (Addr.add (⟨b1, 0, none⟩) 2) fun s53p s53l s53c =>
  LdI .i64 w73 (Addr.add (⟨b1, 0, none⟩) 3) fun n52 =>
  LdB w73 (Addr.add (⟨b1, 0, none⟩) 4) fun b30 =>
  R (.returned (.tuple #[.agg #[.int .i64 n51, .slice s52p s52l s52c, .slice s53p s53l s53c, .int .i64 n52, .bool b30], .int .i64 r0, .int .i64 0])) w73))
  (∃ C1 : World → Prop, C1 (World.drew w54) ∧
  LdSQ C1 (Addr.add (⟨b0, 0, none⟩) 1) fun s54p s54l s54c =>
  ∃ (n53 : Int), ∃ (n54 : Int), ∃ (n55 : Int), ∃ (b31 : Bool), ∃ (s55p : Option Addr), ∃ (s55l : Nat), ∃ (s55c : Nat), (∀ (w74 : World), C1 w74 →
  LdI .i64 w74 (⟨b21, 0, none⟩) fun n56 =>
  LdI .i64 w74 (Addr.add (⟨b21, 0, none⟩) 1) fun n57 =>
  LdI .i64 w74 (Addr.add (⟨b21, 0, none⟩) 2) fun n58 =>
  LdB w74 (Addr.add (⟨b21, 0, none⟩) 3) fun b32 =>
  LdS w74 (Addr.add (⟨b21, 0, none⟩) 4) fun s56p s56l s56c =>
  Value.agg #[.int .i64 n56, .int .i64 n57, .int .i64 n58, .bool b32, .slice s56p s56l s56c] = .agg #[.int .i64 n53, .int .i64 n54, .int .i64 n55, .bool b31, .slice s55p s55l s55c]) ∧
  (RunS Try.prog (Builtin.append_ #[59, 59] 59 #[.slice none 0 0, .slice s54p s54l s54c]) (World.drew w54) fun s57p s57l s57c w75 =>
  C1 w75 ∧
  NewC (.cells #[.int .i64 n53, .int .i64 n54, .int .i64 n55, .bool b31, .slice s55p s55l s55c] 81 (0, 0)) w75 fun b33 w76 =>
  C1 w76 ∧
  RunS Try.prog (Builtin.append_ #[59, 59] 59 #[.slice s57p s57l s57c, .slice (some (⟨b33, 0, none⟩)) 1 1]) w76 fun s58p s58l s58c w77 =>
  C1 w77 ∧
  StC w77 (Addr.add (⟨b0, 0, none⟩) 1) (.slice s58p s58l s58c) fun w78 =>
  LdI .i64 w78 (⟨b0, 0, none⟩) fun n59 =>
  LdS w78 (Addr.add (⟨b0, 0, none⟩) 1) fun s59p s59l s59c =>
  LdS w78 (Addr.add (⟨b0, 0, none⟩) 2) fun s60p s60l s60c =>
  LdI .i64 w78 (Addr.add (⟨b0, 0, none⟩) 3) fun n60 =>
  LdB w78 (Addr.add (⟨b0, 0, none⟩) 4) fun b34 =>
  StC w78 (⟨b1, 0, none⟩) (.int .i64 n59) fun w79 =>
  StC w79 (Addr.add (⟨b1, 0, none⟩) 1) (.slice s59p s59l s59c) fun w80 =>
  StC w80 (Addr.add (⟨b1, 0, none⟩) 2) (.slice s60p s60l s60c) fun w81 =>
  StC w81 (Addr.add (⟨b1, 0, none⟩) 3) (.int .i64 n60) fun w82 =>
  StC w82 (Addr.add (⟨b1, 0, none⟩) 4) (.bool b34) fun w83 =>
  LdI .i64 w83 (⟨b1, 0, none⟩) fun n61 =>
  LdS w83 (Addr.add (⟨b1, 0, none⟩) 1) fun s61p s61l s61c =>
  LdS w83 (Addr.add (⟨b1, 0, none⟩) 2) fun s62p s62l s62c =>
  LdI .i64 w83 (Addr.add (⟨b1, 0, none⟩) 3) fun n62 =>
  LdB w83 (Addr.add (⟨b1, 0, none⟩) 4) fun b35 =>
  R (.returned (.tuple #[.agg #[.int .i64 n61, .slice s61p s61l s61c, .slice s62p s62l s62c, .int .i64 n62, .bool b35], .int .i64 r0, .int .i64 0])) w83) ∧
  (NewC (.cells #[.int .i64 n53, .int .i64 n54, .int .i64 n55, .bool b31, .slice s55p s55l s55c] 81 (0, 0)) (World.drew w54) fun b36 w84 =>
  C1 w84 ∧
  RunS Try.prog (Builtin.append_ #[59, 59] 59 #[.slice none 0 0, .slice s54p s54l s54c]) w84 fun s63p s63l s63c w85 =>
  C1 w85 ∧
  RunS Try.prog (Builtin.append_ #[59, 59] 59 #[.slice s63p s63l s63c, .slice (some (⟨b36, 0, none⟩)) 1 1]) w85 fun s64p s64l s64c w86 =>
  C1 w86 ∧
  StC w86 (Addr.add (⟨b0, 0, none⟩) 1) (.slice s64p s64l s64c) fun w87 =>
  LdI .i64 w87 (⟨b0, 0, none⟩) fun n63 =>
  LdS w87 (Addr.add (⟨b0, 0, none⟩) 1) fun s65p s65l s65c =>
  LdS w87 (Addr.add (⟨b0, 0, none⟩) 2) fun s66p s66l s66c =>
  LdI .i64 w87 (Addr.add (⟨b0, 0, none⟩) 3) fun n64 =>
  LdB w87 (Addr.add (⟨b0, 0, none⟩) 4) fun b37 =>
  StC w87 (⟨b1, 0, none⟩) (.int .i64 n63) fun w88 =>
  StC w88 (Addr.add (⟨b1, 0, none⟩) 1) (.slice s65p s65l s65c) fun w89 =>
  StC w89 (Addr.add (⟨b1, 0, none⟩) 2) (.slice s66p s66l s66c) fun w90 =>
  StC w90 (Addr.add (⟨b1, 0, none⟩) 3) (.int .i64 n64) fun w91 =>
  StC w91 (Addr.add (⟨b1, 0, none⟩) 4) (.bool b37) fun w92 =>
  LdI .i64 w92 (⟨b1, 0, none⟩) fun n65 =>
  LdS w92 (Addr.add (⟨b1, 0, none⟩) 1) fun s67p s67l s67c =>
  LdS w92 (Addr.add (⟨b1, 0, none⟩) 2) fun s68p s68l s68c =>
  LdI .i64 w92 (Addr.add (⟨b1, 0, none⟩) 3) fun n66 =>
  LdB w92 (Addr.add (⟨b1, 0, none⟩) 4) fun b38 =>
  R (.returned (.tuple #[.agg #[.int .i64 n65, .slice s67p s67l s67c, .slice s68p s68l s68c, .int .i64 n66, .bool b38], .int .i64 r0, .int .i64 0])) w92)))))))))))
def S_ref7_Alloc_ann : Ann := (.seq .leaf (.seq .leaf (.seq .leaf (.seq .leaf (.seq .leaf (.seq .leaf (.seq (.seq .leaf (.cond .anyl .anyl)) .leaf)))))))
theorem S_ref7_Alloc_eq (a0 : Int) (a1p : Option Addr) (a1l : Nat) (a1c : Nat) (a2p : Option Addr) (a2l : Nat) (a2c : Nat) (a3 : Int) (a4 : Bool) (tag0 : Int) (refs0 : Int) (words0 : Int) (owner0 : Int) (w : World) (R : Ending → World → Prop) : X Try.prog Try.f34.ntmps (bodyOf Try.f34) S_ref7_Alloc_ann (argEnv 0 [.agg #[.int .i64 a0, .slice a1p a1l a1c, .slice a2p a2l a2c, .int .i64 a3, .bool a4], .int .i64 tag0, .int .i64 refs0, .int .i64 words0, .int .i64 owner0]) w (fun e w' => resK Try.prog Try.f34.results.toList e w' [] fun vs => R (.returned (pack vs)) w') (fun e w' => resK Try.prog Try.f34.results.toList e w' [] fun vs => R (.returned (pack vs)) w') (fun _ _ _ => False) = S_ref7_Alloc a0 a1p a1l a1c a2p a2l a2c a3 a4 tag0 refs0 words0 owner0 w R := by kernel_rfl
theorem S_ref7_Alloc_ok (a0 : Int) (a1p : Option Addr) (a1l : Nat) (a1c : Nat) (a2p : Option Addr) (a2l : Nat) (a2c : Nat) (a3 : Int) (a4 : Bool) (tag0 : Int) (refs0 : Int) (words0 : Int) (owner0 : Int) (w : World) (R : Ending → World → Prop) (h : S_ref7_Alloc a0 a1p a1l a1c a2p a2l a2c a3 a4 tag0 refs0 words0 owner0 w R) : Calls Try.prog 34 #[.agg #[.int .i64 a0, .slice a1p a1l a1c, .slice a2p a2l a2c, .int .i64 a3, .bool a4], .int .i64 tag0, .int .i64 refs0, .int .i64 words0, .int .i64 owner0] w R :=
  calls_of_X (an := S_ref7_Alloc_ann) wide_ok Try.func34 (by kernel_rfl) (by kernel_rfl) (by rw [S_ref7_Alloc_eq]; exact h)

set_option maxRecDepth 100000 in
def S_ref7_Put (a0 : Int) (a1p : Option Addr) (a1l : Nat) (a1c : Nat) (a2p : Option Addr) (a2l : Nat) (a2c : Nat) (a3 : Int) (a4 : Bool) (at0 : Int) (i0 : Int) (w0 : Int) (w : World) (R : Ending → World → Prop) : Prop :=
  NewC (.cells #[.int .i64 a0, .slice a1p a1l a1c, .slice a2p a2l a2c, .int .i64 a3, .bool a4] 61 (0, 0)) w fun b0 w1 =>
  NewC (.cells #[.int .i64 0, .slice none 0 0, .slice none 0 0, .int .i64 0, .bool false] 61 (0, 0)) w1 fun b1 w2 =>
  LdI .i64 w2 (⟨b0, 0, none⟩) fun n0 =>
  LdS w2 (Addr.add (⟨b0, 0, none⟩) 1) fun s0p s0l s0c =>
  LdS w2 (Addr.add (⟨b0, 0, none⟩) 2) fun s1p s1l s1c =>
  LdI .i64 w2 (Addr.add (⟨b0, 0, none⟩) 3) fun n1 =>
  LdB w2 (Addr.add (⟨b0, 0, none⟩) 4) fun b2 =>
  Calls Try.prog 37 #[.agg #[.int .i64 n0, .slice s0p s0l s0c, .slice s1p s1l s1c, .int .i64 n1, .bool b2], .int .i64 at0] w2 fun e0 w3 =>
  ∃ (r0 : Int), ∃ (r1 : Int), ∃ (r2 : Int), ∃ (r3 : Bool), ∃ (r4p : Option Addr), ∃ (r4l : Nat), ∃ (r4c : Nat), ∃ (r5 : Bool), e0 = .returned (.tuple #[.agg #[.int .i64 r0, .int .i64 r1, .int .i64 r2, .bool r3, .slice r4p r4l r4c], .bool r5]) ∧
  NewC (.cells #[.int .i64 0, .int .i64 0, .int .i64 0, .bool false, .slice none 0 0] 81 (0, 0)) w3 fun b3 w4 =>
  StC w4 (⟨b3, 0, none⟩) (.int .i64 r0) fun w5 =>
  StC w5 (Addr.add (⟨b3, 0, none⟩) 1) (.int .i64 r1) fun w6 =>
  StC w6 (Addr.add (⟨b3, 0, none⟩) 2) (.int .i64 r2) fun w7 =>
  StC w7 (Addr.add (⟨b3, 0, none⟩) 3) (.bool r3) fun w8 =>
  StC w8 (Addr.add (⟨b3, 0, none⟩) 4) (.slice r4p r4l r4c) fun w9 =>
  cond (!r5)
  (LdI .i64 w9 (⟨b0, 0, none⟩) fun n2 =>
  LdS w9 (Addr.add (⟨b0, 0, none⟩) 1) fun s2p s2l s2c =>
  LdS w9 (Addr.add (⟨b0, 0, none⟩) 2) fun s3p s3l s3c =>
  LdI .i64 w9 (Addr.add (⟨b0, 0, none⟩) 3) fun n3 =>
  LdB w9 (Addr.add (⟨b0, 0, none⟩) 4) fun b4 =>
  StC w9 (⟨b1, 0, none⟩) (.int .i64 n2) fun w10 =>
  StC w10 (Addr.add (⟨b1, 0, none⟩) 1) (.slice s2p s2l s2c) fun w11 =>
  StC w11 (Addr.add (⟨b1, 0, none⟩) 2) (.slice s3p s3l s3c) fun w12 =>
  StC w12 (Addr.add (⟨b1, 0, none⟩) 3) (.int .i64 n3) fun w13 =>
  StC w13 (Addr.add (⟨b1, 0, none⟩) 4) (.bool b4) fun w14 =>
  LdI .i64 w14 (⟨b1, 0, none⟩) fun n4 =>
  LdS w14 (Addr.add (⟨b1, 0, none⟩) 1) fun s4p s4l s4c =>
  LdS w14 (Addr.add (⟨b1, 0, none⟩) 2) fun s5p s5l s5c =>
  LdI .i64 w14 (Addr.add (⟨b1, 0, none⟩) 3) fun n5 =>
  LdB w14 (Addr.add (⟨b1, 0, none⟩) 4) fun b5 =>
  R (.returned (.tuple #[.agg #[.int .i64 n4, .slice s4p s4l s4c, .slice s5p s5l s5c, .int .i64 n5, .bool b5], .bool false])) w14)
  (cond (decide (i0 < 0))
  (LdI .i64 w9 (⟨b0, 0, none⟩) fun n6 =>
  LdS w9 (Addr.add (⟨b0, 0, none⟩) 1) fun s6p s6l s6c =>
  LdS w9 (Addr.add (⟨b0, 0, none⟩) 2) fun s7p s7l s7c =>
  LdI .i64 w9 (Addr.add (⟨b0, 0, none⟩) 3) fun n7 =>
  LdB w9 (Addr.add (⟨b0, 0, none⟩) 4) fun b6 =>
  StC w9 (⟨b1, 0, none⟩) (.int .i64 n6) fun w15 =>
  StC w15 (Addr.add (⟨b1, 0, none⟩) 1) (.slice s6p s6l s6c) fun w16 =>
  StC w16 (Addr.add (⟨b1, 0, none⟩) 2) (.slice s7p s7l s7c) fun w17 =>
  StC w17 (Addr.add (⟨b1, 0, none⟩) 3) (.int .i64 n7) fun w18 =>
  StC w18 (Addr.add (⟨b1, 0, none⟩) 4) (.bool b6) fun w19 =>
  LdI .i64 w19 (⟨b1, 0, none⟩) fun n8 =>
  LdS w19 (Addr.add (⟨b1, 0, none⟩) 1) fun s8p s8l s8c =>
  LdS w19 (Addr.add (⟨b1, 0, none⟩) 2) fun s9p s9l s9c =>
  LdI .i64 w19 (Addr.add (⟨b1, 0, none⟩) 3) fun n9 =>
  LdB w19 (Addr.add (⟨b1, 0, none⟩) 4) fun b7 =>
  R (.returned (.tuple #[.agg #[.int .i64 n8, .slice s8p s8l s8c, .slice s9p s9l s9c, .int .i64 n9, .bool b7], .bool false])) w19)
  (LdS w9 (Addr.add (⟨b3, 0, none⟩) 4) fun _ s10l _ =>
  cond (decide (i0 ≥ (Nat.cast s10l : Int)))
  (LdI .i64 w9 (⟨b0, 0, none⟩) fun n10 =>
  LdS w9 (Addr.add (⟨b0, 0, none⟩) 1) fun s11p s11l s11c =>
  LdS w9 (Addr.add (⟨b0, 0, none⟩) 2) fun s12p s12l s12c =>
  LdI .i64 w9 (Addr.add (⟨b0, 0, none⟩) 3) fun n11 =>
  LdB w9 (Addr.add (⟨b0, 0, none⟩) 4) fun b8 =>
  StC w9 (⟨b1, 0, none⟩) (.int .i64 n10) fun w20 =>
  StC w20 (Addr.add (⟨b1, 0, none⟩) 1) (.slice s11p s11l s11c) fun w21 =>
  StC w21 (Addr.add (⟨b1, 0, none⟩) 2) (.slice s12p s12l s12c) fun w22 =>
  StC w22 (Addr.add (⟨b1, 0, none⟩) 3) (.int .i64 n11) fun w23 =>
  StC w23 (Addr.add (⟨b1, 0, none⟩) 4) (.bool b8) fun w24 =>
  LdI .i64 w24 (⟨b1, 0, none⟩) fun n12 =>
  LdS w24 (Addr.add (⟨b1, 0, none⟩) 1) fun s13p s13l s13c =>
  LdS w24 (Addr.add (⟨b1, 0, none⟩) 2) fun s14p s14l s14c =>
  LdI .i64 w24 (Addr.add (⟨b1, 0, none⟩) 3) fun n13 =>
  LdB w24 (Addr.add (⟨b1, 0, none⟩) 4) fun b9 =>
  R (.returned (.tuple #[.agg #[.int .i64 n12, .slice s13p s13l s13c, .slice s14p s14l s14c, .int .i64 n13, .bool b9], .bool false])) w24)
  (LdS w9 (Addr.add (⟨b3, 0, none⟩) 4) fun s15p s15l s15c =>
  RunS Try.prog (Builtin.append_ #[32, 32] 32 #[.slice none 0 0, .slice s15p s15l s15c]) w9 fun s16p s16l s16c w25 =>
  StC w25 (Addr.add (⟨b3, 0, none⟩) 4) (.slice s16p s16l s16c) fun w26 =>
  LdS w26 (Addr.add (⟨b3, 0, none⟩) 4) fun s17p s17l _ =>
  IdxC s17p s17l i0 1 fun a5 =>
  StC w26 a5 (.int .u64 w0) fun w27 =>
  LdI .i64 w27 (⟨b0, 0, none⟩) fun n14 =>
  LdS w27 (Addr.add (⟨b0, 0, none⟩) 1) fun s18p s18l s18c =>
  LdS w27 (Addr.add (⟨b0, 0, none⟩) 2) fun s19p s19l s19c =>
  LdI .i64 w27 (Addr.add (⟨b0, 0, none⟩) 3) fun n15 =>
  LdB w27 (Addr.add (⟨b0, 0, none⟩) 4) fun b10 =>
  LdI .i64 w27 (⟨b3, 0, none⟩) fun n16 =>
  LdI .i64 w27 (Addr.add (⟨b3, 0, none⟩) 1) fun n17 =>
  LdI .i64 w27 (Addr.add (⟨b3, 0, none⟩) 2) fun n18 =>
  LdB w27 (Addr.add (⟨b3, 0, none⟩) 3) fun b11 =>
  LdS w27 (Addr.add (⟨b3, 0, none⟩) 4) fun s20p s20l s20c =>
  Calls Try.prog 50 #[.agg #[.int .i64 n14, .slice s18p s18l s18c, .slice s19p s19l s19c, .int .i64 n15, .bool b10], .int .i64 at0, .agg #[.int .i64 n16, .int .i64 n17, .int .i64 n18, .bool b11, .slice s20p s20l s20c]] w27 fun e1 w28 =>
  ∃ (r6 : Int), ∃ (r7p : Option Addr), ∃ (r7l : Nat), ∃ (r7c : Nat), ∃ (r8p : Option Addr), ∃ (r8l : Nat), ∃ (r8c : Nat), ∃ (r9 : Int), ∃ (r10 : Bool), e1 = .returned (.agg #[.int .i64 r6, .slice r7p r7l r7c, .slice r8p r8l r8c, .int .i64 r9, .bool r10]) ∧
  StC w28 (⟨b1, 0, none⟩) (.int .i64 r6) fun w29 =>
  StC w29 (Addr.add (⟨b1, 0, none⟩) 1) (.slice r7p r7l r7c) fun w30 =>
  StC w30 (Addr.add (⟨b1, 0, none⟩) 2) (.slice r8p r8l r8c) fun w31 =>
  StC w31 (Addr.add (⟨b1, 0, none⟩) 3) (.int .i64 r9) fun w32 =>
  StC w32 (Addr.add (⟨b1, 0, none⟩) 4) (.bool r10) fun w33 =>
  LdI .i64 w33 (⟨b1, 0, none⟩) fun n19 =>
  LdS w33 (Addr.add (⟨b1, 0, none⟩) 1) fun s21p s21l s21c =>
  LdS w33 (Addr.add (⟨b1, 0, none⟩) 2) fun s22p s22l s22c =>
  LdI .i64 w33 (Addr.add (⟨b1, 0, none⟩) 3) fun n20 =>
  LdB w33 (Addr.add (⟨b1, 0, none⟩) 4) fun b12 =>
  R (.returned (.tuple #[.agg #[.int .i64 n19, .slice s21p s21l s21c, .slice s22p s22l s22c, .int .i64 n20, .bool b12], .bool true])) w33)))
def S_ref7_Put_ann : Ann := .leaf
theorem S_ref7_Put_eq (a0 : Int) (a1p : Option Addr) (a1l : Nat) (a1c : Nat) (a2p : Option Addr) (a2l : Nat) (a2c : Nat) (a3 : Int) (a4 : Bool) (at0 : Int) (i0 : Int) (w0 : Int) (w : World) (R : Ending → World → Prop) : X Try.prog Try.f35.ntmps (bodyOf Try.f35) S_ref7_Put_ann (argEnv 0 [.agg #[.int .i64 a0, .slice a1p a1l a1c, .slice a2p a2l a2c, .int .i64 a3, .bool a4], .int .i64 at0, .int .i64 i0, .int .u64 w0]) w (fun e w' => resK Try.prog Try.f35.results.toList e w' [] fun vs => R (.returned (pack vs)) w') (fun e w' => resK Try.prog Try.f35.results.toList e w' [] fun vs => R (.returned (pack vs)) w') (fun _ _ _ => False) = S_ref7_Put a0 a1p a1l a1c a2p a2l a2c a3 a4 at0 i0 w0 w R := by kernel_rfl
theorem S_ref7_Put_ok (a0 : Int) (a1p : Option Addr) (a1l : Nat) (a1c : Nat) (a2p : Option Addr) (a2l : Nat) (a2c : Nat) (a3 : Int) (a4 : Bool) (at0 : Int) (i0 : Int) (w0 : Int) (w : World) (R : Ending → World → Prop) (h : S_ref7_Put a0 a1p a1l a1c a2p a2l a2c a3 a4 at0 i0 w0 w R) : Calls Try.prog 35 #[.agg #[.int .i64 a0, .slice a1p a1l a1c, .slice a2p a2l a2c, .int .i64 a3, .bool a4], .int .i64 at0, .int .i64 i0, .int .u64 w0] w R :=
  calls_of_X (an := S_ref7_Put_ann) wide_ok Try.func35 (by kernel_rfl) (by kernel_rfl) (by rw [S_ref7_Put_eq]; exact h)

def S_ref7_Mark (a0 : Int) (a1p : Option Addr) (a1l : Nat) (a1c : Nat) (a2p : Option Addr) (a2l : Nat) (a2c : Nat) (a3 : Int) (a4 : Bool) (at0 : Int) (on0 : Bool) (w : World) (R : Ending → World → Prop) : Prop :=
  NewC (.cells #[.int .i64 a0, .slice a1p a1l a1c, .slice a2p a2l a2c, .int .i64 a3, .bool a4] 61 (0, 0)) w fun b0 w0 =>
  NewC (.cells #[.int .i64 0, .slice none 0 0, .slice none 0 0, .int .i64 0, .bool false] 61 (0, 0)) w0 fun b1 w1 =>
  LdI .i64 w1 (⟨b0, 0, none⟩) fun n0 =>
  LdS w1 (Addr.add (⟨b0, 0, none⟩) 1) fun s0p s0l s0c =>
  LdS w1 (Addr.add (⟨b0, 0, none⟩) 2) fun s1p s1l s1c =>
  LdI .i64 w1 (Addr.add (⟨b0, 0, none⟩) 3) fun n1 =>
  LdB w1 (Addr.add (⟨b0, 0, none⟩) 4) fun b2 =>
  Calls Try.prog 37 #[.agg #[.int .i64 n0, .slice s0p s0l s0c, .slice s1p s1l s1c, .int .i64 n1, .bool b2], .int .i64 at0] w1 fun e0 w2 =>
  ∃ (r0 : Int), ∃ (r1 : Int), ∃ (r2 : Int), ∃ (r3 : Bool), ∃ (r4p : Option Addr), ∃ (r4l : Nat), ∃ (r4c : Nat), ∃ (r5 : Bool), e0 = .returned (.tuple #[.agg #[.int .i64 r0, .int .i64 r1, .int .i64 r2, .bool r3, .slice r4p r4l r4c], .bool r5]) ∧
  NewC (.cells #[.int .i64 0, .int .i64 0, .int .i64 0, .bool false, .slice none 0 0] 81 (0, 0)) w2 fun b3 w3 =>
  StC w3 (⟨b3, 0, none⟩) (.int .i64 r0) fun w4 =>
  StC w4 (Addr.add (⟨b3, 0, none⟩) 1) (.int .i64 r1) fun w5 =>
  StC w5 (Addr.add (⟨b3, 0, none⟩) 2) (.int .i64 r2) fun w6 =>
  StC w6 (Addr.add (⟨b3, 0, none⟩) 3) (.bool r3) fun w7 =>
  StC w7 (Addr.add (⟨b3, 0, none⟩) 4) (.slice r4p r4l r4c) fun w8 =>
  cond (!r5)
  (LdI .i64 w8 (⟨b0, 0, none⟩) fun n2 =>
  LdS w8 (Addr.add (⟨b0, 0, none⟩) 1) fun s2p s2l s2c =>
  LdS w8 (Addr.add (⟨b0, 0, none⟩) 2) fun s3p s3l s3c =>
  LdI .i64 w8 (Addr.add (⟨b0, 0, none⟩) 3) fun n3 =>
  LdB w8 (Addr.add (⟨b0, 0, none⟩) 4) fun b4 =>
  StC w8 (⟨b1, 0, none⟩) (.int .i64 n2) fun w9 =>
  StC w9 (Addr.add (⟨b1, 0, none⟩) 1) (.slice s2p s2l s2c) fun w10 =>
  StC w10 (Addr.add (⟨b1, 0, none⟩) 2) (.slice s3p s3l s3c) fun w11 =>
  StC w11 (Addr.add (⟨b1, 0, none⟩) 3) (.int .i64 n3) fun w12 =>
  StC w12 (Addr.add (⟨b1, 0, none⟩) 4) (.bool b4) fun w13 =>
  LdI .i64 w13 (⟨b1, 0, none⟩) fun n4 =>
  LdS w13 (Addr.add (⟨b1, 0, none⟩) 1) fun s4p s4l s4c =>
  LdS w13 (Addr.add (⟨b1, 0, none⟩) 2) fun s5p s5l s5c =>
  LdI .i64 w13 (Addr.add (⟨b1, 0, none⟩) 3) fun n5 =>
  LdB w13 (Addr.add (⟨b1, 0, none⟩) 4) fun b5 =>
  R (.returned (.tuple #[.agg #[.int .i64 n4, .slice s4p s4l s4c, .slice s5p s5l s5c, .int .i64 n5, .bool b5], .bool false])) w13)
  (StC w8 (Addr.add (⟨b3, 0, none⟩) 3) (.bool on0) fun w14 =>
  LdI .i64 w14 (⟨b0, 0, none⟩) fun n6 =>
  LdS w14 (Addr.add (⟨b0, 0, none⟩) 1) fun s6p s6l s6c =>
  LdS w14 (Addr.add (⟨b0, 0, none⟩) 2) fun s7p s7l s7c =>
  LdI .i64 w14 (Addr.add (⟨b0, 0, none⟩) 3) fun n7 =>
  LdB w14 (Addr.add (⟨b0, 0, none⟩) 4) fun b6 =>
  LdI .i64 w14 (⟨b3, 0, none⟩) fun n8 =>
  LdI .i64 w14 (Addr.add (⟨b3, 0, none⟩) 1) fun n9 =>
  LdI .i64 w14 (Addr.add (⟨b3, 0, none⟩) 2) fun n10 =>
  LdB w14 (Addr.add (⟨b3, 0, none⟩) 3) fun b7 =>
  LdS w14 (Addr.add (⟨b3, 0, none⟩) 4) fun s8p s8l s8c =>
  Calls Try.prog 50 #[.agg #[.int .i64 n6, .slice s6p s6l s6c, .slice s7p s7l s7c, .int .i64 n7, .bool b6], .int .i64 at0, .agg #[.int .i64 n8, .int .i64 n9, .int .i64 n10, .bool b7, .slice s8p s8l s8c]] w14 fun e1 w15 =>
  ∃ (r6 : Int), ∃ (r7p : Option Addr), ∃ (r7l : Nat), ∃ (r7c : Nat), ∃ (r8p : Option Addr), ∃ (r8l : Nat), ∃ (r8c : Nat), ∃ (r9 : Int), ∃ (r10 : Bool), e1 = .returned (.agg #[.int .i64 r6, .slice r7p r7l r7c, .slice r8p r8l r8c, .int .i64 r9, .bool r10]) ∧
  StC w15 (⟨b1, 0, none⟩) (.int .i64 r6) fun w16 =>
  StC w16 (Addr.add (⟨b1, 0, none⟩) 1) (.slice r7p r7l r7c) fun w17 =>
  StC w17 (Addr.add (⟨b1, 0, none⟩) 2) (.slice r8p r8l r8c) fun w18 =>
  StC w18 (Addr.add (⟨b1, 0, none⟩) 3) (.int .i64 r9) fun w19 =>
  StC w19 (Addr.add (⟨b1, 0, none⟩) 4) (.bool r10) fun w20 =>
  LdI .i64 w20 (⟨b1, 0, none⟩) fun n11 =>
  LdS w20 (Addr.add (⟨b1, 0, none⟩) 1) fun s9p s9l s9c =>
  LdS w20 (Addr.add (⟨b1, 0, none⟩) 2) fun s10p s10l s10c =>
  LdI .i64 w20 (Addr.add (⟨b1, 0, none⟩) 3) fun n12 =>
  LdB w20 (Addr.add (⟨b1, 0, none⟩) 4) fun b8 =>
  R (.returned (.tuple #[.agg #[.int .i64 n11, .slice s9p s9l s9c, .slice s10p s10l s10c, .int .i64 n12, .bool b8], .bool true])) w20)
def S_ref7_Mark_ann : Ann := .leaf
theorem S_ref7_Mark_eq (a0 : Int) (a1p : Option Addr) (a1l : Nat) (a1c : Nat) (a2p : Option Addr) (a2l : Nat) (a2c : Nat) (a3 : Int) (a4 : Bool) (at0 : Int) (on0 : Bool) (w : World) (R : Ending → World → Prop) : X Try.prog Try.f36.ntmps (bodyOf Try.f36) S_ref7_Mark_ann (argEnv 0 [.agg #[.int .i64 a0, .slice a1p a1l a1c, .slice a2p a2l a2c, .int .i64 a3, .bool a4], .int .i64 at0, .bool on0]) w (fun e w' => resK Try.prog Try.f36.results.toList e w' [] fun vs => R (.returned (pack vs)) w') (fun e w' => resK Try.prog Try.f36.results.toList e w' [] fun vs => R (.returned (pack vs)) w') (fun _ _ _ => False) = S_ref7_Mark a0 a1p a1l a1c a2p a2l a2c a3 a4 at0 on0 w R := by kernel_rfl
theorem S_ref7_Mark_ok (a0 : Int) (a1p : Option Addr) (a1l : Nat) (a1c : Nat) (a2p : Option Addr) (a2l : Nat) (a2c : Nat) (a3 : Int) (a4 : Bool) (at0 : Int) (on0 : Bool) (w : World) (R : Ending → World → Prop) (h : S_ref7_Mark a0 a1p a1l a1c a2p a2l a2c a3 a4 at0 on0 w R) : Calls Try.prog 36 #[.agg #[.int .i64 a0, .slice a1p a1l a1c, .slice a2p a2l a2c, .int .i64 a3, .bool a4], .int .i64 at0, .bool on0] w R :=
  calls_of_X (an := S_ref7_Mark_ann) wide_ok Try.func36 (by kernel_rfl) (by kernel_rfl) (by rw [S_ref7_Mark_eq]; exact h)

def S_ref7_At (a0 : Int) (a1p : Option Addr) (a1l : Nat) (a1c : Nat) (a2p : Option Addr) (a2l : Nat) (a2c : Nat) (a3 : Int) (a4 : Bool) (at0 : Int) (w : World) (R : Ending → World → Prop) : Prop :=
  NewC (.cells #[.int .i64 a0, .slice a1p a1l a1c, .slice a2p a2l a2c, .int .i64 a3, .bool a4] 61 (0, 0)) w fun b0 w0 =>
  NewC (.cells #[.int .i64 0, .int .i64 0, .int .i64 0, .bool false, .slice none 0 0] 81 (0, 0)) w0 fun b1 w1 =>
  LdI .i64 w1 (⟨b0, 0, none⟩) fun n0 =>
  LdS w1 (Addr.add (⟨b0, 0, none⟩) 1) fun s0p s0l s0c =>
  LdS w1 (Addr.add (⟨b0, 0, none⟩) 2) fun s1p s1l s1c =>
  LdI .i64 w1 (Addr.add (⟨b0, 0, none⟩) 3) fun n1 =>
  LdB w1 (Addr.add (⟨b0, 0, none⟩) 4) fun b2 =>
  Calls Try.prog 51 #[.agg #[.int .i64 n0, .slice s0p s0l s0c, .slice s1p s1l s1c, .int .i64 n1, .bool b2], .int .i64 at0] w1 fun e0 w2 =>
  ∃ (r0 : Bool), ∃ (r1 : Int), e0 = .returned (.tuple #[.bool r0, .int .i64 r1]) ∧
  cond (decide (r1 < 0))
  (StC w2 (⟨b1, 0, none⟩) (.int .i64 0) fun w3 =>
  StC w3 (Addr.add (⟨b1, 0, none⟩) 1) (.int .i64 0) fun w4 =>
  StC w4 (Addr.add (⟨b1, 0, none⟩) 2) (.int .i64 0) fun w5 =>
  StC w5 (Addr.add (⟨b1, 0, none⟩) 3) (.bool false) fun w6 =>
  StC w6 (Addr.add (⟨b1, 0, none⟩) 4) (.slice none 0 0) fun w7 =>
  LdI .i64 w7 (⟨b1, 0, none⟩) fun n2 =>
  LdI .i64 w7 (Addr.add (⟨b1, 0, none⟩) 1) fun n3 =>
  LdI .i64 w7 (Addr.add (⟨b1, 0, none⟩) 2) fun n4 =>
  LdB w7 (Addr.add (⟨b1, 0, none⟩) 3) fun b3 =>
  LdS w7 (Addr.add (⟨b1, 0, none⟩) 4) fun s2p s2l s2c =>
  R (.returned (.tuple #[.agg #[.int .i64 n2, .int .i64 n3, .int .i64 n4, .bool b3, .slice s2p s2l s2c], .bool false])) w7)
  (cond r0
  (LdS w2 (Addr.add (⟨b0, 0, none⟩) 2) fun s3p s3l _ =>
  IdxC s3p s3l r1 5 fun a5 =>
  LdI .i64 w2 a5 fun n5 =>
  LdI .i64 w2 (Addr.add a5 1) fun n6 =>
  LdI .i64 w2 (Addr.add a5 2) fun n7 =>
  LdB w2 (Addr.add a5 3) fun b4 =>
  LdS w2 (Addr.add a5 4) fun s4p s4l s4c =>
  StC w2 (⟨b1, 0, none⟩) (.int .i64 n5) fun w8 =>
  StC w8 (Addr.add (⟨b1, 0, none⟩) 1) (.int .i64 n6) fun w9 =>
  StC w9 (Addr.add (⟨b1, 0, none⟩) 2) (.int .i64 n7) fun w10 =>
  StC w10 (Addr.add (⟨b1, 0, none⟩) 3) (.bool b4) fun w11 =>
  StC w11 (Addr.add (⟨b1, 0, none⟩) 4) (.slice s4p s4l s4c) fun w12 =>
  LdI .i64 w12 (⟨b1, 0, none⟩) fun n8 =>
  LdI .i64 w12 (Addr.add (⟨b1, 0, none⟩) 1) fun n9 =>
  LdI .i64 w12 (Addr.add (⟨b1, 0, none⟩) 2) fun n10 =>
  LdB w12 (Addr.add (⟨b1, 0, none⟩) 3) fun b5 =>
  LdS w12 (Addr.add (⟨b1, 0, none⟩) 4) fun s5p s5l s5c =>
  R (.returned (.tuple #[.agg #[.int .i64 n8, .int .i64 n9, .int .i64 n10, .bool b5, .slice s5p s5l s5c], .bool true])) w12)
  (LdS w2 (Addr.add (⟨b0, 0, none⟩) 1) fun s6p s6l _ =>
  IdxC s6p s6l r1 5 fun a6 =>
  LdI .i64 w2 a6 fun n11 =>
  LdI .i64 w2 (Addr.add a6 1) fun n12 =>
  LdI .i64 w2 (Addr.add a6 2) fun n13 =>
  LdB w2 (Addr.add a6 3) fun b6 =>
  LdS w2 (Addr.add a6 4) fun s7p s7l s7c =>
  StC w2 (⟨b1, 0, none⟩) (.int .i64 n11) fun w13 =>
  StC w13 (Addr.add (⟨b1, 0, none⟩) 1) (.int .i64 n12) fun w14 =>
  StC w14 (Addr.add (⟨b1, 0, none⟩) 2) (.int .i64 n13) fun w15 =>
  StC w15 (Addr.add (⟨b1, 0, none⟩) 3) (.bool b6) fun w16 =>
  StC w16 (Addr.add (⟨b1, 0, none⟩) 4) (.slice s7p s7l s7c) fun w17 =>
  LdI .i64 w17 (⟨b1, 0, none⟩) fun n14 =>
  LdI .i64 w17 (Addr.add (⟨b1, 0, none⟩) 1) fun n15 =>
  LdI .i64 w17 (Addr.add (⟨b1, 0, none⟩) 2) fun n16 =>
  LdB w17 (Addr.add (⟨b1, 0, none⟩) 3) fun b7 =>
  LdS w17 (Addr.add (⟨b1, 0, none⟩) 4) fun s8p s8l s8c =>
  R (.returned (.tuple #[.agg #[.int .i64 n14, .int .i64 n15, .int .i64 n16, .bool b7, .slice s8p s8l s8c], .bool true])) w17))
def S_ref7_At_ann : Ann := .leaf
theorem S_ref7_At_eq (a0 : Int) (a1p : Option Addr) (a1l : Nat) (a1c : Nat) (a2p : Option Addr) (a2l : Nat) (a2c : Nat) (a3 : Int) (a4 : Bool) (at0 : Int) (w : World) (R : Ending → World → Prop) : X Try.prog Try.f37.ntmps (bodyOf Try.f37) S_ref7_At_ann (argEnv 0 [.agg #[.int .i64 a0, .slice a1p a1l a1c, .slice a2p a2l a2c, .int .i64 a3, .bool a4], .int .i64 at0]) w (fun e w' => resK Try.prog Try.f37.results.toList e w' [] fun vs => R (.returned (pack vs)) w') (fun e w' => resK Try.prog Try.f37.results.toList e w' [] fun vs => R (.returned (pack vs)) w') (fun _ _ _ => False) = S_ref7_At a0 a1p a1l a1c a2p a2l a2c a3 a4 at0 w R := by kernel_rfl
theorem S_ref7_At_ok (a0 : Int) (a1p : Option Addr) (a1l : Nat) (a1c : Nat) (a2p : Option Addr) (a2l : Nat) (a2c : Nat) (a3 : Int) (a4 : Bool) (at0 : Int) (w : World) (R : Ending → World → Prop) (h : S_ref7_At a0 a1p a1l a1c a2p a2l a2c a3 a4 at0 w R) : Calls Try.prog 37 #[.agg #[.int .i64 a0, .slice a1p a1l a1c, .slice a2p a2l a2c, .int .i64 a3, .bool a4], .int .i64 at0] w R :=
  calls_of_X (an := S_ref7_At_ann) wide_ok Try.func37 (by kernel_rfl) (by kernel_rfl) (by rw [S_ref7_At_eq]; exact h)

def S_ref7_Open (a0 : Int) (a1p : Option Addr) (a1l : Nat) (a1c : Nat) (a2p : Option Addr) (a2l : Nat) (a2c : Nat) (a3 : Int) (a4 : Bool) (w : World) (R : Ending → World → Prop) : Prop :=
  NewC (.cells #[.int .i64 a0, .slice a1p a1l a1c, .slice a2p a2l a2c, .int .i64 a3, .bool a4] 61 (0, 0)) w fun b0 w0 =>
  NewC (.cells #[.int .i64 0, .slice none 0 0, .slice none 0 0, .int .i64 0, .bool false] 61 (0, 0)) w0 fun b1 w1 =>
  LdB w1 (Addr.add (⟨b0, 0, none⟩) 4) fun b2 =>
  cond b2
  (LdI .i64 w1 (⟨b0, 0, none⟩) fun n0 =>
  LdS w1 (Addr.add (⟨b0, 0, none⟩) 1) fun s0p s0l s0c =>
  LdS w1 (Addr.add (⟨b0, 0, none⟩) 2) fun s1p s1l s1c =>
  LdI .i64 w1 (Addr.add (⟨b0, 0, none⟩) 3) fun n1 =>
  LdB w1 (Addr.add (⟨b0, 0, none⟩) 4) fun b3 =>
  StC w1 (⟨b1, 0, none⟩) (.int .i64 n0) fun w2 =>
  StC w2 (Addr.add (⟨b1, 0, none⟩) 1) (.slice s0p s0l s0c) fun w3 =>
  StC w3 (Addr.add (⟨b1, 0, none⟩) 2) (.slice s1p s1l s1c) fun w4 =>
  StC w4 (Addr.add (⟨b1, 0, none⟩) 3) (.int .i64 n1) fun w5 =>
  StC w5 (Addr.add (⟨b1, 0, none⟩) 4) (.bool b3) fun w6 =>
  LdI .i64 w6 (⟨b1, 0, none⟩) fun n2 =>
  LdS w6 (Addr.add (⟨b1, 0, none⟩) 1) fun s2p s2l s2c =>
  LdS w6 (Addr.add (⟨b1, 0, none⟩) 2) fun s3p s3l s3c =>
  LdI .i64 w6 (Addr.add (⟨b1, 0, none⟩) 3) fun n3 =>
  LdB w6 (Addr.add (⟨b1, 0, none⟩) 4) fun b4 =>
  R (.returned (.tuple #[.agg #[.int .i64 n2, .slice s2p s2l s2c, .slice s3p s3l s3c, .int .i64 n3, .bool b4], .bool false])) w6)
  (StC w1 (Addr.add (⟨b0, 0, none⟩) 4) (.bool true) fun w7 =>
  StC w7 (Addr.add (⟨b0, 0, none⟩) 3) (.int .i64 0) fun w8 =>
  LdS w8 (Addr.add (⟨b0, 0, none⟩) 1) fun s4p s4l s4c =>
  StC w8 (Addr.add (⟨b0, 0, none⟩) 2) (.slice s4p s4l s4c) fun w9 =>
  StC w9 (Addr.add (⟨b0, 0, none⟩) 1) (.slice none 0 0) fun w10 =>
  LdI .i64 w10 (⟨b0, 0, none⟩) fun n4 =>
  LdS w10 (Addr.add (⟨b0, 0, none⟩) 1) fun s5p s5l s5c =>
  LdS w10 (Addr.add (⟨b0, 0, none⟩) 2) fun s6p s6l s6c =>
  LdI .i64 w10 (Addr.add (⟨b0, 0, none⟩) 3) fun n5 =>
  LdB w10 (Addr.add (⟨b0, 0, none⟩) 4) fun b5 =>
  StC w10 (⟨b1, 0, none⟩) (.int .i64 n4) fun w11 =>
  StC w11 (Addr.add (⟨b1, 0, none⟩) 1) (.slice s5p s5l s5c) fun w12 =>
  StC w12 (Addr.add (⟨b1, 0, none⟩) 2) (.slice s6p s6l s6c) fun w13 =>
  StC w13 (Addr.add (⟨b1, 0, none⟩) 3) (.int .i64 n5) fun w14 =>
  StC w14 (Addr.add (⟨b1, 0, none⟩) 4) (.bool b5) fun w15 =>
  LdI .i64 w15 (⟨b1, 0, none⟩) fun n6 =>
  LdS w15 (Addr.add (⟨b1, 0, none⟩) 1) fun s7p s7l s7c =>
  LdS w15 (Addr.add (⟨b1, 0, none⟩) 2) fun s8p s8l s8c =>
  LdI .i64 w15 (Addr.add (⟨b1, 0, none⟩) 3) fun n7 =>
  LdB w15 (Addr.add (⟨b1, 0, none⟩) 4) fun b6 =>
  R (.returned (.tuple #[.agg #[.int .i64 n6, .slice s7p s7l s7c, .slice s8p s8l s8c, .int .i64 n7, .bool b6], .bool true])) w15)
def S_ref7_Open_ann : Ann := .leaf
theorem S_ref7_Open_eq (a0 : Int) (a1p : Option Addr) (a1l : Nat) (a1c : Nat) (a2p : Option Addr) (a2l : Nat) (a2c : Nat) (a3 : Int) (a4 : Bool) (w : World) (R : Ending → World → Prop) : X Try.prog Try.f38.ntmps (bodyOf Try.f38) S_ref7_Open_ann (argEnv 0 [.agg #[.int .i64 a0, .slice a1p a1l a1c, .slice a2p a2l a2c, .int .i64 a3, .bool a4]]) w (fun e w' => resK Try.prog Try.f38.results.toList e w' [] fun vs => R (.returned (pack vs)) w') (fun e w' => resK Try.prog Try.f38.results.toList e w' [] fun vs => R (.returned (pack vs)) w') (fun _ _ _ => False) = S_ref7_Open a0 a1p a1l a1c a2p a2l a2c a3 a4 w R := by kernel_rfl
theorem S_ref7_Open_ok (a0 : Int) (a1p : Option Addr) (a1l : Nat) (a1c : Nat) (a2p : Option Addr) (a2l : Nat) (a2c : Nat) (a3 : Int) (a4 : Bool) (w : World) (R : Ending → World → Prop) (h : S_ref7_Open a0 a1p a1l a1c a2p a2l a2c a3 a4 w R) : Calls Try.prog 38 #[.agg #[.int .i64 a0, .slice a1p a1l a1c, .slice a2p a2l a2c, .int .i64 a3, .bool a4]] w R :=
  calls_of_X (an := S_ref7_Open_ann) wide_ok Try.func38 (by kernel_rfl) (by kernel_rfl) (by rw [S_ref7_Open_eq]; exact h)

def S_ref7_Keep_j0 (R : Ending → World → Prop) (b0 : Nat) (b1 : Nat) (n8 : Int) (r0 : Int) (w22 : World) : Prop :=
  LdI .i64 (World.drew w22) (Addr.add (⟨b0, 0, none⟩) 3) fun n15 =>
  LdS (World.drew w22) (Addr.add (⟨b0, 0, none⟩) 2) fun s18p s18l _ =>
  IdxC s18p s18l 0 5 fun a6 =>
  LdS (World.drew w22) (Addr.add a6 4) fun _ s19l _ =>
  StC (World.drew w22) (Addr.add (⟨b0, 0, none⟩) 3) (.int .i64 (IntKind.wrap .i64 ((IntKind.wrap .i64 (n15 + 1)) + (Nat.cast s19l : Int)))) fun w23 =>
  LdS w23 (Addr.add (⟨b0, 0, none⟩) 2) fun s20p s20l s20c =>
  SlC s20p s20c 1 (Nat.cast s20l : Int) (Nat.cast s20c : Int) 5 fun s21p s21l s21c =>
  StC w23 (Addr.add (⟨b0, 0, none⟩) 2) (.slice s21p s21l s21c) fun w24 =>
  LdI .i64 w24 (⟨b0, 0, none⟩) fun n16 =>
  LdS w24 (Addr.add (⟨b0, 0, none⟩) 1) fun s22p s22l s22c =>
  LdS w24 (Addr.add (⟨b0, 0, none⟩) 2) fun s23p s23l s23c =>
  LdI .i64 w24 (Addr.add (⟨b0, 0, none⟩) 3) fun n17 =>
  LdB w24 (Addr.add (⟨b0, 0, none⟩) 4) fun b11 =>
  StC w24 (⟨b1, 0, none⟩) (.int .i64 n16) fun w25 =>
  StC w25 (Addr.add (⟨b1, 0, none⟩) 1) (.slice s22p s22l s22c) fun w26 =>
  StC w26 (Addr.add (⟨b1, 0, none⟩) 2) (.slice s23p s23l s23c) fun w27 =>
  StC w27 (Addr.add (⟨b1, 0, none⟩) 3) (.int .i64 n17) fun w28 =>
  StC w28 (Addr.add (⟨b1, 0, none⟩) 4) (.bool b11) fun w29 =>
  LdI .i64 w29 (⟨b1, 0, none⟩) fun n18 =>
  LdS w29 (Addr.add (⟨b1, 0, none⟩) 1) fun s24p s24l s24c =>
  LdS w29 (Addr.add (⟨b1, 0, none⟩) 2) fun s25p s25l s25c =>
  LdI .i64 w29 (Addr.add (⟨b1, 0, none⟩) 3) fun n19 =>
  LdB w29 (Addr.add (⟨b1, 0, none⟩) 4) fun b12 =>
  R (.returned (.tuple #[.agg #[.int .i64 n18, .slice s24p s24l s24c, .slice s25p s25l s25c, .int .i64 n19, .bool b12], .int .i64 n8, .int .i64 r0, .int .i64 0])) w29
def S_ref7_Keep (a0 : Int) (a1p : Option Addr) (a1l : Nat) (a1c : Nat) (a2p : Option Addr) (a2l : Nat) (a2c : Nat) (a3 : Int) (a4 : Bool) (w : World) (R : Ending → World → Prop) : Prop :=
  NewC (.cells #[.int .i64 a0, .slice a1p a1l a1c, .slice a2p a2l a2c, .int .i64 a3, .bool a4] 61 (0, 0)) w fun b0 w0 =>
  NewC (.cells #[.int .i64 0, .slice none 0 0, .slice none 0 0, .int .i64 0, .bool false] 61 (0, 0)) w0 fun b1 w1 =>
  LdB w1 (Addr.add (⟨b0, 0, none⟩) 4) fun b2 =>
  cond (!b2)
  (LdI .i64 w1 (⟨b0, 0, none⟩) fun n0 =>
  LdS w1 (Addr.add (⟨b0, 0, none⟩) 1) fun s0p s0l s0c =>
  LdS w1 (Addr.add (⟨b0, 0, none⟩) 2) fun s1p s1l s1c =>
  LdI .i64 w1 (Addr.add (⟨b0, 0, none⟩) 3) fun n1 =>
  LdB w1 (Addr.add (⟨b0, 0, none⟩) 4) fun b3 =>
  StC w1 (⟨b1, 0, none⟩) (.int .i64 n0) fun w2 =>
  StC w2 (Addr.add (⟨b1, 0, none⟩) 1) (.slice s0p s0l s0c) fun w3 =>
  StC w3 (Addr.add (⟨b1, 0, none⟩) 2) (.slice s1p s1l s1c) fun w4 =>
  StC w4 (Addr.add (⟨b1, 0, none⟩) 3) (.int .i64 n1) fun w5 =>
  StC w5 (Addr.add (⟨b1, 0, none⟩) 4) (.bool b3) fun w6 =>
  LdI .i64 w6 (⟨b1, 0, none⟩) fun n2 =>
  LdS w6 (Addr.add (⟨b1, 0, none⟩) 1) fun s2p s2l s2c =>
  LdS w6 (Addr.add (⟨b1, 0, none⟩) 2) fun s3p s3l s3c =>
  LdI .i64 w6 (Addr.add (⟨b1, 0, none⟩) 3) fun n3 =>
  LdB w6 (Addr.add (⟨b1, 0, none⟩) 4) fun b4 =>
  R (.returned (.tuple #[.agg #[.int .i64 n2, .slice s2p s2l s2c, .slice s3p s3l s3c, .int .i64 n3, .bool b4], .int .i64 0, .int .i64 0, .int .i64 16])) w6)
  (LdS w1 (Addr.add (⟨b0, 0, none⟩) 2) fun _ s4l _ =>
  cond ((Nat.cast s4l : Int) == 0)
  (LdI .i64 w1 (⟨b0, 0, none⟩) fun n4 =>
  LdS w1 (Addr.add (⟨b0, 0, none⟩) 1) fun s5p s5l s5c =>
  LdS w1 (Addr.add (⟨b0, 0, none⟩) 2) fun s6p s6l s6c =>
  LdI .i64 w1 (Addr.add (⟨b0, 0, none⟩) 3) fun n5 =>
  LdB w1 (Addr.add (⟨b0, 0, none⟩) 4) fun b5 =>
  StC w1 (⟨b1, 0, none⟩) (.int .i64 n4) fun w7 =>
  StC w7 (Addr.add (⟨b1, 0, none⟩) 1) (.slice s5p s5l s5c) fun w8 =>
  StC w8 (Addr.add (⟨b1, 0, none⟩) 2) (.slice s6p s6l s6c) fun w9 =>
  StC w9 (Addr.add (⟨b1, 0, none⟩) 3) (.int .i64 n5) fun w10 =>
  StC w10 (Addr.add (⟨b1, 0, none⟩) 4) (.bool b5) fun w11 =>
  LdI .i64 w11 (⟨b1, 0, none⟩) fun n6 =>
  LdS w11 (Addr.add (⟨b1, 0, none⟩) 1) fun s7p s7l s7c =>
  LdS w11 (Addr.add (⟨b1, 0, none⟩) 2) fun s8p s8l s8c =>
  LdI .i64 w11 (Addr.add (⟨b1, 0, none⟩) 3) fun n7 =>
  LdB w11 (Addr.add (⟨b1, 0, none⟩) 4) fun b6 =>
  R (.returned (.tuple #[.agg #[.int .i64 n6, .slice s7p s7l s7c, .slice s8p s8l s8c, .int .i64 n7, .bool b6], .int .i64 0, .int .i64 0, .int .i64 17])) w11)
  (LdI .i64 w1 (Addr.add (⟨b0, 0, none⟩) 3) fun n8 =>
  LdS w1 (Addr.add (⟨b0, 0, none⟩) 1) fun s9p s9l s9c =>
  Calls Try.prog 52 #[.slice s9p s9l s9c] w1 fun e0 w12 =>
  ∃ (r0 : Int), e0 = .returned (.int .i64 r0) ∧
  ∀ k0 : World → Prop,
  (∀ (w22 : World), S_ref7_Keep_j0 R b0 b1 n8 r0 w22 → k0 w22) →
  ∃ C0 : World → Prop, C0 (World.drew w12) ∧
  LdSQ C0 (Addr.add (⟨b0, 0, none⟩) 1) fun s10p s10l s10c =>
  LdSQ C0 (Addr.add (⟨b0, 0, none⟩) 2) fun s11p s11l _ =>
  IdxC s11p s11l 0 5 fun a5 =>
  ∃ (n9 : Int), ∃ (n10 : Int), ∃ (n11 : Int), ∃ (b7 : Bool), ∃ (s12p : Option Addr), ∃ (s12l : Nat), ∃ (s12c : Nat), (∀ (w13 : World), C0 w13 →
  LdI .i64 w13 a5 fun n12 =>
  LdI .i64 w13 (Addr.add a5 1) fun n13 =>
  LdI .i64 w13 (Addr.add a5 2) fun n14 =>
  LdB w13 (Addr.add a5 3) fun b8 =>
  LdS w13 (Addr.add a5 4) fun s13p s13l s13c =>
  Value.agg #[.int .i64 n12, .int .i64 n13, .int .i64 n14, .bool b8, .slice s13p s13l s13c] = .agg #[.int .i64 n9, .int .i64 n10, .int .i64 n11, .bool b7, .slice s12p s12l s12c]) ∧
  (RunS Try.prog (Builtin.append_ #[59, 59] 59 #[.slice none 0 0, .slice s10p s10l s10c]) (World.drew w12) fun s14p s14l s14c w14 =>
  C0 w14 ∧
  NewC (.cells #[.int .i64 n9, .int .i64 n10, .int .i64 n11, .bool b7, .slice s12p s12l s12c] 81 (0, 0)) w14 fun b9 w15 =>
  C0 w15 ∧
  RunS Try.prog (Builtin.append_ #[59, 59] 59 #[.slice s14p s14l s14c, .slice (some (⟨b9, 0, none⟩)) 1 1]) w15 fun s15p s15l s15c w16 =>
  C0 w16 ∧
  StC w16 (Addr.add (⟨b0, 0, none⟩) 1) (.slice s15p s15l s15c) fun w17 =>
  k0 w17) ∧
  (NewC (.cells #[.int .i64 n9, .int .i64 n10, .int .i64 n11, .bool b7, .slice s12p s12l s12c] 81 (0, 0)) (World.drew w12) fun b10 w18 =>
  C0 w18 ∧
  RunS Try.prog (Builtin.append_ #[59, 59] 59 #[.slice none 0 0, .slice s10p s10l s10c]) w18 fun s16p s16l s16c w19 =>
  C0 w19 ∧
  RunS Try.prog (Builtin.append_ #[59, 59] 59 #[.slice s16p s16l s16c, .slice (some (⟨b10, 0, none⟩)) 1 1]) w19 fun s17p s17l s17c w20 =>
  C0 w20 ∧
  StC w20 (Addr.add (⟨b0, 0, none⟩) 1) (.slice s17p s17l s17c) fun w21 =>
  k0 w21)))
def S_ref7_Keep_ann : Ann := (.seq .leaf (.seq .leaf (.seq .leaf (.seq .leaf (.seq .leaf (.seq .leaf (.join [1, 2, 6, 7] [] .anyl (.seq (.draw 11) .leaf))))))))
theorem S_ref7_Keep_eq (a0 : Int) (a1p : Option Addr) (a1l : Nat) (a1c : Nat) (a2p : Option Addr) (a2l : Nat) (a2c : Nat) (a3 : Int) (a4 : Bool) (w : World) (R : Ending → World → Prop) : X Try.prog Try.f39.ntmps (bodyOf Try.f39) S_ref7_Keep_ann (argEnv 0 [.agg #[.int .i64 a0, .slice a1p a1l a1c, .slice a2p a2l a2c, .int .i64 a3, .bool a4]]) w (fun e w' => resK Try.prog Try.f39.results.toList e w' [] fun vs => R (.returned (pack vs)) w') (fun e w' => resK Try.prog Try.f39.results.toList e w' [] fun vs => R (.returned (pack vs)) w') (fun _ _ _ => False) = S_ref7_Keep a0 a1p a1l a1c a2p a2l a2c a3 a4 w R := by kernel_rfl
theorem S_ref7_Keep_ok (a0 : Int) (a1p : Option Addr) (a1l : Nat) (a1c : Nat) (a2p : Option Addr) (a2l : Nat) (a2c : Nat) (a3 : Int) (a4 : Bool) (w : World) (R : Ending → World → Prop) (h : S_ref7_Keep a0 a1p a1l a1c a2p a2l a2c a3 a4 w R) : Calls Try.prog 39 #[.agg #[.int .i64 a0, .slice a1p a1l a1c, .slice a2p a2l a2c, .int .i64 a3, .bool a4]] w R :=
  calls_of_X (an := S_ref7_Keep_ann) wide_ok Try.func39 (by kernel_rfl) (by kernel_rfl) (by rw [S_ref7_Keep_eq]; exact h)

def S_ref7_Skip (a0 : Int) (a1p : Option Addr) (a1l : Nat) (a1c : Nat) (a2p : Option Addr) (a2l : Nat) (a2c : Nat) (a3 : Int) (a4 : Bool) (w : World) (R : Ending → World → Prop) : Prop :=
  NewC (.cells #[.int .i64 a0, .slice a1p a1l a1c, .slice a2p a2l a2c, .int .i64 a3, .bool a4] 61 (0, 0)) w fun b0 w0 =>
  NewC (.cells #[.int .i64 0, .slice none 0 0, .slice none 0 0, .int .i64 0, .bool false] 61 (0, 0)) w0 fun b1 w1 =>
  LdB w1 (Addr.add (⟨b0, 0, none⟩) 4) fun b2 =>
  cond (!b2)
  (LdI .i64 w1 (⟨b0, 0, none⟩) fun n0 =>
  LdS w1 (Addr.add (⟨b0, 0, none⟩) 1) fun s0p s0l s0c =>
  LdS w1 (Addr.add (⟨b0, 0, none⟩) 2) fun s1p s1l s1c =>
  LdI .i64 w1 (Addr.add (⟨b0, 0, none⟩) 3) fun n1 =>
  LdB w1 (Addr.add (⟨b0, 0, none⟩) 4) fun b3 =>
  StC w1 (⟨b1, 0, none⟩) (.int .i64 n0) fun w2 =>
  StC w2 (Addr.add (⟨b1, 0, none⟩) 1) (.slice s0p s0l s0c) fun w3 =>
  StC w3 (Addr.add (⟨b1, 0, none⟩) 2) (.slice s1p s1l s1c) fun w4 =>
  StC w4 (Addr.add (⟨b1, 0, none⟩) 3) (.int .i64 n1) fun w5 =>
  StC w5 (Addr.add (⟨b1, 0, none⟩) 4) (.bool b3) fun w6 =>
  LdI .i64 w6 (⟨b1, 0, none⟩) fun n2 =>
  LdS w6 (Addr.add (⟨b1, 0, none⟩) 1) fun s2p s2l s2c =>
  LdS w6 (Addr.add (⟨b1, 0, none⟩) 2) fun s3p s3l s3c =>
  LdI .i64 w6 (Addr.add (⟨b1, 0, none⟩) 3) fun n3 =>
  LdB w6 (Addr.add (⟨b1, 0, none⟩) 4) fun b4 =>
  R (.returned (.tuple #[.agg #[.int .i64 n2, .slice s2p s2l s2c, .slice s3p s3l s3c, .int .i64 n3, .bool b4], .int .i64 0, .int .i64 16])) w6)
  (LdS w1 (Addr.add (⟨b0, 0, none⟩) 2) fun _ s4l _ =>
  cond ((Nat.cast s4l : Int) == 0)
  (LdI .i64 w1 (⟨b0, 0, none⟩) fun n4 =>
  LdS w1 (Addr.add (⟨b0, 0, none⟩) 1) fun s5p s5l s5c =>
  LdS w1 (Addr.add (⟨b0, 0, none⟩) 2) fun s6p s6l s6c =>
  LdI .i64 w1 (Addr.add (⟨b0, 0, none⟩) 3) fun n5 =>
  LdB w1 (Addr.add (⟨b0, 0, none⟩) 4) fun b5 =>
  StC w1 (⟨b1, 0, none⟩) (.int .i64 n4) fun w7 =>
  StC w7 (Addr.add (⟨b1, 0, none⟩) 1) (.slice s5p s5l s5c) fun w8 =>
  StC w8 (Addr.add (⟨b1, 0, none⟩) 2) (.slice s6p s6l s6c) fun w9 =>
  StC w9 (Addr.add (⟨b1, 0, none⟩) 3) (.int .i64 n5) fun w10 =>
  StC w10 (Addr.add (⟨b1, 0, none⟩) 4) (.bool b5) fun w11 =>
  LdI .i64 w11 (⟨b1, 0, none⟩) fun n6 =>
  LdS w11 (Addr.add (⟨b1, 0, none⟩) 1) fun s7p s7l s7c =>
  LdS w11 (Addr.add (⟨b1, 0, none⟩) 2) fun s8p s8l s8c =>
  LdI .i64 w11 (Addr.add (⟨b1, 0, none⟩) 3) fun n7 =>
  LdB w11 (Addr.add (⟨b1, 0, none⟩) 4) fun b6 =>
  R (.returned (.tuple #[.agg #[.int .i64 n6, .slice s7p s7l s7c, .slice s8p s8l s8c, .int .i64 n7, .bool b6], .int .i64 0, .int .i64 17])) w11)
  (LdI .i64 w1 (Addr.add (⟨b0, 0, none⟩) 3) fun n8 =>
  LdI .i64 (World.drew w1) (Addr.add (⟨b0, 0, none⟩) 3) fun n9 =>
  LdS (World.drew w1) (Addr.add (⟨b0, 0, none⟩) 2) fun s9p s9l _ =>
  IdxC s9p s9l 0 5 fun a5 =>
  LdS (World.drew w1) (Addr.add a5 4) fun _ s10l _ =>
  StC (World.drew w1) (Addr.add (⟨b0, 0, none⟩) 3) (.int .i64 (IntKind.wrap .i64 ((IntKind.wrap .i64 (n9 + 1)) + (Nat.cast s10l : Int)))) fun w12 =>
  LdS w12 (Addr.add (⟨b0, 0, none⟩) 2) fun s11p s11l s11c =>
  SlC s11p s11c 1 (Nat.cast s11l : Int) (Nat.cast s11c : Int) 5 fun s12p s12l s12c =>
  StC w12 (Addr.add (⟨b0, 0, none⟩) 2) (.slice s12p s12l s12c) fun w13 =>
  LdI .i64 w13 (⟨b0, 0, none⟩) fun n10 =>
  LdS w13 (Addr.add (⟨b0, 0, none⟩) 1) fun s13p s13l s13c =>
  LdS w13 (Addr.add (⟨b0, 0, none⟩) 2) fun s14p s14l s14c =>
  LdI .i64 w13 (Addr.add (⟨b0, 0, none⟩) 3) fun n11 =>
  LdB w13 (Addr.add (⟨b0, 0, none⟩) 4) fun b7 =>
  StC w13 (⟨b1, 0, none⟩) (.int .i64 n10) fun w14 =>
  StC w14 (Addr.add (⟨b1, 0, none⟩) 1) (.slice s13p s13l s13c) fun w15 =>
  StC w15 (Addr.add (⟨b1, 0, none⟩) 2) (.slice s14p s14l s14c) fun w16 =>
  StC w16 (Addr.add (⟨b1, 0, none⟩) 3) (.int .i64 n11) fun w17 =>
  StC w17 (Addr.add (⟨b1, 0, none⟩) 4) (.bool b7) fun w18 =>
  LdI .i64 w18 (⟨b1, 0, none⟩) fun n12 =>
  LdS w18 (Addr.add (⟨b1, 0, none⟩) 1) fun s15p s15l s15c =>
  LdS w18 (Addr.add (⟨b1, 0, none⟩) 2) fun s16p s16l s16c =>
  LdI .i64 w18 (Addr.add (⟨b1, 0, none⟩) 3) fun n13 =>
  LdB w18 (Addr.add (⟨b1, 0, none⟩) 4) fun b8 =>
  R (.returned (.tuple #[.agg #[.int .i64 n12, .slice s15p s15l s15c, .slice s16p s16l s16c, .int .i64 n13, .bool b8], .int .i64 n8, .int .i64 0])) w18))
def S_ref7_Skip_ann : Ann := (.seq .leaf (.seq .leaf (.seq .leaf (.seq .leaf (.seq (.draw 11) .leaf)))))
theorem S_ref7_Skip_eq (a0 : Int) (a1p : Option Addr) (a1l : Nat) (a1c : Nat) (a2p : Option Addr) (a2l : Nat) (a2c : Nat) (a3 : Int) (a4 : Bool) (w : World) (R : Ending → World → Prop) : X Try.prog Try.f40.ntmps (bodyOf Try.f40) S_ref7_Skip_ann (argEnv 0 [.agg #[.int .i64 a0, .slice a1p a1l a1c, .slice a2p a2l a2c, .int .i64 a3, .bool a4]]) w (fun e w' => resK Try.prog Try.f40.results.toList e w' [] fun vs => R (.returned (pack vs)) w') (fun e w' => resK Try.prog Try.f40.results.toList e w' [] fun vs => R (.returned (pack vs)) w') (fun _ _ _ => False) = S_ref7_Skip a0 a1p a1l a1c a2p a2l a2c a3 a4 w R := by kernel_rfl
theorem S_ref7_Skip_ok (a0 : Int) (a1p : Option Addr) (a1l : Nat) (a1c : Nat) (a2p : Option Addr) (a2l : Nat) (a2c : Nat) (a3 : Int) (a4 : Bool) (w : World) (R : Ending → World → Prop) (h : S_ref7_Skip a0 a1p a1l a1c a2p a2l a2c a3 a4 w R) : Calls Try.prog 40 #[.agg #[.int .i64 a0, .slice a1p a1l a1c, .slice a2p a2l a2c, .int .i64 a3, .bool a4]] w R :=
  calls_of_X (an := S_ref7_Skip_ann) wide_ok Try.func40 (by kernel_rfl) (by kernel_rfl) (by rw [S_ref7_Skip_eq]; exact h)

def S_ref7_Close (a0 : Int) (a1p : Option Addr) (a1l : Nat) (a1c : Nat) (a2p : Option Addr) (a2l : Nat) (a2c : Nat) (a3 : Int) (a4 : Bool) (w : World) (R : Ending → World → Prop) : Prop :=
  NewC (.cells #[.int .i64 a0, .slice a1p a1l a1c, .slice a2p a2l a2c, .int .i64 a3, .bool a4] 61 (0, 0)) w fun b0 w0 =>
  NewC (.cells #[.int .i64 0, .slice none 0 0, .slice none 0 0, .int .i64 0, .bool false] 61 (0, 0)) w0 fun b1 w1 =>
  LdB w1 (Addr.add (⟨b0, 0, none⟩) 4) fun b2 =>
  cond (!b2)
  (LdI .i64 w1 (⟨b0, 0, none⟩) fun n0 =>
  LdS w1 (Addr.add (⟨b0, 0, none⟩) 1) fun s0p s0l s0c =>
  LdS w1 (Addr.add (⟨b0, 0, none⟩) 2) fun s1p s1l s1c =>
  LdI .i64 w1 (Addr.add (⟨b0, 0, none⟩) 3) fun n1 =>
  LdB w1 (Addr.add (⟨b0, 0, none⟩) 4) fun b3 =>
  StC w1 (⟨b1, 0, none⟩) (.int .i64 n0) fun w2 =>
  StC w2 (Addr.add (⟨b1, 0, none⟩) 1) (.slice s0p s0l s0c) fun w3 =>
  StC w3 (Addr.add (⟨b1, 0, none⟩) 2) (.slice s1p s1l s1c) fun w4 =>
  StC w4 (Addr.add (⟨b1, 0, none⟩) 3) (.int .i64 n1) fun w5 =>
  StC w5 (Addr.add (⟨b1, 0, none⟩) 4) (.bool b3) fun w6 =>
  LdI .i64 w6 (⟨b1, 0, none⟩) fun n2 =>
  LdS w6 (Addr.add (⟨b1, 0, none⟩) 1) fun s2p s2l s2c =>
  LdS w6 (Addr.add (⟨b1, 0, none⟩) 2) fun s3p s3l s3c =>
  LdI .i64 w6 (Addr.add (⟨b1, 0, none⟩) 3) fun n3 =>
  LdB w6 (Addr.add (⟨b1, 0, none⟩) 4) fun b4 =>
  R (.returned (.tuple #[.agg #[.int .i64 n2, .slice s2p s2l s2c, .slice s3p s3l s3c, .int .i64 n3, .bool b4], .int .i64 16])) w6)
  (LdS w1 (Addr.add (⟨b0, 0, none⟩) 2) fun _ s4l _ =>
  cond (decide ((Nat.cast s4l : Int) > 0))
  (LdI .i64 w1 (⟨b0, 0, none⟩) fun n4 =>
  LdS w1 (Addr.add (⟨b0, 0, none⟩) 1) fun s5p s5l s5c =>
  LdS w1 (Addr.add (⟨b0, 0, none⟩) 2) fun s6p s6l s6c =>
  LdI .i64 w1 (Addr.add (⟨b0, 0, none⟩) 3) fun n5 =>
  LdB w1 (Addr.add (⟨b0, 0, none⟩) 4) fun b5 =>
  StC w1 (⟨b1, 0, none⟩) (.int .i64 n4) fun w7 =>
  StC w7 (Addr.add (⟨b1, 0, none⟩) 1) (.slice s5p s5l s5c) fun w8 =>
  StC w8 (Addr.add (⟨b1, 0, none⟩) 2) (.slice s6p s6l s6c) fun w9 =>
  StC w9 (Addr.add (⟨b1, 0, none⟩) 3) (.int .i64 n5) fun w10 =>
  StC w10 (Addr.add (⟨b1, 0, none⟩) 4) (.bool b5) fun w11 =>
  LdI .i64 w11 (⟨b1, 0, none⟩) fun n6 =>
  LdS w11 (Addr.add (⟨b1, 0, none⟩) 1) fun s7p s7l s7c =>
  LdS w11 (Addr.add (⟨b1, 0, none⟩) 2) fun s8p s8l s8c =>
  LdI .i64 w11 (Addr.add (⟨b1, 0, none⟩) 3) fun n7 =>
  LdB w11 (Addr.add (⟨b1, 0, none⟩) 4) fun b6 =>
  R (.returned (.tuple #[.agg #[.int .i64 n6, .slice s7p s7l s7c, .slice s8p s8l s8c, .int .i64 n7, .bool b6], .int .i64 20])) w11)
  (StC w1 (Addr.add (⟨b0, 0, none⟩) 4) (.bool false) fun w12 =>
  StC w12 (Addr.add (⟨b0, 0, none⟩) 3) (.int .i64 0) fun w13 =>
  LdI .i64 w13 (⟨b0, 0, none⟩) fun n8 =>
  LdS w13 (Addr.add (⟨b0, 0, none⟩) 1) fun s9p s9l s9c =>
  LdS w13 (Addr.add (⟨b0, 0, none⟩) 2) fun s10p s10l s10c =>
  LdI .i64 w13 (Addr.add (⟨b0, 0, none⟩) 3) fun n9 =>
  LdB w13 (Addr.add (⟨b0, 0, none⟩) 4) fun b7 =>
  StC w13 (⟨b1, 0, none⟩) (.int .i64 n8) fun w14 =>
  StC w14 (Addr.add (⟨b1, 0, none⟩) 1) (.slice s9p s9l s9c) fun w15 =>
  StC w15 (Addr.add (⟨b1, 0, none⟩) 2) (.slice s10p s10l s10c) fun w16 =>
  StC w16 (Addr.add (⟨b1, 0, none⟩) 3) (.int .i64 n9) fun w17 =>
  StC w17 (Addr.add (⟨b1, 0, none⟩) 4) (.bool b7) fun w18 =>
  LdI .i64 w18 (⟨b1, 0, none⟩) fun n10 =>
  LdS w18 (Addr.add (⟨b1, 0, none⟩) 1) fun s11p s11l s11c =>
  LdS w18 (Addr.add (⟨b1, 0, none⟩) 2) fun s12p s12l s12c =>
  LdI .i64 w18 (Addr.add (⟨b1, 0, none⟩) 3) fun n11 =>
  LdB w18 (Addr.add (⟨b1, 0, none⟩) 4) fun b8 =>
  R (.returned (.tuple #[.agg #[.int .i64 n10, .slice s11p s11l s11c, .slice s12p s12l s12c, .int .i64 n11, .bool b8], .int .i64 0])) w18))
def S_ref7_Close_ann : Ann := .leaf
theorem S_ref7_Close_eq (a0 : Int) (a1p : Option Addr) (a1l : Nat) (a1c : Nat) (a2p : Option Addr) (a2l : Nat) (a2c : Nat) (a3 : Int) (a4 : Bool) (w : World) (R : Ending → World → Prop) : X Try.prog Try.f41.ntmps (bodyOf Try.f41) S_ref7_Close_ann (argEnv 0 [.agg #[.int .i64 a0, .slice a1p a1l a1c, .slice a2p a2l a2c, .int .i64 a3, .bool a4]]) w (fun e w' => resK Try.prog Try.f41.results.toList e w' [] fun vs => R (.returned (pack vs)) w') (fun e w' => resK Try.prog Try.f41.results.toList e w' [] fun vs => R (.returned (pack vs)) w') (fun _ _ _ => False) = S_ref7_Close a0 a1p a1l a1c a2p a2l a2c a3 a4 w R := by kernel_rfl
theorem S_ref7_Close_ok (a0 : Int) (a1p : Option Addr) (a1l : Nat) (a1c : Nat) (a2p : Option Addr) (a2l : Nat) (a2c : Nat) (a3 : Int) (a4 : Bool) (w : World) (R : Ending → World → Prop) (h : S_ref7_Close a0 a1p a1l a1c a2p a2l a2c a3 a4 w R) : Calls Try.prog 41 #[.agg #[.int .i64 a0, .slice a1p a1l a1c, .slice a2p a2l a2c, .int .i64 a3, .bool a4]] w R :=
  calls_of_X (an := S_ref7_Close_ann) wide_ok Try.func41 (by kernel_rfl) (by kernel_rfl) (by rw [S_ref7_Close_eq]; exact h)

def S_arena_Arena_Gap (a0 : Option Addr) (w : World) (R : Ending → World → Prop) : Prop :=
  onSome a0 fun a1 =>
  LdI .i64 (World.drew w) (Addr.add a1 3) fun n0 =>
  onSome a0 fun a2 =>
  LdI .i64 (World.drew w) (Addr.add a2 4) fun n1 =>
  onSome a0 fun a3 =>
  LdB (World.drew w) (Addr.add a3 5) fun b0 =>
  R (.returned (.tuple #[.int .i64 n0, .int .i64 n1, .bool b0])) (World.drew w)
def S_arena_Arena_Gap_ann : Ann := (.seq .leaf (.seq (.draw 15) .leaf))
theorem S_arena_Arena_Gap_eq (a0 : Option Addr) (w : World) (R : Ending → World → Prop) : X Try.prog Try.f42.ntmps (bodyOf Try.f42) S_arena_Arena_Gap_ann (argEnv 0 [.pointer a0]) w (fun e w' => resK Try.prog Try.f42.results.toList e w' [] fun vs => R (.returned (pack vs)) w') (fun e w' => resK Try.prog Try.f42.results.toList e w' [] fun vs => R (.returned (pack vs)) w') (fun _ _ _ => False) = S_arena_Arena_Gap a0 w R := by kernel_rfl
theorem S_arena_Arena_Gap_ok (a0 : Option Addr) (w : World) (R : Ending → World → Prop) (h : S_arena_Arena_Gap a0 w R) : Calls Try.prog 42 #[.pointer a0] w R :=
  calls_of_X (an := S_arena_Arena_Gap_ann) wide_ok Try.func42 (by kernel_rfl) (by kernel_rfl) (by rw [S_arena_Arena_Gap_eq]; exact h)

def S_ref7_Gap (a0 : Int) (a1p : Option Addr) (a1l : Nat) (a1c : Nat) (a2p : Option Addr) (a2l : Nat) (a2c : Nat) (a3 : Int) (a4 : Bool) (w : World) (R : Ending → World → Prop) : Prop :=
  NewC (.cells #[.int .i64 a0, .slice a1p a1l a1c, .slice a2p a2l a2c, .int .i64 a3, .bool a4] 61 (0, 0)) w fun b0 w0 =>
  LdB w0 (Addr.add (⟨b0, 0, none⟩) 4) fun b1 =>
  cond (!b1)
  (R (.returned (.tuple #[.int .i64 0, .int .i64 0])) w0)
  (∃ C0 : World → Prop, C0 (World.drew w0) ∧
  LdSQ C0 (Addr.add (⟨b0, 0, none⟩) 1) fun s0p s0l s0c =>
  LdIQ .i64 C0 (Addr.add (⟨b0, 0, none⟩) 3) fun n0 =>
  Calls Try.prog 52 #[.slice s0p s0l s0c] (World.drew w0) fun e0 w1 =>
  ∃ (r0 : Int), e0 = .returned (.int .i64 r0) ∧
  C0 w1 ∧
  R (.returned (.tuple #[.int .i64 r0, .int .i64 n0])) w1)
def S_ref7_Gap_ann : Ann := (.seq .leaf (.seq .leaf (.seq .anyl .leaf)))
theorem S_ref7_Gap_eq (a0 : Int) (a1p : Option Addr) (a1l : Nat) (a1c : Nat) (a2p : Option Addr) (a2l : Nat) (a2c : Nat) (a3 : Int) (a4 : Bool) (w : World) (R : Ending → World → Prop) : X Try.prog Try.f43.ntmps (bodyOf Try.f43) S_ref7_Gap_ann (argEnv 0 [.agg #[.int .i64 a0, .slice a1p a1l a1c, .slice a2p a2l a2c, .int .i64 a3, .bool a4]]) w (fun e w' => resK Try.prog Try.f43.results.toList e w' [] fun vs => R (.returned (pack vs)) w') (fun e w' => resK Try.prog Try.f43.results.toList e w' [] fun vs => R (.returned (pack vs)) w') (fun _ _ _ => False) = S_ref7_Gap a0 a1p a1l a1c a2p a2l a2c a3 a4 w R := by kernel_rfl
theorem S_ref7_Gap_ok (a0 : Int) (a1p : Option Addr) (a1l : Nat) (a1c : Nat) (a2p : Option Addr) (a2l : Nat) (a2c : Nat) (a3 : Int) (a4 : Bool) (w : World) (R : Ending → World → Prop) (h : S_ref7_Gap a0 a1p a1l a1c a2p a2l a2c a3 a4 w R) : Calls Try.prog 43 #[.agg #[.int .i64 a0, .slice a1p a1l a1c, .slice a2p a2l a2c, .int .i64 a3, .bool a4]] w R :=
  calls_of_X (an := S_ref7_Gap_ann) wide_ok Try.func43 (by kernel_rfl) (by kernel_rfl) (by rw [S_ref7_Gap_eq]; exact h)

def S_arena_Arena_Words (a0 : Option Addr) (w : World) (R : Ending → World → Prop) : Prop :=
  onSome a0 fun a1 =>
  LdS w a1 fun _ s0l _ =>
  R (.returned (.int .i64 (Nat.cast s0l : Int))) w
def S_arena_Arena_Words_ann : Ann := .leaf
theorem S_arena_Arena_Words_eq (a0 : Option Addr) (w : World) (R : Ending → World → Prop) : X Try.prog Try.f44.ntmps (bodyOf Try.f44) S_arena_Arena_Words_ann (argEnv 0 [.pointer a0]) w (fun e w' => resK Try.prog Try.f44.results.toList e w' [] fun vs => R (.returned (pack vs)) w') (fun e w' => resK Try.prog Try.f44.results.toList e w' [] fun vs => R (.returned (pack vs)) w') (fun _ _ _ => False) = S_arena_Arena_Words a0 w R := by kernel_rfl
theorem S_arena_Arena_Words_ok (a0 : Option Addr) (w : World) (R : Ending → World → Prop) (h : S_arena_Arena_Words a0 w R) : Calls Try.prog 44 #[.pointer a0] w R :=
  calls_of_X (an := S_arena_Arena_Words_ann) wide_ok Try.func44 (by kernel_rfl) (by kernel_rfl) (by rw [S_arena_Arena_Words_eq]; exact h)

def S_ref7_Top (a0 : Int) (a1p : Option Addr) (a1l : Nat) (a1c : Nat) (a2p : Option Addr) (a2l : Nat) (a2c : Nat) (a3 : Int) (a4 : Bool) (w : World) (R : Ending → World → Prop) : Prop :=
  NewC (.cells #[.int .i64 a0, .slice a1p a1l a1c, .slice a2p a2l a2c, .int .i64 a3, .bool a4] 61 (0, 0)) w fun b0 w0 =>
  LdB w0 (Addr.add (⟨b0, 0, none⟩) 4) fun b1 =>
  cond b1
  (∃ C0 : World → Prop, C0 (World.drew w0) ∧
  LdIQ .i64 C0 (Addr.add (⟨b0, 0, none⟩) 3) fun n0 =>
  LdSQ C0 (Addr.add (⟨b0, 0, none⟩) 2) fun s0p s0l s0c =>
  Calls Try.prog 52 #[.slice s0p s0l s0c] (World.drew w0) fun e0 w1 =>
  ∃ (r0 : Int), e0 = .returned (.int .i64 r0) ∧
  C0 w1 ∧
  R (.returned (.int .i64 (IntKind.wrap .i64 (n0 + r0)))) w1)
  (LdS w0 (Addr.add (⟨b0, 0, none⟩) 1) fun s1p s1l s1c =>
  Calls Try.prog 52 #[.slice s1p s1l s1c] w0 fun e1 w2 =>
  ∃ (r1 : Int), e1 = .returned (.int .i64 r1) ∧
  R (.returned (.int .i64 r1)) w2)
def S_ref7_Top_ann : Ann := (.seq .leaf (.seq (.seq .leaf (.cond (.seq .anyl .leaf) .leaf)) .leaf))
theorem S_ref7_Top_eq (a0 : Int) (a1p : Option Addr) (a1l : Nat) (a1c : Nat) (a2p : Option Addr) (a2l : Nat) (a2c : Nat) (a3 : Int) (a4 : Bool) (w : World) (R : Ending → World → Prop) : X Try.prog Try.f45.ntmps (bodyOf Try.f45) S_ref7_Top_ann (argEnv 0 [.agg #[.int .i64 a0, .slice a1p a1l a1c, .slice a2p a2l a2c, .int .i64 a3, .bool a4]]) w (fun e w' => resK Try.prog Try.f45.results.toList e w' [] fun vs => R (.returned (pack vs)) w') (fun e w' => resK Try.prog Try.f45.results.toList e w' [] fun vs => R (.returned (pack vs)) w') (fun _ _ _ => False) = S_ref7_Top a0 a1p a1l a1c a2p a2l a2c a3 a4 w R := by kernel_rfl
theorem S_ref7_Top_ok (a0 : Int) (a1p : Option Addr) (a1l : Nat) (a1c : Nat) (a2p : Option Addr) (a2l : Nat) (a2c : Nat) (a3 : Int) (a4 : Bool) (w : World) (R : Ending → World → Prop) (h : S_ref7_Top a0 a1p a1l a1c a2p a2l a2c a3 a4 w R) : Calls Try.prog 45 #[.agg #[.int .i64 a0, .slice a1p a1l a1c, .slice a2p a2l a2c, .int .i64 a3, .bool a4]] w R :=
  calls_of_X (an := S_ref7_Top_ann) wide_ok Try.func45 (by kernel_rfl) (by kernel_rfl) (by rw [S_ref7_Top_eq]; exact h)

def S_arena_Arena_First (a0 : Option Addr) (w : World) (R : Ending → World → Prop) : Prop :=
  Calls Try.prog 33 #[.pointer a0, .int .i64 0] w fun e0 w0 =>
  ∃ (r0 : Int), e0 = .returned (.int .i64 r0) ∧
  R (.returned (.int .i64 r0)) w0
def S_arena_Arena_First_ann : Ann := .leaf
theorem S_arena_Arena_First_eq (a0 : Option Addr) (w : World) (R : Ending → World → Prop) : X Try.prog Try.f46.ntmps (bodyOf Try.f46) S_arena_Arena_First_ann (argEnv 0 [.pointer a0]) w (fun e w' => resK Try.prog Try.f46.results.toList e w' [] fun vs => R (.returned (pack vs)) w') (fun e w' => resK Try.prog Try.f46.results.toList e w' [] fun vs => R (.returned (pack vs)) w') (fun _ _ _ => False) = S_arena_Arena_First a0 w R := by kernel_rfl
theorem S_arena_Arena_First_ok (a0 : Option Addr) (w : World) (R : Ending → World → Prop) (h : S_arena_Arena_First a0 w R) : Calls Try.prog 46 #[.pointer a0] w R :=
  calls_of_X (an := S_arena_Arena_First_ann) wide_ok Try.func46 (by kernel_rfl) (by kernel_rfl) (by rw [S_arena_Arena_First_eq]; exact h)

def S_ref7_First (a0 : Int) (a1p : Option Addr) (a1l : Nat) (a1c : Nat) (a2p : Option Addr) (a2l : Nat) (a2c : Nat) (a3 : Int) (a4 : Bool) (w : World) (R : Ending → World → Prop) : Prop :=
  NewC (.cells #[.int .i64 a0, .slice a1p a1l a1c, .slice a2p a2l a2c, .int .i64 a3, .bool a4] 61 (0, 0)) w fun b0 w0 =>
  LdS w0 (Addr.add (⟨b0, 0, none⟩) 1) fun _ s0l _ =>
  cond (decide ((Nat.cast s0l : Int) > 0))
  (R (.returned (.int .i64 0)) w0)
  (LdB w0 (Addr.add (⟨b0, 0, none⟩) 4) fun b1 =>
  cond (!b1)
  (R (.returned (.int .i64 0)) w0)
  (LdI .i64 w0 (Addr.add (⟨b0, 0, none⟩) 3) fun n0 =>
  R (.returned (.int .i64 n0)) w0))
def S_ref7_First_ann : Ann := .leaf
theorem S_ref7_First_eq (a0 : Int) (a1p : Option Addr) (a1l : Nat) (a1c : Nat) (a2p : Option Addr) (a2l : Nat) (a2c : Nat) (a3 : Int) (a4 : Bool) (w : World) (R : Ending → World → Prop) : X Try.prog Try.f47.ntmps (bodyOf Try.f47) S_ref7_First_ann (argEnv 0 [.agg #[.int .i64 a0, .slice a1p a1l a1c, .slice a2p a2l a2c, .int .i64 a3, .bool a4]]) w (fun e w' => resK Try.prog Try.f47.results.toList e w' [] fun vs => R (.returned (pack vs)) w') (fun e w' => resK Try.prog Try.f47.results.toList e w' [] fun vs => R (.returned (pack vs)) w') (fun _ _ _ => False) = S_ref7_First a0 a1p a1l a1c a2p a2l a2c a3 a4 w R := by kernel_rfl
theorem S_ref7_First_ok (a0 : Int) (a1p : Option Addr) (a1l : Nat) (a1c : Nat) (a2p : Option Addr) (a2l : Nat) (a2c : Nat) (a3 : Int) (a4 : Bool) (w : World) (R : Ending → World → Prop) (h : S_ref7_First a0 a1p a1l a1c a2p a2l a2c a3 a4 w R) : Calls Try.prog 47 #[.agg #[.int .i64 a0, .slice a1p a1l a1c, .slice a2p a2l a2c, .int .i64 a3, .bool a4]] w R :=
  calls_of_X (an := S_ref7_First_ann) wide_ok Try.func47 (by kernel_rfl) (by kernel_rfl) (by rw [S_ref7_First_eq]; exact h)

def S_ref7_Next (a0 : Int) (a1p : Option Addr) (a1l : Nat) (a1c : Nat) (a2p : Option Addr) (a2l : Nat) (a2c : Nat) (a3 : Int) (a4 : Bool) (at0 : Int) (w : World) (R : Ending → World → Prop) : Prop :=
  NewC (.cells #[.int .i64 a0, .slice a1p a1l a1c, .slice a2p a2l a2c, .int .i64 a3, .bool a4] 61 (0, 0)) w fun b0 w0 =>
  LdI .i64 w0 (⟨b0, 0, none⟩) fun n0 =>
  LdS w0 (Addr.add (⟨b0, 0, none⟩) 1) fun s0p s0l s0c =>
  LdS w0 (Addr.add (⟨b0, 0, none⟩) 2) fun s1p s1l s1c =>
  LdI .i64 w0 (Addr.add (⟨b0, 0, none⟩) 3) fun n1 =>
  LdB w0 (Addr.add (⟨b0, 0, none⟩) 4) fun b1 =>
  Calls Try.prog 51 #[.agg #[.int .i64 n0, .slice s0p s0l s0c, .slice s1p s1l s1c, .int .i64 n1, .bool b1], .int .i64 at0] w0 fun e0 w1 =>
  ∃ (r0 : Bool), ∃ (r1 : Int), e0 = .returned (.tuple #[.bool r0, .int .i64 r1]) ∧
  cond (decide (r1 < 0))
  (R (.returned (.tuple #[.int .i64 0, .bool false])) w1)
  (cond r0
  (LdS w1 (Addr.add (⟨b0, 0, none⟩) 2) fun s2p s2l _ =>
  IdxC s2p s2l r1 5 fun a5 =>
  LdS w1 (Addr.add a5 4) fun _ s3l _ =>
  R (.returned (.tuple #[.int .i64 (IntKind.wrap .i64 ((IntKind.wrap .i64 (at0 + 1)) + (Nat.cast s3l : Int))), .bool true])) w1)
  (LdS w1 (Addr.add (⟨b0, 0, none⟩) 1) fun _ s4l _ =>
  cond (decide ((IntKind.wrap .i64 (r1 + 1)) < (Nat.cast s4l : Int)))
  (LdS w1 (Addr.add (⟨b0, 0, none⟩) 1) fun s5p s5l _ =>
  IdxC s5p s5l r1 5 fun a6 =>
  LdS w1 (Addr.add a6 4) fun _ s6l _ =>
  R (.returned (.tuple #[.int .i64 (IntKind.wrap .i64 ((IntKind.wrap .i64 (at0 + 1)) + (Nat.cast s6l : Int))), .bool true])) w1)
  (LdB w1 (Addr.add (⟨b0, 0, none⟩) 4) fun b2 =>
  cond (!b2)
  (LdS w1 (Addr.add (⟨b0, 0, none⟩) 1) fun s7p s7l _ =>
  IdxC s7p s7l r1 5 fun a7 =>
  LdS w1 (Addr.add a7 4) fun _ s8l _ =>
  R (.returned (.tuple #[.int .i64 (IntKind.wrap .i64 ((IntKind.wrap .i64 (at0 + 1)) + (Nat.cast s8l : Int))), .bool true])) w1)
  (LdI .i64 w1 (Addr.add (⟨b0, 0, none⟩) 3) fun n2 =>
  R (.returned (.tuple #[.int .i64 n2, .bool true])) w1))))
def S_ref7_Next_ann : Ann := .leaf
theorem S_ref7_Next_eq (a0 : Int) (a1p : Option Addr) (a1l : Nat) (a1c : Nat) (a2p : Option Addr) (a2l : Nat) (a2c : Nat) (a3 : Int) (a4 : Bool) (at0 : Int) (w : World) (R : Ending → World → Prop) : X Try.prog Try.f48.ntmps (bodyOf Try.f48) S_ref7_Next_ann (argEnv 0 [.agg #[.int .i64 a0, .slice a1p a1l a1c, .slice a2p a2l a2c, .int .i64 a3, .bool a4], .int .i64 at0]) w (fun e w' => resK Try.prog Try.f48.results.toList e w' [] fun vs => R (.returned (pack vs)) w') (fun e w' => resK Try.prog Try.f48.results.toList e w' [] fun vs => R (.returned (pack vs)) w') (fun _ _ _ => False) = S_ref7_Next a0 a1p a1l a1c a2p a2l a2c a3 a4 at0 w R := by kernel_rfl
theorem S_ref7_Next_ok (a0 : Int) (a1p : Option Addr) (a1l : Nat) (a1c : Nat) (a2p : Option Addr) (a2l : Nat) (a2c : Nat) (a3 : Int) (a4 : Bool) (at0 : Int) (w : World) (R : Ending → World → Prop) (h : S_ref7_Next a0 a1p a1l a1c a2p a2l a2c a3 a4 at0 w R) : Calls Try.prog 48 #[.agg #[.int .i64 a0, .slice a1p a1l a1c, .slice a2p a2l a2c, .int .i64 a3, .bool a4], .int .i64 at0] w R :=
  calls_of_X (an := S_ref7_Next_ann) wide_ok Try.func48 (by kernel_rfl) (by kernel_rfl) (by rw [S_ref7_Next_eq]; exact h)

def S_law7_headed (h0 : Int) (h1 : Int) (h2 : Int) (h3 : Bool) (h4 : Int) (o0 : Int) (o1 : Int) (o2 : Int) (o3 : Bool) (o4p : Option Addr) (o4l : Nat) (o4c : Nat) (w : World) (R : Ending → World → Prop) : Prop :=
  NewC (.cells #[.int .i64 h0, .int .i64 h1, .int .i64 h2, .bool h3, .int .i64 h4] 39 (0, 0)) w fun b0 w0 =>
  NewC (.cells #[.int .i64 o0, .int .i64 o1, .int .i64 o2, .bool o3, .slice o4p o4l o4c] 81 (0, 0)) w0 fun b1 w1 =>
  LdI .i64 w1 (⟨b0, 0, none⟩) fun n0 =>
  LdI .i64 w1 (⟨b1, 0, none⟩) fun n1 =>
  cond (n0 == n1)
  (LdI .i64 w1 (Addr.add (⟨b0, 0, none⟩) 1) fun n2 =>
  LdI .i64 w1 (Addr.add (⟨b1, 0, none⟩) 1) fun n3 =>
  cond (n2 == n3)
  (LdI .i64 w1 (Addr.add (⟨b0, 0, none⟩) 2) fun n4 =>
  LdS w1 (Addr.add (⟨b1, 0, none⟩) 4) fun _ s0l _ =>
  cond (n4 == (Nat.cast s0l : Int))
  (LdB w1 (Addr.add (⟨b0, 0, none⟩) 3) fun b2 =>
  LdB w1 (Addr.add (⟨b1, 0, none⟩) 3) fun b3 =>
  cond (b2 == b3)
  (LdI .i64 w1 (Addr.add (⟨b0, 0, none⟩) 4) fun n5 =>
  LdI .i64 w1 (Addr.add (⟨b1, 0, none⟩) 2) fun n6 =>
  R (.returned (.bool (n5 == n6))) w1)
  (R (.returned (.bool false)) w1))
  (R (.returned (.bool false)) w1))
  (R (.returned (.bool false)) w1))
  (R (.returned (.bool false)) w1)
def S_law7_headed_ann : Ann := .leaf
theorem S_law7_headed_eq (h0 : Int) (h1 : Int) (h2 : Int) (h3 : Bool) (h4 : Int) (o0 : Int) (o1 : Int) (o2 : Int) (o3 : Bool) (o4p : Option Addr) (o4l : Nat) (o4c : Nat) (w : World) (R : Ending → World → Prop) : X Try.prog Try.f49.ntmps (bodyOf Try.f49) S_law7_headed_ann (argEnv 0 [.agg #[.int .i64 h0, .int .i64 h1, .int .i64 h2, .bool h3, .int .i64 h4], .agg #[.int .i64 o0, .int .i64 o1, .int .i64 o2, .bool o3, .slice o4p o4l o4c]]) w (fun e w' => resK Try.prog Try.f49.results.toList e w' [] fun vs => R (.returned (pack vs)) w') (fun e w' => resK Try.prog Try.f49.results.toList e w' [] fun vs => R (.returned (pack vs)) w') (fun _ _ _ => False) = S_law7_headed h0 h1 h2 h3 h4 o0 o1 o2 o3 o4p o4l o4c w R := by kernel_rfl
theorem S_law7_headed_ok (h0 : Int) (h1 : Int) (h2 : Int) (h3 : Bool) (h4 : Int) (o0 : Int) (o1 : Int) (o2 : Int) (o3 : Bool) (o4p : Option Addr) (o4l : Nat) (o4c : Nat) (w : World) (R : Ending → World → Prop) (h : S_law7_headed h0 h1 h2 h3 h4 o0 o1 o2 o3 o4p o4l o4c w R) : Calls Try.prog 49 #[.agg #[.int .i64 h0, .int .i64 h1, .int .i64 h2, .bool h3, .int .i64 h4], .agg #[.int .i64 o0, .int .i64 o1, .int .i64 o2, .bool o3, .slice o4p o4l o4c]] w R :=
  calls_of_X (an := S_law7_headed_ann) wide_ok Try.func49 (by kernel_rfl) (by kernel_rfl) (by rw [S_law7_headed_eq]; exact h)

def S_ref7_with (a0 : Int) (a1p : Option Addr) (a1l : Nat) (a1c : Nat) (a2p : Option Addr) (a2l : Nat) (a2c : Nat) (a3 : Int) (a4 : Bool) (at0 : Int) (o0 : Int) (o1 : Int) (o2 : Int) (o3 : Bool) (o4p : Option Addr) (o4l : Nat) (o4c : Nat) (w : World) (R : Ending → World → Prop) : Prop :=
  NewC (.cells #[.int .i64 a0, .slice a1p a1l a1c, .slice a2p a2l a2c, .int .i64 a3, .bool a4] 61 (0, 0)) w fun b0 w0 =>
  NewC (.cells #[.int .i64 o0, .int .i64 o1, .int .i64 o2, .bool o3, .slice o4p o4l o4c] 81 (0, 0)) w0 fun b1 w1 =>
  NewC (.cells #[.int .i64 0, .slice none 0 0, .slice none 0 0, .int .i64 0, .bool false] 61 (0, 0)) w1 fun b2 w2 =>
  LdI .i64 w2 (⟨b0, 0, none⟩) fun n0 =>
  LdS w2 (Addr.add (⟨b0, 0, none⟩) 1) fun s0p s0l s0c =>
  LdS w2 (Addr.add (⟨b0, 0, none⟩) 2) fun s1p s1l s1c =>
  LdI .i64 w2 (Addr.add (⟨b0, 0, none⟩) 3) fun n1 =>
  LdB w2 (Addr.add (⟨b0, 0, none⟩) 4) fun b3 =>
  Calls Try.prog 51 #[.agg #[.int .i64 n0, .slice s0p s0l s0c, .slice s1p s1l s1c, .int .i64 n1, .bool b3], .int .i64 at0] w2 fun e0 w3 =>
  ∃ (r0 : Bool), ∃ (r1 : Int), e0 = .returned (.tuple #[.bool r0, .int .i64 r1]) ∧
  cond r0
  (LdS w3 (Addr.add (⟨b0, 0, none⟩) 2) fun s2p s2l s2c =>
  RunS Try.prog (Builtin.append_ #[59, 59] 59 #[.slice none 0 0, .slice s2p s2l s2c]) w3 fun s3p s3l s3c w4 =>
  StC w4 (Addr.add (⟨b0, 0, none⟩) 2) (.slice s3p s3l s3c) fun w5 =>
  LdS w5 (Addr.add (⟨b0, 0, none⟩) 2) fun s4p s4l _ =>
  LdI .i64 w5 (⟨b1, 0, none⟩) fun n2 =>
  LdI .i64 w5 (Addr.add (⟨b1, 0, none⟩) 1) fun n3 =>
  LdI .i64 w5 (Addr.add (⟨b1, 0, none⟩) 2) fun n4 =>
  LdB w5 (Addr.add (⟨b1, 0, none⟩) 3) fun b4 =>
  LdS w5 (Addr.add (⟨b1, 0, none⟩) 4) fun s5p s5l s5c =>
  IdxC s4p s4l r1 5 fun a5 =>
  StC w5 a5 (.int .i64 n2) fun w6 =>
  StC w6 (Addr.add a5 1) (.int .i64 n3) fun w7 =>
  StC w7 (Addr.add a5 2) (.int .i64 n4) fun w8 =>
  StC w8 (Addr.add a5 3) (.bool b4) fun w9 =>
  StC w9 (Addr.add a5 4) (.slice s5p s5l s5c) fun w10 =>
  LdI .i64 w10 (⟨b0, 0, none⟩) fun n5 =>
  LdS w10 (Addr.add (⟨b0, 0, none⟩) 1) fun s6p s6l s6c =>
  LdS w10 (Addr.add (⟨b0, 0, none⟩) 2) fun s7p s7l s7c =>
  LdI .i64 w10 (Addr.add (⟨b0, 0, none⟩) 3) fun n6 =>
  LdB w10 (Addr.add (⟨b0, 0, none⟩) 4) fun b5 =>
  StC w10 (⟨b2, 0, none⟩) (.int .i64 n5) fun w11 =>
  StC w11 (Addr.add (⟨b2, 0, none⟩) 1) (.slice s6p s6l s6c) fun w12 =>
  StC w12 (Addr.add (⟨b2, 0, none⟩) 2) (.slice s7p s7l s7c) fun w13 =>
  StC w13 (Addr.add (⟨b2, 0, none⟩) 3) (.int .i64 n6) fun w14 =>
  StC w14 (Addr.add (⟨b2, 0, none⟩) 4) (.bool b5) fun w15 =>
  LdI .i64 w15 (⟨b2, 0, none⟩) fun n7 =>
  LdS w15 (Addr.add (⟨b2, 0, none⟩) 1) fun s8p s8l s8c =>
  LdS w15 (Addr.add (⟨b2, 0, none⟩) 2) fun s9p s9l s9c =>
  LdI .i64 w15 (Addr.add (⟨b2, 0, none⟩) 3) fun n8 =>
  LdB w15 (Addr.add (⟨b2, 0, none⟩) 4) fun b6 =>
  R (.returned (.agg #[.int .i64 n7, .slice s8p s8l s8c, .slice s9p s9l s9c, .int .i64 n8, .bool b6])) w15)
  (LdS w3 (Addr.add (⟨b0, 0, none⟩) 1) fun s10p s10l s10c =>
  RunS Try.prog (Builtin.append_ #[59, 59] 59 #[.slice none 0 0, .slice s10p s10l s10c]) w3 fun s11p s11l s11c w16 =>
  StC w16 (Addr.add (⟨b0, 0, none⟩) 1) (.slice s11p s11l s11c) fun w17 =>
  LdS w17 (Addr.add (⟨b0, 0, none⟩) 1) fun s12p s12l _ =>
  LdI .i64 w17 (⟨b1, 0, none⟩) fun n9 =>
  LdI .i64 w17 (Addr.add (⟨b1, 0, none⟩) 1) fun n10 =>
  LdI .i64 w17 (Addr.add (⟨b1, 0, none⟩) 2) fun n11 =>
  LdB w17 (Addr.add (⟨b1, 0, none⟩) 3) fun b7 =>
  LdS w17 (Addr.add (⟨b1, 0, none⟩) 4) fun s13p s13l s13c =>
  IdxC s12p s12l r1 5 fun a6 =>
  StC w17 a6 (.int .i64 n9) fun w18 =>
  StC w18 (Addr.add a6 1) (.int .i64 n10) fun w19 =>
  StC w19 (Addr.add a6 2) (.int .i64 n11) fun w20 =>
  StC w20 (Addr.add a6 3) (.bool b7) fun w21 =>
  StC w21 (Addr.add a6 4) (.slice s13p s13l s13c) fun w22 =>
  LdI .i64 w22 (⟨b0, 0, none⟩) fun n12 =>
  LdS w22 (Addr.add (⟨b0, 0, none⟩) 1) fun s14p s14l s14c =>
  LdS w22 (Addr.add (⟨b0, 0, none⟩) 2) fun s15p s15l s15c =>
  LdI .i64 w22 (Addr.add (⟨b0, 0, none⟩) 3) fun n13 =>
  LdB w22 (Addr.add (⟨b0, 0, none⟩) 4) fun b8 =>
  StC w22 (⟨b2, 0, none⟩) (.int .i64 n12) fun w23 =>
  StC w23 (Addr.add (⟨b2, 0, none⟩) 1) (.slice s14p s14l s14c) fun w24 =>
  StC w24 (Addr.add (⟨b2, 0, none⟩) 2) (.slice s15p s15l s15c) fun w25 =>
  StC w25 (Addr.add (⟨b2, 0, none⟩) 3) (.int .i64 n13) fun w26 =>
  StC w26 (Addr.add (⟨b2, 0, none⟩) 4) (.bool b8) fun w27 =>
  LdI .i64 w27 (⟨b2, 0, none⟩) fun n14 =>
  LdS w27 (Addr.add (⟨b2, 0, none⟩) 1) fun s16p s16l s16c =>
  LdS w27 (Addr.add (⟨b2, 0, none⟩) 2) fun s17p s17l s17c =>
  LdI .i64 w27 (Addr.add (⟨b2, 0, none⟩) 3) fun n15 =>
  LdB w27 (Addr.add (⟨b2, 0, none⟩) 4) fun b9 =>
  R (.returned (.agg #[.int .i64 n14, .slice s16p s16l s16c, .slice s17p s17l s17c, .int .i64 n15, .bool b9])) w27)
def S_ref7_with_ann : Ann := .leaf
theorem S_ref7_with_eq (a0 : Int) (a1p : Option Addr) (a1l : Nat) (a1c : Nat) (a2p : Option Addr) (a2l : Nat) (a2c : Nat) (a3 : Int) (a4 : Bool) (at0 : Int) (o0 : Int) (o1 : Int) (o2 : Int) (o3 : Bool) (o4p : Option Addr) (o4l : Nat) (o4c : Nat) (w : World) (R : Ending → World → Prop) : X Try.prog Try.f50.ntmps (bodyOf Try.f50) S_ref7_with_ann (argEnv 0 [.agg #[.int .i64 a0, .slice a1p a1l a1c, .slice a2p a2l a2c, .int .i64 a3, .bool a4], .int .i64 at0, .agg #[.int .i64 o0, .int .i64 o1, .int .i64 o2, .bool o3, .slice o4p o4l o4c]]) w (fun e w' => resK Try.prog Try.f50.results.toList e w' [] fun vs => R (.returned (pack vs)) w') (fun e w' => resK Try.prog Try.f50.results.toList e w' [] fun vs => R (.returned (pack vs)) w') (fun _ _ _ => False) = S_ref7_with a0 a1p a1l a1c a2p a2l a2c a3 a4 at0 o0 o1 o2 o3 o4p o4l o4c w R := by kernel_rfl
theorem S_ref7_with_ok (a0 : Int) (a1p : Option Addr) (a1l : Nat) (a1c : Nat) (a2p : Option Addr) (a2l : Nat) (a2c : Nat) (a3 : Int) (a4 : Bool) (at0 : Int) (o0 : Int) (o1 : Int) (o2 : Int) (o3 : Bool) (o4p : Option Addr) (o4l : Nat) (o4c : Nat) (w : World) (R : Ending → World → Prop) (h : S_ref7_with a0 a1p a1l a1c a2p a2l a2c a3 a4 at0 o0 o1 o2 o3 o4p o4l o4c w R) : Calls Try.prog 50 #[.agg #[.int .i64 a0, .slice a1p a1l a1c, .slice a2p a2l a2c, .int .i64 a3, .bool a4], .int .i64 at0, .agg #[.int .i64 o0, .int .i64 o1, .int .i64 o2, .bool o3, .slice o4p o4l o4c]] w R :=
  calls_of_X (an := S_ref7_with_ann) wide_ok Try.func50 (by kernel_rfl) (by kernel_rfl) (by rw [S_ref7_with_eq]; exact h)

def S_ref7_find_l0 (at0 : Int) (R : Ending → World → Prop) (b0 : Nat) (k1 : Int) (i1 : Int) (w2 : World) (I1 : Int → Int → World → Prop) (M1 : Int → Int → World → Nat) : Prop :=
  LdS w2 (Addr.add (⟨b0, 0, none⟩) 2) fun _ s3l _ =>
  cond (decide (i1 < (Nat.cast s3l : Int)))
  (cond (k1 == at0)
  (R (.returned (.tuple #[.bool true, .int .i64 i1])) w2)
  (LdS w2 (Addr.add (⟨b0, 0, none⟩) 2) fun s4p s4l _ =>
  IdxC s4p s4l i1 5 fun a6 =>
  LdS w2 (Addr.add a6 4) fun _ s5l _ =>
  I1 (IntKind.wrap .i64 ((IntKind.wrap .i64 (k1 + 1)) + (Nat.cast s5l : Int))) (IntKind.wrap .i64 (i1 + 1)) w2 ∧ M1 (IntKind.wrap .i64 ((IntKind.wrap .i64 (k1 + 1)) + (Nat.cast s5l : Int))) (IntKind.wrap .i64 (i1 + 1)) w2 < M1 k1 i1 w2))
  (R (.returned (.tuple #[.bool false, .int .i64 (-1)])) w2)
def S_ref7_find_l1 (at0 : Int) (R : Ending → World → Prop) (b0 : Nat) (k0 : Int) (i0 : Int) (w1 : World) (I0 : Int → Int → World → Prop) (M0 : Int → Int → World → Nat) : Prop :=
  LdS w1 (Addr.add (⟨b0, 0, none⟩) 1) fun _ s0l _ =>
  cond (decide (i0 < (Nat.cast s0l : Int)))
  (cond (k0 == at0)
  (R (.returned (.tuple #[.bool false, .int .i64 i0])) w1)
  (LdS w1 (Addr.add (⟨b0, 0, none⟩) 1) fun s1p s1l _ =>
  IdxC s1p s1l i0 5 fun a5 =>
  LdS w1 (Addr.add a5 4) fun _ s2l _ =>
  I0 (IntKind.wrap .i64 ((IntKind.wrap .i64 (k0 + 1)) + (Nat.cast s2l : Int))) (IntKind.wrap .i64 (i0 + 1)) w1 ∧ M0 (IntKind.wrap .i64 ((IntKind.wrap .i64 (k0 + 1)) + (Nat.cast s2l : Int))) (IntKind.wrap .i64 (i0 + 1)) w1 < M0 k0 i0 w1))
  (LdI .i64 w1 (Addr.add (⟨b0, 0, none⟩) 3) fun n0 =>
  ∃ (I1 : Int → Int → World → Prop) (M1 : Int → Int → World → Nat), I1 n0 0 w1 ∧
  ∀ (k1 : Int) (i1 : Int) (w2 : World), I1 k1 i1 w2 →
  S_ref7_find_l0 at0 R b0 k1 i1 w2 I1 M1)
def S_ref7_find (a0 : Int) (a1p : Option Addr) (a1l : Nat) (a1c : Nat) (a2p : Option Addr) (a2l : Nat) (a2c : Nat) (a3 : Int) (a4 : Bool) (at0 : Int) (w : World) (R : Ending → World → Prop) : Prop :=
  NewC (.cells #[.int .i64 a0, .slice a1p a1l a1c, .slice a2p a2l a2c, .int .i64 a3, .bool a4] 61 (0, 0)) w fun b0 w0 =>
  ∃ (I0 : Int → Int → World → Prop) (M0 : Int → Int → World → Nat), I0 0 0 w0 ∧
  ∀ (k0 : Int) (i0 : Int) (w1 : World), I0 k0 i0 w1 →
  S_ref7_find_l1 at0 R b0 k0 i0 w1 I0 M0
def S_ref7_find_ann : Ann := (.seq .leaf (.seq .leaf (.seq (.seq .leaf (.block (.loop [1, 2] [(6, (.int .i64)), (7, (.int .i64))] .leaf))) (.seq .leaf (.seq (.seq .leaf (.block (.loop [1, 2] [(6, (.int .i64)), (8, (.int .i64))] .leaf))) .leaf)))))
theorem S_ref7_find_eq (a0 : Int) (a1p : Option Addr) (a1l : Nat) (a1c : Nat) (a2p : Option Addr) (a2l : Nat) (a2c : Nat) (a3 : Int) (a4 : Bool) (at0 : Int) (w : World) (R : Ending → World → Prop) : X Try.prog Try.f51.ntmps (bodyOf Try.f51) S_ref7_find_ann (argEnv 0 [.agg #[.int .i64 a0, .slice a1p a1l a1c, .slice a2p a2l a2c, .int .i64 a3, .bool a4], .int .i64 at0]) w (fun e w' => resK Try.prog Try.f51.results.toList e w' [] fun vs => R (.returned (pack vs)) w') (fun e w' => resK Try.prog Try.f51.results.toList e w' [] fun vs => R (.returned (pack vs)) w') (fun _ _ _ => False) = S_ref7_find a0 a1p a1l a1c a2p a2l a2c a3 a4 at0 w R := by kernel_rfl
theorem S_ref7_find_ok (a0 : Int) (a1p : Option Addr) (a1l : Nat) (a1c : Nat) (a2p : Option Addr) (a2l : Nat) (a2c : Nat) (a3 : Int) (a4 : Bool) (at0 : Int) (w : World) (R : Ending → World → Prop) (h : S_ref7_find a0 a1p a1l a1c a2p a2l a2c a3 a4 at0 w R) : Calls Try.prog 51 #[.agg #[.int .i64 a0, .slice a1p a1l a1c, .slice a2p a2l a2c, .int .i64 a3, .bool a4], .int .i64 at0] w R :=
  calls_of_X (an := S_ref7_find_ann) wide_ok Try.func51 (by kernel_rfl) (by kernel_rfl) (by rw [S_ref7_find_eq]; exact h)

def S_ref7_size_l0 (l0p : Option Addr) (l0l : Nat) (R : Ending → World → Prop) (n0 : Int) (i0 : Int) (w0 : World) (I0 : Int → Int → World → Prop) (M0 : Int → Int → World → Nat) : Prop :=
  cond (decide (i0 < (Nat.cast l0l : Int)))
  (IdxC l0p l0l i0 5 fun a0 =>
  LdS w0 (Addr.add a0 4) fun _ s0l _ =>
  I0 (IntKind.wrap .i64 ((IntKind.wrap .i64 (n0 + 1)) + (Nat.cast s0l : Int))) (IntKind.wrap .i64 (i0 + 1)) w0 ∧ M0 (IntKind.wrap .i64 ((IntKind.wrap .i64 (n0 + 1)) + (Nat.cast s0l : Int))) (IntKind.wrap .i64 (i0 + 1)) w0 < M0 n0 i0 w0)
  (R (.returned (.int .i64 n0)) w0)
def S_ref7_size (l0p : Option Addr) (l0l : Nat) (l0c : Nat) (w : World) (R : Ending → World → Prop) : Prop :=
  ∃ (I0 : Int → Int → World → Prop) (M0 : Int → Int → World → Nat), I0 0 0 w ∧
  ∀ (n0 : Int) (i0 : Int) (w0 : World), I0 n0 i0 w0 →
  S_ref7_size_l0 l0p l0l R n0 i0 w0 I0 M0
def S_ref7_size_ann : Ann := (.seq .leaf (.seq .leaf (.seq (.seq .leaf (.block (.loop [0] [(3, (.int .i64)), (4, (.int .i64))] .leaf))) .leaf)))
theorem S_ref7_size_eq (l0p : Option Addr) (l0l : Nat) (l0c : Nat) (w : World) (R : Ending → World → Prop) : X Try.prog Try.f52.ntmps (bodyOf Try.f52) S_ref7_size_ann (argEnv 0 [.slice l0p l0l l0c]) w (fun e w' => resK Try.prog Try.f52.results.toList e w' [] fun vs => R (.returned (pack vs)) w') (fun e w' => resK Try.prog Try.f52.results.toList e w' [] fun vs => R (.returned (pack vs)) w') (fun _ _ _ => False) = S_ref7_size l0p l0l l0c w R := by kernel_rfl
theorem S_ref7_size_ok (l0p : Option Addr) (l0l : Nat) (l0c : Nat) (w : World) (R : Ending → World → Prop) (h : S_ref7_size l0p l0l l0c w R) : Calls Try.prog 52 #[.slice l0p l0l l0c] w R :=
  calls_of_X (an := S_ref7_size_ann) wide_ok Try.func52 (by kernel_rfl) (by kernel_rfl) (by rw [S_ref7_size_eq]; exact h)


end Go.Proofs.Ytmcifhineibhpaa
