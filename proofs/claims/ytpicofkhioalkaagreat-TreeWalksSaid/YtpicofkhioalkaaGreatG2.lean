/- The second reading of functions of this seat's program, written out by a program (gen.py). -/
import Derived.Test.YtpicofkhioalkaaGreatG3
import Derived.KernelRfl
namespace Go.Proofs.YtpicofkhioalkaaGreat
open Go Go.Lw

def S_law13_TreeWalks_j0 (i0 : Int) (w2 : World) (I0 : Int → World → Prop) (M0 : Int → World → Nat) (w6 : World) : Prop :=
  I0 (IntKind.wrap .i64 (i0 + 1)) w6 ∧ M0 (IntKind.wrap .i64 (i0 + 1)) w6 < M0 i0 w2
def S_law13_TreeWalks_j1 (up0p : Option Addr) (up0l : Nat) (up0c : Nat) (k1 : Option Addr → Nat → Nat → Option Addr → Nat → Nat → World → Prop) (r16p : Option Addr) (r16l : Nat) (r16c : Nat) (w11 : World) : Prop :=
  RunStr Tryz.prog (convert 28 9 (.slice r16p r16l r16c)) w11 fun t2 =>
  NewC (.cells #[.string t2] 9 (0, 0)) w11 fun b1 w12 =>
  RunS Tryz.prog (Builtin.append_ #[38, 38] 38 #[.slice up0p up0l up0c, .slice (some (⟨b1, 0, none⟩)) 1 1]) w12 fun s4p s4l s4c w13 =>
  NewC (.cells #[] 5 (0, 0)) w13 fun b2 w14 =>
  RunS Tryz.prog (Builtin.append_ #[28, 28] 28 #[.slice (some (⟨b2, 0, none⟩)) 0 0, .slice r16p r16l r16c]) w14 fun s5p s5l s5c w15 =>
  NewC (.cells #[.int .u8 0] 5 (0, 0)) w15 fun b3 w16 =>
  RunS Tryz.prog (Builtin.append_ #[28, 28] 28 #[.slice s5p s5l s5c, .slice (some (⟨b3, 0, none⟩)) 1 1]) w16 fun s6p s6l s6c w17 =>
  k1 s4p s4l s4c s6p s6l s6c w17
def S_law13_TreeWalks_j2 (up0p : Option Addr) (up0l : Nat) (up0c : Nat) (at0p : Option Addr) (at0l : Nat) (at0c : Nat) (i1 : Int) (w9 : World) (I1 : Option Addr → Nat → Nat → Option Addr → Nat → Nat → Int → World → Prop) (M1 : Option Addr → Nat → Nat → Option Addr → Nat → Nat → Int → World → Nat) (up1p : Option Addr) (up1l : Nat) (up1c : Nat) (at1p : Option Addr) (at1l : Nat) (at1c : Nat) (w18 : World) : Prop :=
  I1 up1p up1l up1c at1p at1l at1c (IntKind.wrap .i64 (i1 + 1)) w18 ∧ M1 up1p up1l up1c at1p at1l at1c (IntKind.wrap .i64 (i1 + 1)) w18 < M1 up0p up0l up0c at0p at0l at0c i1 w9
def S_law13_TreeWalks_l0 (R : Ending → World → Prop) (r1 : Option Addr) (r2p : Option Addr) (r2l : Nat) (up0p : Option Addr) (up0l : Nat) (k3p : Option Addr) (k3l : Nat) (k3c : Nat) (y0 : Int) (is0 : Bool) (f0 : Int) (i2 : Int) (w20 : World) (I2 : Option Addr → Nat → Nat → Int → Bool → Int → Int → World → Prop) (M2 : Option Addr → Nat → Nat → Int → Bool → Int → Int → World → Nat) : Prop :=
  cond (decide (i2 ≥ 0))
  (cond (f0 != 0)
  (R (.returned (.bool false)) (World.drew w20))
  (cond (!is0)
  (R (.returned (.bool false)) (World.drew w20))
  (RunStr Tryz.prog (convert 28 9 (.slice k3p k3l k3c)) (World.drew w20) fun t3 =>
  IdxC up0p up0l i2 1 fun a14 =>
  LdStr (World.drew w20) a14 fun t4 =>
  cond (!(t3.toList == t4.toList))
  (R (.returned (.bool false)) (World.drew w20))
  (IdxC r2p r2l 0 1 fun a15 =>
  LdI .u64 (World.drew w20) a15 fun n9 =>
  Calls Tryz.prog 15 #[.pointer r1, .int .u64 n9, .slice k3p k3l k3c] (World.drew w20) fun e8 w21 =>
  ∃ (r24 : Int), ∃ (r25 : Bool), ∃ (r26 : Int), e8 = .returned (.tuple #[.int .u64 r24, .bool r25, .int .i64 r26]) ∧
  cond (r26 != 0)
  (R (.returned (.bool false)) w21)
  (cond (!r25)
  (R (.returned (.bool false)) w21)
  (cond (r24 != y0)
  (R (.returned (.bool false)) w21)
  (cond ((Nat.cast k3l : Int) == 0)
  (R (.returned (.bool (i2 == 0))) w21)
  (IdxC r2p r2l 0 1 fun a16 =>
  LdI .u64 w21 a16 fun n10 =>
  Calls Tryz.prog 14 #[.pointer r1, .int .u64 n10, .slice k3p k3l k3c] w21 fun e9 w22 =>
  ∃ (r27p : Option Addr), ∃ (r27l : Nat), ∃ (r27c : Nat), ∃ (r28 : Int), ∃ (r29 : Bool), ∃ (r30 : Int), e9 = .returned (.tuple #[.slice r27p r27l r27c, .int .u64 r28, .bool r29, .int .i64 r30]) ∧
  I2 r27p r27l r27c r28 r29 r30 (IntKind.wrap .i64 (i2 - 1)) w22 ∧ M2 r27p r27l r27c r28 r29 r30 (IntKind.wrap .i64 (i2 - 1)) w22 < M2 k3p k3l k3c y0 is0 f0 i2 w20))))))))
  (cond (f0 == 0)
  (R (.returned (.bool (!is0))) w20)
  (R (.returned (.bool false)) w20))
def S_law13_TreeWalks_l1 (R : Ending → World → Prop) (r1 : Option Addr) (r2p : Option Addr) (r2l : Nat) (r14 : Int) (up0p : Option Addr) (up0l : Nat) (up0c : Nat) (at0p : Option Addr) (at0l : Nat) (at0c : Nat) (i1 : Int) (w9 : World) (I1 : Option Addr → Nat → Nat → Option Addr → Nat → Nat → Int → World → Prop) (M1 : Option Addr → Nat → Nat → Option Addr → Nat → Nat → Int → World → Nat) : Prop :=
  cond (decide (i1 ≤ r14))
  (∀ k1 : Option Addr → Nat → Nat → Option Addr → Nat → Nat → World → Prop,
  (∀ (up1p : Option Addr) (up1l : Nat) (up1c : Nat) (at1p : Option Addr) (at1l : Nat) (at1c : Nat) (w18 : World), S_law13_TreeWalks_j2 up0p up0l up0c at0p at0l at0c i1 w9 I1 M1 up1p up1l up1c at1p at1l at1c w18 → k1 up1p up1l up1c at1p at1l at1c w18) →
  IdxC r2p r2l 0 1 fun a11 =>
  LdI .u64 w9 a11 fun n7 =>
  Calls Tryz.prog 13 #[.pointer r1, .int .u64 n7, .slice at0p at0l at0c] w9 fun e6 w10 =>
  ∃ (r16p : Option Addr), ∃ (r16l : Nat), ∃ (r16c : Nat), ∃ (r17 : Int), ∃ (r18 : Bool), ∃ (r19 : Int), e6 = .returned (.tuple #[.slice r16p r16l r16c, .int .u64 r17, .bool r18, .int .i64 r19]) ∧
  cond (r19 != 0)
  (R (.returned (.bool false)) w10)
  (cond (!(r18 == (decide (i1 < r14))))
  (R (.returned (.bool false)) w10)
  (cond r18
  (∀ k2 : World → Prop,
  (∀ (w11 : World), S_law13_TreeWalks_j1 up0p up0l up0c k1 r16p r16l r16c w11 → k2 w11) →
  cond (decide ((Nat.cast up0l : Int) > 0))
  (IdxC up0p up0l (IntKind.wrap .i64 ((Nat.cast up0l : Int) - 1)) 1 fun a12 =>
  LdStr (World.drew w10) a12 fun t0 =>
  RunStr Tryz.prog (convert 28 9 (.slice r16p r16l r16c)) (World.drew w10) fun t1 =>
  cond (!(Op.bytesLess t0.toList t1.toList))
  (R (.returned (.bool false)) (World.drew w10))
  (k2 (World.drew w10)))
  (k2 (World.drew w10)))
  (k1 up0p up0l up0c at0p at0l at0c w10))))
  (IdxC r2p r2l 0 1 fun a13 =>
  LdI .u64 w9 a13 fun n8 =>
  Calls Tryz.prog 14 #[.pointer r1, .int .u64 n8, .slice none 0 0] w9 fun e7 w19 =>
  ∃ (r20p : Option Addr), ∃ (r20l : Nat), ∃ (r20c : Nat), ∃ (r21 : Int), ∃ (r22 : Bool), ∃ (r23 : Int), e7 = .returned (.tuple #[.slice r20p r20l r20c, .int .u64 r21, .bool r22, .int .i64 r23]) ∧
  ∃ (I2 : Option Addr → Nat → Nat → Int → Bool → Int → Int → World → Prop) (M2 : Option Addr → Nat → Nat → Int → Bool → Int → Int → World → Nat), I2 r20p r20l r20c r21 r22 r23 (IntKind.wrap .i64 (r14 - 1)) w19 ∧
  ∀ (k3p : Option Addr) (k3l : Nat) (k3c : Nat) (y0 : Int) (is0 : Bool) (f0 : Int) (i2 : Int) (w20 : World), I2 k3p k3l k3c y0 is0 f0 i2 w20 →
  S_law13_TreeWalks_l0 R r1 r2p r2l up0p up0l k3p k3l k3c y0 is0 f0 i2 w20 I2 M2)
def S_law13_TreeWalks_l2 (l0p : Option Addr) (l0l : Nat) (R : Ending → World → Prop) (r1 : Option Addr) (r2p : Option Addr) (r2l : Nat) (r3p : Option Addr) (r3l : Nat) (i0 : Int) (w2 : World) (I0 : Int → World → Prop) (M0 : Int → World → Nat) : Prop :=
  cond (decide (i0 < (Nat.cast l0l : Int)))
  (∀ k0 : World → Prop,
  (∀ (w6 : World), S_law13_TreeWalks_j0 i0 w2 I0 M0 w6 → k0 w6) →
  IdxC l0p l0l i0 4 fun a0 =>
  LdS w2 (Addr.add a0 3) fun _ s0l _ =>
  cond (decide ((Nat.cast s0l : Int) > 200))
  (k0 w2)
  (IdxC l0p l0l i0 4 fun a1 =>
  LdI .i64 w2 a1 fun n0 =>
  cond (n0 == 4)
  (∃ C0 : World → Prop, C0 (World.drew w2) ∧
  IdxC r2p r2l 0 1 fun a2 =>
  LdIQ .u64 C0 a2 fun n1 =>
  IdxC l0p l0l i0 4 fun a3 =>
  LdSQ C0 (Addr.add a3 3) fun s1p s1l s1c =>
  Calls Tryz.prog 10 #[.pointer r1, .int .u64 n1, .slice s1p s1l s1c] (World.drew w2) fun e2 w3 =>
  ∃ (r5 : Int), ∃ (r6 : Bool), ∃ (r7 : Int), e2 = .returned (.tuple #[.int .u64 r5, .bool r6, .int .i64 r7]) ∧
  cond (r7 != 0)
  (R (.returned (.bool false)) w3)
  (k0 w3))
  (IdxC l0p l0l i0 4 fun a4 =>
  LdI .i64 w2 a4 fun n2 =>
  cond (n2 == 5)
  (∃ C1 : World → Prop, C1 (World.drew w2) ∧
  IdxC r2p r2l 0 1 fun a5 =>
  LdIQ .u64 C1 a5 fun n3 =>
  IdxC l0p l0l i0 4 fun a6 =>
  LdSQ C1 (Addr.add a6 3) fun s2p s2l s2c =>
  Calls Tryz.prog 10 #[.pointer r1, .int .u64 n3, .slice s2p s2l s2c] (World.drew w2) fun e3 w4 =>
  ∃ (r8 : Int), ∃ (r9 : Bool), ∃ (r10 : Int), e3 = .returned (.tuple #[.int .u64 r8, .bool r9, .int .i64 r10]) ∧
  cond (r10 != 0)
  (R (.returned (.bool false)) w4)
  (k0 w4))
  (∃ C2 : World → Prop, C2 (World.drew w2) ∧
  IdxC r2p r2l 0 1 fun a7 =>
  LdIQ .u64 C2 a7 fun n4 =>
  IdxC l0p l0l i0 4 fun a8 =>
  LdSQ C2 (Addr.add a8 3) fun s3p s3l s3c =>
  DivC 5
  (IdxC r3p r3l (Int.tmod i0 5) 1 fun a9 =>
  LdIQ .u64 C2 a9 fun n5 =>
  Calls Tryz.prog 11 #[.pointer r1, .int .u64 n4, .slice s3p s3l s3c, .int .u64 n5] (World.drew w2) fun e4 w5 =>
  ∃ (r11 : Int), ∃ (r12 : Bool), ∃ (r13 : Int), e4 = .returned (.tuple #[.int .u64 r11, .bool r12, .int .i64 r13]) ∧
  cond (r13 != 0)
  (R (.returned (.bool false)) w5)
  (k0 w5))))))
  (IdxC r2p r2l 0 1 fun a10 =>
  LdI .u64 w2 a10 fun n6 =>
  Calls Tryz.prog 12 #[.pointer r1, .int .u64 n6] w2 fun e5 w7 =>
  ∃ (r14 : Int), ∃ (r15 : Int), e5 = .returned (.tuple #[.int .i64 r14, .int .i64 r15]) ∧
  cond (r15 != 0)
  (R (.returned (.bool false)) w7)
  (NewC (.cells #[] 5 (0, 0)) w7 fun b0 w8 =>
  ∃ (I1 : Option Addr → Nat → Nat → Option Addr → Nat → Nat → Int → World → Prop) (M1 : Option Addr → Nat → Nat → Option Addr → Nat → Nat → Int → World → Nat), I1 none 0 0 (some (⟨b0, 0, none⟩)) 0 0 0 w8 ∧
  ∀ (up0p : Option Addr) (up0l : Nat) (up0c : Nat) (at0p : Option Addr) (at0l : Nat) (at0c : Nat) (i1 : Int) (w9 : World), I1 up0p up0l up0c at0p at0l at0c i1 w9 →
  S_law13_TreeWalks_l1 R r1 r2p r2l r14 up0p up0l up0c at0p at0l at0c i1 w9 I1 M1))
def S_law13_TreeWalks (l0p : Option Addr) (l0l : Nat) (l0c : Nat) (w : World) (R : Ending → World → Prop) : Prop :=
  Calls Tryz.prog 8 #[] w fun e0 w0 =>
  ∃ (r0 : Bool), e0 = .returned (.bool r0) ∧
  cond (!r0)
  (R (.returned (.bool false)) w0)
  (cond (decide ((Nat.cast l0l : Int) > 200))
  (R (.returned (.bool true)) w0)
  (Calls Tryz.prog 9 #[.int .i64 262144, .int .i64 65536, .int .i64 1] w0 fun e1 w1 =>
  ∃ (r1 : Option Addr), ∃ (r2p : Option Addr), ∃ (r2l : Nat), ∃ (r2c : Nat), ∃ (r3p : Option Addr), ∃ (r3l : Nat), ∃ (r3c : Nat), ∃ (r4 : Bool), e1 = .returned (.tuple #[.pointer r1, .slice r2p r2l r2c, .slice r3p r3l r3c, .bool r4]) ∧
  cond (!r4)
  (R (.returned (.bool false)) w1)
  (∃ (I0 : Int → World → Prop) (M0 : Int → World → Nat), I0 0 w1 ∧
  ∀ (i0 : Int) (w2 : World), I0 i0 w2 →
  S_law13_TreeWalks_l2 l0p l0l R r1 r2p r2l r3p r3l i0 w2 I0 M0)))
def S_law13_TreeWalks_ann : Ann := (.seq .leaf (.seq .leaf (.seq .leaf (.seq .leaf (.seq .leaf (.seq (.seq .leaf (.block (.loop [0, 3, 4, 5] [(7, (.int .i64))] (.seq .leaf (.seq (.jblock [0, 3, 4, 5, 7] [] (.seq .leaf (.seq .leaf (.seq (.seq .leaf (.cond .anyl .anyl)) .leaf))) .leaf) .leaf))))) (.seq .leaf (.seq .leaf (.seq .leaf (.seq .leaf (.seq (.seq .leaf (.block (.loop [3, 4, 9] [(11, .slice), (12, .slice), (13, (.int .i64))] (.seq .leaf (.seq (.jblock [3, 4, 9, 13] [(11, .slice), (12, .slice)] (.seq .leaf (.seq .leaf (.seq .leaf (.cond (.join [3, 4, 9, 11, 13, 14] [] (.seq (.draw 14) .leaf) .leaf) .leaf)))) .leaf) .leaf))))) (.seq .leaf (.seq (.seq .leaf (.block (.loop [3, 4, 11] [(18, .slice), (19, (.int .u64)), (20, .bool), (21, (.int .i64)), (22, (.int .i64))] (.seq .leaf (.seq (.block (.seq (.seq (.draw 15) .leaf) .leaf)) .leaf))))) .leaf)))))))))))))
theorem S_law13_TreeWalks_eq (l0p : Option Addr) (l0l : Nat) (l0c : Nat) (w : World) (R : Ending → World → Prop) : X Tryz.prog Tryz.f3.ntmps (bodyOf Tryz.f3) S_law13_TreeWalks_ann (argEnv 0 [.slice l0p l0l l0c]) w (fun e w' => resK Tryz.prog Tryz.f3.results.toList e w' [] fun vs => R (.returned (pack vs)) w') (fun e w' => resK Tryz.prog Tryz.f3.results.toList e w' [] fun vs => R (.returned (pack vs)) w') (fun _ _ _ => False) = S_law13_TreeWalks l0p l0l l0c w R := by kernel_rfl
theorem S_law13_TreeWalks_ok (l0p : Option Addr) (l0l : Nat) (l0c : Nat) (w : World) (R : Ending → World → Prop) (h : S_law13_TreeWalks l0p l0l l0c w R) : Calls Tryz.prog 3 #[.slice l0p l0l l0c] w R :=
  calls_of_X (an := S_law13_TreeWalks_ann) wide_ok Tryz.func3 (by kernel_rfl) (by kernel_rfl) (by rw [S_law13_TreeWalks_eq]; exact h)

def S_law13_awake (w : World) (R : Ending → World → Prop) : Prop :=
  Calls Tryz.prog 9 #[.int .i64 4000, .int .i64 400, .int .i64 1] w fun e0 w0 =>
  ∃ (r0 : Option Addr), ∃ (r1p : Option Addr), ∃ (r1l : Nat), ∃ (r1c : Nat), ∃ (r2p : Option Addr), ∃ (r2l : Nat), ∃ (r2c : Nat), ∃ (r3 : Bool), e0 = .returned (.tuple #[.pointer r0, .slice r1p r1l r1c, .slice r2p r2l r2c, .bool r3]) ∧
  cond (!r3)
  (R (.returned (.bool false)) w0)
  (∃ C0 : World → Prop, C0 (World.drew w0) ∧
  IdxC r1p r1l 0 1 fun a0 =>
  LdIQ .u64 C0 a0 fun n0 =>
  IdxC r2p r2l 1 1 fun a1 =>
  LdIQ .u64 C0 a1 fun n1 =>
  NewC (.cells #[.int .u8 98] 5 (0, 0)) (World.drew w0) fun b0 w1 =>
  C0 w1 ∧
  RunS Tryz.prog (convert 28 28 (.slice (some (⟨b0, 0, none⟩)) 1 1)) w1 fun s0p s0l s0c w2 =>
  C0 w2 ∧
  Calls Tryz.prog 11 #[.pointer r0, .int .u64 n0, .slice s0p s0l s0c, .int .u64 n1] w2 fun e1 w3 =>
  ∃ (r4 : Int), ∃ (r5 : Bool), ∃ (r6 : Int), e1 = .returned (.tuple #[.int .u64 r4, .bool r5, .int .i64 r6]) ∧
  IdxC r1p r1l 0 1 fun a2 =>
  LdI .u64 w3 a2 fun n2 =>
  NewC (.cells #[.int .u8 98] 5 (0, 0)) w3 fun b1 w4 =>
  RunS Tryz.prog (convert 28 28 (.slice (some (⟨b1, 0, none⟩)) 1 1)) w4 fun s1p s1l s1c w5 =>
  Calls Tryz.prog 15 #[.pointer r0, .int .u64 n2, .slice s1p s1l s1c] w5 fun e2 w6 =>
  ∃ (r7 : Int), ∃ (r8 : Bool), ∃ (r9 : Int), e2 = .returned (.tuple #[.int .u64 r7, .bool r8, .int .i64 r9]) ∧
  cond (r6 == 0)
  (cond (!r5)
  (cond (r9 == 0)
  (cond r8
  (IdxC r2p r2l 1 1 fun a3 =>
  LdI .u64 w6 a3 fun n3 =>
  R (.returned (.bool (r7 == n3))) w6)
  (R (.returned (.bool false)) w6))
  (R (.returned (.bool false)) w6))
  (R (.returned (.bool false)) w6))
  (R (.returned (.bool false)) w6))
def S_law13_awake_ann : Ann := (.seq .leaf (.seq .leaf (.seq .leaf (.seq .anyl .leaf))))
theorem S_law13_awake_eq (w : World) (R : Ending → World → Prop) : X Tryz.prog Tryz.f8.ntmps (bodyOf Tryz.f8) S_law13_awake_ann (argEnv 0 []) w (fun e w' => resK Tryz.prog Tryz.f8.results.toList e w' [] fun vs => R (.returned (pack vs)) w') (fun e w' => resK Tryz.prog Tryz.f8.results.toList e w' [] fun vs => R (.returned (pack vs)) w') (fun _ _ _ => False) = S_law13_awake w R := by kernel_rfl
theorem S_law13_awake_ok (w : World) (R : Ending → World → Prop) (h : S_law13_awake w R) : Calls Tryz.prog 8 #[] w R :=
  calls_of_X (an := S_law13_awake_ann) wide_ok Tryz.func8 (by kernel_rfl) (by kernel_rfl) (by rw [S_law13_awake_eq]; exact h)

def S_law13_ground_l0 (R : Ending → World → Prop) (r0 : Option Addr) (l0p : Option Addr) (l0l : Nat) (l0c : Nat) (r4 : Int) (x0p : Option Addr) (x0l : Nat) (x0c : Nat) (i1 : Int) (w8 : World) (I1 : Option Addr → Nat → Nat → Int → World → Prop) (M1 : Option Addr → Nat → Nat → Int → World → Nat) : Prop :=
  cond (decide (i1 < 5))
  (Calls Tryz.prog 37 #[.pointer r0, .int .i64 8, .int .i64 0, .int .i64 1] w8 fun e5 w9 =>
  ∃ (r7 : Int), ∃ (r8 : Int), e5 = .returned (.tuple #[.int .u64 r7, .int .i64 r8]) ∧
  cond (r8 != 0)
  (R (.returned (.tuple #[.pointer none, .slice none 0 0, .slice none 0 0, .bool false])) w9)
  (Calls Tryz.prog 38 #[.pointer r0, .int .u64 r4, .int .i64 i1, .int .u64 r7] w9 fun e6 w10 =>
  ∃ (r9 : Int), e6 = .returned (.int .i64 r9) ∧
  cond (r9 != 0)
  (R (.returned (.tuple #[.pointer none, .slice none 0 0, .slice none 0 0, .bool false])) w10)
  (Calls Tryz.prog 39 #[.pointer r0, .int .u64 r7, .int .i64 0, .int .u64 (IntKind.wrap .u64 i1)] w10 fun e7 w11 =>
  ∃ (r10 : Int), e7 = .returned (.int .i64 r10) ∧
  cond (r10 != 0)
  (R (.returned (.tuple #[.pointer none, .slice none 0 0, .slice none 0 0, .bool false])) w11)
  (NewC (.cells #[.int .u64 r7] 32 (0, 0)) w11 fun b1 w12 =>
  RunS Tryz.prog (Builtin.append_ #[25, 25] 25 #[.slice x0p x0l x0c, .slice (some (⟨b1, 0, none⟩)) 1 1]) w12 fun s1p s1l s1c w13 =>
  I1 s1p s1l s1c (IntKind.wrap .i64 (i1 + 1)) w13 ∧ M1 s1p s1l s1c (IntKind.wrap .i64 (i1 + 1)) w13 < M1 x0p x0l x0c i1 w8))))
  (R (.returned (.tuple #[.pointer r0, .slice l0p l0l l0c, .slice x0p x0l x0c, .bool true])) w8)
def S_law13_ground_l1 (trees0 : Int) (R : Ending → World → Prop) (r0 : Option Addr) (l0p : Option Addr) (l0l : Nat) (l0c : Nat) (i0 : Int) (w1 : World) (I0 : Option Addr → Nat → Nat → Int → World → Prop) (M0 : Option Addr → Nat → Nat → Int → World → Nat) : Prop :=
  cond (decide (i0 < trees0))
  (Calls Tryz.prog 35 #[.pointer r0] w1 fun e1 w2 =>
  ∃ (r1 : Int), ∃ (r2 : Int), e1 = .returned (.tuple #[.int .u64 r1, .int .i64 r2]) ∧
  cond (r2 != 0)
  (R (.returned (.tuple #[.pointer none, .slice none 0 0, .slice none 0 0, .bool false])) w2)
  (Calls Tryz.prog 36 #[.pointer r0, .int .i64 i0, .int .u64 r1] w2 fun e2 w3 =>
  ∃ (r3 : Int), e2 = .returned (.int .i64 r3) ∧
  cond (r3 != 0)
  (R (.returned (.tuple #[.pointer none, .slice none 0 0, .slice none 0 0, .bool false])) w3)
  (NewC (.cells #[.int .u64 r1] 32 (0, 0)) w3 fun b0 w4 =>
  RunS Tryz.prog (Builtin.append_ #[25, 25] 25 #[.slice l0p l0l l0c, .slice (some (⟨b0, 0, none⟩)) 1 1]) w4 fun s0p s0l s0c w5 =>
  I0 s0p s0l s0c (IntKind.wrap .i64 (i0 + 1)) w5 ∧ M0 s0p s0l s0c (IntKind.wrap .i64 (i0 + 1)) w5 < M0 l0p l0l l0c i0 w1)))
  (Calls Tryz.prog 37 #[.pointer r0, .int .i64 9, .int .i64 5, .int .i64 5] w1 fun e3 w6 =>
  ∃ (r4 : Int), ∃ (r5 : Int), e3 = .returned (.tuple #[.int .u64 r4, .int .i64 r5]) ∧
  cond (r5 != 0)
  (R (.returned (.tuple #[.pointer none, .slice none 0 0, .slice none 0 0, .bool false])) w6)
  (Calls Tryz.prog 36 #[.pointer r0, .int .i64 9, .int .u64 r4] w6 fun e4 w7 =>
  ∃ (r6 : Int), e4 = .returned (.int .i64 r6) ∧
  cond (r6 != 0)
  (R (.returned (.tuple #[.pointer none, .slice none 0 0, .slice none 0 0, .bool false])) w7)
  (∃ (I1 : Option Addr → Nat → Nat → Int → World → Prop) (M1 : Option Addr → Nat → Nat → Int → World → Nat), I1 none 0 0 0 w7 ∧
  ∀ (x0p : Option Addr) (x0l : Nat) (x0c : Nat) (i1 : Int) (w8 : World), I1 x0p x0l x0c i1 w8 →
  S_law13_ground_l0 R r0 l0p l0l l0c r4 x0p x0l x0c i1 w8 I1 M1)))
def S_law13_ground (words0 : Int) (slots0 : Int) (trees0 : Int) (w : World) (R : Ending → World → Prop) : Prop :=
  Calls Tryz.prog 34 #[.int .i64 words0, .int .i64 slots0] w fun e0 w0 =>
  ∃ (r0 : Option Addr), e0 = .returned (.pointer r0) ∧
  cond r0.isNone
  (R (.returned (.tuple #[.pointer none, .slice none 0 0, .slice none 0 0, .bool false])) w0)
  (∃ (I0 : Option Addr → Nat → Nat → Int → World → Prop) (M0 : Option Addr → Nat → Nat → Int → World → Nat), I0 none 0 0 0 w0 ∧
  ∀ (l0p : Option Addr) (l0l : Nat) (l0c : Nat) (i0 : Int) (w1 : World), I0 l0p l0l l0c i0 w1 →
  S_law13_ground_l1 trees0 R r0 l0p l0l l0c i0 w1 I0 M0)
def S_law13_ground_ann : Ann := (.seq .leaf (.seq .leaf (.seq .leaf (.seq .leaf (.seq (.seq .leaf (.block (.loop [2, 10] [(11, .slice), (12, (.int .i64))] .leaf))) (.seq .leaf (.seq .leaf (.seq .leaf (.seq (.seq .leaf (.block (.loop [10, 11, 15] [(17, .slice), (18, (.int .i64))] .leaf))) .leaf)))))))))
theorem S_law13_ground_eq (words0 : Int) (slots0 : Int) (trees0 : Int) (w : World) (R : Ending → World → Prop) : X Tryz.prog Tryz.f9.ntmps (bodyOf Tryz.f9) S_law13_ground_ann (argEnv 0 [.int .i64 words0, .int .i64 slots0, .int .i64 trees0]) w (fun e w' => resK Tryz.prog Tryz.f9.results.toList e w' [] fun vs => R (.returned (pack vs)) w') (fun e w' => resK Tryz.prog Tryz.f9.results.toList e w' [] fun vs => R (.returned (pack vs)) w') (fun _ _ _ => False) = S_law13_ground words0 slots0 trees0 w R := by kernel_rfl
theorem S_law13_ground_ok (words0 : Int) (slots0 : Int) (trees0 : Int) (w : World) (R : Ending → World → Prop) (h : S_law13_ground words0 slots0 trees0 w R) : Calls Tryz.prog 9 #[.int .i64 words0, .int .i64 slots0, .int .i64 trees0] w R :=
  calls_of_X (an := S_law13_ground_ann) wide_ok Tryz.func9 (by kernel_rfl) (by kernel_rfl) (by rw [S_law13_ground_eq]; exact h)

def S_law9_Fresh (words0 : Int) (slots0 : Int) (w : World) (R : Ending → World → Prop) : Prop :=
  Calls Tryz.prog 84 #[.int .i64 words0, .int .i64 slots0] w fun e0 w0 =>
  ∃ (r0 : Option Addr), ∃ (r1 : Int), e0 = .returned (.tuple #[.pointer r0, .int .i64 r1]) ∧
  cond (r1 != 0)
  (R (.returned (.pointer none)) w0)
  (R (.returned (.pointer r0)) w0)
def S_law9_Fresh_ann : Ann := .leaf
theorem S_law9_Fresh_eq (words0 : Int) (slots0 : Int) (w : World) (R : Ending → World → Prop) : X Tryz.prog Tryz.f34.ntmps (bodyOf Tryz.f34) S_law9_Fresh_ann (argEnv 0 [.int .i64 words0, .int .i64 slots0]) w (fun e w' => resK Tryz.prog Tryz.f34.results.toList e w' [] fun vs => R (.returned (pack vs)) w') (fun e w' => resK Tryz.prog Tryz.f34.results.toList e w' [] fun vs => R (.returned (pack vs)) w') (fun _ _ _ => False) = S_law9_Fresh words0 slots0 w R := by kernel_rfl
theorem S_law9_Fresh_ok (words0 : Int) (slots0 : Int) (w : World) (R : Ending → World → Prop) (h : S_law9_Fresh words0 slots0 w R) : Calls Tryz.prog 34 #[.int .i64 words0, .int .i64 slots0] w R :=
  calls_of_X (an := S_law9_Fresh_ann) wide_ok Tryz.func34 (by kernel_rfl) (by kernel_rfl) (by rw [S_law9_Fresh_eq]; exact h)


end Go.Proofs.YtpicofkhioalkaaGreat
