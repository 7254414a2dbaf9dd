/- The second reading of functions of this seat's program, written out by a program (gen.py). -/
import Derived.Test.YtdfdmboljidhnaaG
import Derived.KernelRfl
namespace Go.Proofs.Ytdfdmboljidhnaa
open Go Go.Lw

def S_law11_SlideKnown_l0 (r5 : Option Addr) (k0 : World → Prop) (n0 : Int) (w13 : World) (I0 : Int → World → Prop) (M0 : Int → World → Nat) : Prop :=
  cond (decide (n0 < 9))
  (Calls Try.prog 14 #[.pointer r5] w13 fun e13 w14 =>
  ∃ (r21 : Int), e13 = .returned (.int .i64 r21) ∧
  cond (r21 != 0)
  (Calls Try.prog 13 #[.pointer r5, .int .i64 9] w14 fun e14 w15 =>
  ∃ (r22 : Bool), ∃ (r23 : Int), e14 = .returned (.tuple #[.bool r22, .int .i64 r23]) ∧
  I0 (IntKind.wrap .i64 (n0 + 1)) w15 ∧ M0 (IntKind.wrap .i64 (n0 + 1)) w15 < M0 n0 w13)
  (k0 w14))
  (k0 w13)
def S_law11_SlideKnown_j0 (R : Ending → World → Prop) (r5 : Option Addr) (r7 : Int) (r8 : Int) (r10 : Int) (r13 : Int) (r14 : Int) (r15 : Bool) (r16 : Int) (r17 : Int) (r19 : Int) (r20 : Int) (w16 : World) : Prop :=
  cond (r7 == 16)
  (cond (r8 == 0)
  (cond (r10 == 0)
  (cond (r13 == 6)
  (cond (r14 == 0)
  (cond (!r15)
  (cond (r16 == 0)
  (cond (r17 == 1)
  (cond (r19 == 1)
  (cond (r20 == 16)
  (Calls Try.prog 19 #[.pointer r5] w16 fun e15 w17 =>
  ∃ (r24 : Int), e15 = .returned (.int .i64 r24) ∧
  cond (r24 == 2)
  (Calls Try.prog 20 #[.pointer r5] w17 fun e16 w18 =>
  ∃ (r25 : Int), e16 = .returned (.int .i64 r25) ∧
  R (.returned (.bool (r25 == 1))) w18)
  (R (.returned (.bool false)) w17))
  (R (.returned (.bool false)) w16))
  (R (.returned (.bool false)) w16))
  (R (.returned (.bool false)) w16))
  (R (.returned (.bool false)) w16))
  (R (.returned (.bool false)) w16))
  (R (.returned (.bool false)) w16))
  (R (.returned (.bool false)) w16))
  (R (.returned (.bool false)) w16))
  (R (.returned (.bool false)) w16))
  (R (.returned (.bool false)) w16)
def S_law11_SlideKnown (w : World) (R : Ending → World → Prop) : Prop :=
  Calls Try.prog 10 #[] w fun e0 w0 =>
  ∃ (r0 : Bool), e0 = .returned (.bool r0) ∧
  cond (!r0)
  (R (.returned (.bool false)) w0)
  (Calls Try.prog 11 #[] w0 fun e1 w1 =>
  ∃ (r1 : Option Addr), ∃ (r2 : Int), ∃ (r3 : Int), ∃ (r4 : Bool), e1 = .returned (.tuple #[.pointer r1, .int .u64 r2, .int .u64 r3, .bool r4]) ∧
  Calls Try.prog 12 #[.pointer r1] w1 fun e2 w2 =>
  ∃ (r5 : Option Addr), e2 = .returned (.pointer r5) ∧
  Calls Try.prog 13 #[.pointer r5, .int .i64 1] w2 fun e3 w3 =>
  ∃ (r6 : Bool), ∃ (r7 : Int), e3 = .returned (.tuple #[.bool r6, .int .i64 r7]) ∧
  Calls Try.prog 14 #[.pointer r5] w3 fun e4 w4 =>
  ∃ (r8 : Int), e4 = .returned (.int .i64 r8) ∧
  Calls Try.prog 15 #[.pointer r5] w4 fun e5 w5 =>
  ∃ (r9 : Int), ∃ (r10 : Int), e5 = .returned (.tuple #[.int .i64 r9, .int .i64 r10]) ∧
  Calls Try.prog 16 #[.pointer r1] w5 fun e6 w6 =>
  ∃ (r11 : Option Addr), e6 = .returned (.pointer r11) ∧
  Calls Try.prog 17 #[.pointer r11, .int .u64 r3] w6 fun e7 w7 =>
  ∃ (r12 : Int), ∃ (r13 : Int), e7 = .returned (.tuple #[.int .i64 r12, .int .i64 r13]) ∧
  Calls Try.prog 18 #[.pointer r5] w7 fun e8 w8 =>
  ∃ (r14 : Int), e8 = .returned (.int .i64 r14) ∧
  Calls Try.prog 13 #[.pointer r5, .int .i64 1] w8 fun e9 w9 =>
  ∃ (r15 : Bool), ∃ (r16 : Int), e9 = .returned (.tuple #[.bool r15, .int .i64 r16]) ∧
  Calls Try.prog 14 #[.pointer r5] w9 fun e10 w10 =>
  ∃ (r17 : Int), e10 = .returned (.int .i64 r17) ∧
  Calls Try.prog 13 #[.pointer r5, .int .i64 0] w10 fun e11 w11 =>
  ∃ (r18 : Bool), ∃ (r19 : Int), e11 = .returned (.tuple #[.bool r18, .int .i64 r19]) ∧
  Calls Try.prog 18 #[.pointer r5] w11 fun e12 w12 =>
  ∃ (r20 : Int), e12 = .returned (.int .i64 r20) ∧
  ∀ k0 : World → Prop,
  (∀ (w16 : World), S_law11_SlideKnown_j0 R r5 r7 r8 r10 r13 r14 r15 r16 r17 r19 r20 w16 → k0 w16) →
  ∃ (I0 : Int → World → Prop) (M0 : Int → World → Nat), I0 0 w12 ∧
  ∀ (n0 : Int) (w13 : World), I0 n0 w13 →
  S_law11_SlideKnown_l0 r5 k0 n0 w13 I0 M0)
def S_law11_SlideKnown_ann : Ann := (.seq .leaf (.seq .leaf (.seq .leaf (.seq .leaf (.seq .leaf (.seq .leaf (.seq .leaf (.seq .leaf (.seq .leaf (.seq .leaf (.seq .leaf (.seq .leaf (.seq .leaf (.seq (.seq .leaf (.jblock [5, 7, 8, 10, 12, 13, 14, 15, 16, 18, 19] [] (.loop [5, 7, 8, 10, 12, 13, 14, 15, 16, 18, 19] [(20, (.int .i64))] .leaf) .leaf)) .leaf))))))))))))))
theorem S_law11_SlideKnown_eq (w : World) (R : Ending → World → Prop) : X Try.prog Try.f3.ntmps (bodyOf Try.f3) S_law11_SlideKnown_ann (argEnv 0 []) w (fun e w' => resK Try.prog Try.f3.results.toList e w' [] fun vs => R (.returned (pack vs)) w') (fun e w' => resK Try.prog Try.f3.results.toList e w' [] fun vs => R (.returned (pack vs)) w') (fun _ _ _ => False) = S_law11_SlideKnown w R := by kernel_rfl
theorem S_law11_SlideKnown_ok (w : World) (R : Ending → World → Prop) (h : S_law11_SlideKnown w R) : Calls Try.prog 3 #[] w R :=
  calls_of_X (an := S_law11_SlideKnown_ann) wide_ok Try.func3 (by kernel_rfl) (by kernel_rfl) (by rw [S_law11_SlideKnown_eq]; exact h)

def S_law11_SlideSteps_j0 (R : Ending → World → Prop) (r1 : Option Addr) (b0 : Nat) (r41 : Option Addr) (done0 : Bool) (k1 : Int) (w11 : World) (I0 : Bool → Int → World → Prop) (M0 : Bool → Int → World → Nat) (n1 : Int) (w12 : World) : Prop :=
  Calls Try.prog 13 #[.pointer r41, .int .i64 n1] w12 fun e7 w13 =>
  ∃ (r46 : Bool), ∃ (r47 : Int), e7 = .returned (.tuple #[.bool r46, .int .i64 r47]) ∧
  ∃ C0 : World → Prop, C0 (World.drew w13) ∧
  cond (r47 != 0)
  (R (.returned (.bool false)) (World.drew w13))
  (∃ (s0p : Option Addr), ∃ (s0l : Nat), ∃ (s0c : Nat), ∃ (n2 : Int), ∃ (n3 : Int), ∃ (n4 : Int), ∃ (n5 : Int), ∃ (n6 : Int), ∃ (n7 : Int), ∃ (n8 : Int), ∃ (n9 : Int), ∃ (n10 : Int), ∃ (n11 : Int), ∃ (n12 : Int), ∃ (n13 : Int), ∃ (n14 : Int), ∃ (n15 : Int), ∃ (n16 : Int), ∃ (n17 : Int), (∀ (w14 : World), C0 w14 →
  Ld_tidemarkref9_Heap w14 (⟨b0, 0, none⟩) fun s1p s1l s1c n18 n19 n20 n21 n22 n23 n24 n25 n26 n27 n28 n29 n30 n31 n32 n33 =>
  Value.agg #[.slice s1p s1l s1c, .int .u64 n18, .int .u64 n19, .int .u64 n20, .int .u64 n21, .int .u64 n22, .int .u64 n23, .int .u64 n24, .int .u64 n25, .int .u64 n26, .int .u64 n27, .int .u64 n28, .int .u64 n29, .int .u64 n30, .int .u64 n31, .int .u64 n32, .int .u64 n33] = .agg #[.slice s0p s0l s0c, .int .u64 n2, .int .u64 n3, .int .u64 n4, .int .u64 n5, .int .u64 n6, .int .u64 n7, .int .u64 n8, .int .u64 n9, .int .u64 n10, .int .u64 n11, .int .u64 n12, .int .u64 n13, .int .u64 n14, .int .u64 n15, .int .u64 n16, .int .u64 n17]) ∧
  Calls Try.prog 23 #[.pointer r1] (World.drew w13) fun e8 w15 =>
  ∃ (r48p : Option Addr), ∃ (r48l : Nat), ∃ (r48c : Nat), ∃ (r49p : Option Addr), ∃ (r49l : Nat), ∃ (r49c : Nat), e8 = .returned (.agg #[.slice r48p r48l r48c, .slice r49p r49l r49c]) ∧
  C0 w15 ∧
  Calls Try.prog 22 #[.agg #[.slice r48p r48l r48c, .slice r49p r49l r49c], .agg #[.slice s0p s0l s0c, .int .u64 n2, .int .u64 n3, .int .u64 n4, .int .u64 n5, .int .u64 n6, .int .u64 n7, .int .u64 n8, .int .u64 n9, .int .u64 n10, .int .u64 n11, .int .u64 n12, .int .u64 n13, .int .u64 n14, .int .u64 n15, .int .u64 n16, .int .u64 n17]] w15 fun e9 w16 =>
  ∃ (r50 : Int), e9 = .returned (.int .i64 r50) ∧
  cond (r50 != 0)
  (R (.returned (.bool false)) w16)
  (I0 r46 (IntKind.wrap .i64 (k1 + 1)) w16 ∧ M0 r46 (IntKind.wrap .i64 (k1 + 1)) w16 < M0 done0 k1 w11))
def S_law11_SlideSteps_l0 (steps0p : Option Addr) (steps0l : Nat) (R : Ending → World → Prop) (r1 : Option Addr) (r19l : Nat) (b0 : Nat) (r41 : Option Addr) (k0 : Bool → World → Prop) (done0 : Bool) (k1 : Int) (w11 : World) (I0 : Bool → Int → World → Prop) (M0 : Bool → Int → World → Nat) : Prop :=
  cond (decide (k1 < (IntKind.wrap .i64 ((IntKind.wrap .i64 (2 * (Nat.cast r19l : Int))) + 3))))
  (cond (!done0)
  (∀ k2 : Int → World → Prop,
  (∀ (n1 : Int) (w12 : World), S_law11_SlideSteps_j0 R r1 b0 r41 done0 k1 w11 I0 M0 n1 w12 → k2 n1 w12) →
  cond (decide ((Nat.cast steps0l : Int) > 0))
  (DivC (Nat.cast steps0l : Int)
  (IdxC steps0p steps0l (Int.tmod k1 (Nat.cast steps0l : Int)) 1 fun a0 =>
  LdI .i64 w11 a0 fun n0 =>
  k2 (IntKind.wrap .i64 (1 + (bAnd .i64 n0 7))) w11))
  (k2 1 w11))
  (k0 done0 w11))
  (k0 done0 w11)
def S_law11_SlideSteps_l1 (R : Ending → World → Prop) (r1 : Option Addr) (r19p : Option Addr) (r19l : Nat) (r21 : Option Addr) (i0 : Int) (w24 : World) (I1 : Int → World → Prop) (M1 : Int → World → Nat) : Prop :=
  cond (decide (i0 < (Nat.cast r19l : Int)))
  (∃ C1 : World → Prop, C1 (World.drew w24) ∧
  IdxC r19p r19l i0 1 fun a1 =>
  LdIQ .u64 C1 a1 fun n34 =>
  Calls Try.prog 16 #[.pointer r1] (World.drew w24) fun e16 w25 =>
  ∃ (r57 : Option Addr), e16 = .returned (.pointer r57) ∧
  C1 w25 ∧
  Calls Try.prog 17 #[.pointer r57, .int .u64 n34] w25 fun e17 w26 =>
  ∃ (r58 : Int), ∃ (r59 : Int), e17 = .returned (.tuple #[.int .i64 r58, .int .i64 r59]) ∧
  ∃ C2 : World → Prop, C2 (World.drew w26) ∧
  IdxC r19p r19l i0 1 fun a2 =>
  LdIQ .u64 C2 a2 fun n35 =>
  Calls Try.prog 16 #[.pointer r21] (World.drew w26) fun e18 w27 =>
  ∃ (r60 : Option Addr), e18 = .returned (.pointer r60) ∧
  C2 w27 ∧
  Calls Try.prog 17 #[.pointer r60, .int .u64 n35] w27 fun e19 w28 =>
  ∃ (r61 : Int), ∃ (r62 : Int), e19 = .returned (.tuple #[.int .i64 r61, .int .i64 r62]) ∧
  cond (r59 != r62)
  (R (.returned (.bool false)) w28)
  (cond (r58 != r61)
  (R (.returned (.bool false)) w28)
  (I1 (IntKind.wrap .i64 (i0 + 1)) w28 ∧ M1 (IntKind.wrap .i64 (i0 + 1)) w28 < M1 i0 w24)))
  (R (.returned (.bool true)) w24)
def S_law11_SlideSteps_j1 (R : Ending → World → Prop) (r1 : Option Addr) (r19p : Option Addr) (r19l : Nat) (r21 : Option Addr) (r41 : Option Addr) (r42 : Option Addr) (done1 : Bool) (w17 : World) : Prop :=
  cond (!done1)
  (R (.returned (.bool false)) w17)
  (Calls Try.prog 24 #[.pointer r1] w17 fun e10 w18 =>
  ∃ (r51 : Option Addr), e10 = .returned (.pointer r51) ∧
  Calls Try.prog 25 #[.pointer r51] w18 fun e11 w19 =>
  ∃ (r52 : Int), e11 = .returned (.int .i64 r52) ∧
  Calls Try.prog 24 #[.pointer r21] w19 fun e12 w20 =>
  ∃ (r53 : Option Addr), e12 = .returned (.pointer r53) ∧
  Calls Try.prog 25 #[.pointer r53] w20 fun e13 w21 =>
  ∃ (r54 : Int), e13 = .returned (.int .i64 r54) ∧
  cond (r52 != r54)
  (R (.returned (.bool false)) w21)
  (Calls Try.prog 20 #[.pointer r41] w21 fun e14 w22 =>
  ∃ (r55 : Int), e14 = .returned (.int .i64 r55) ∧
  Calls Try.prog 20 #[.pointer r42] w22 fun e15 w23 =>
  ∃ (r56 : Int), e15 = .returned (.int .i64 r56) ∧
  cond (r55 != r56)
  (R (.returned (.bool false)) w23)
  (∃ (I1 : Int → World → Prop) (M1 : Int → World → Nat), I1 0 w23 ∧
  ∀ (i0 : Int) (w24 : World), I1 i0 w24 →
  S_law11_SlideSteps_l1 R r1 r19p r19l r21 i0 w24 I1 M1)))
def S_law11_SlideSteps (l0p : Option Addr) (l0l : Nat) (l0c : Nat) (steps0p : Option Addr) (steps0l : Nat) (steps0c : Nat) (w : World) (R : Ending → World → Prop) : Prop :=
  Calls Try.prog 10 #[] w fun e0 w0 =>
  ∃ (r0 : Bool), e0 = .returned (.bool r0) ∧
  cond (!r0)
  (R (.returned (.bool false)) w0)
  (cond (decide ((Nat.cast l0l : Int) > 300))
  (R (.returned (.bool true)) w0)
  (Calls Try.prog 21 #[.slice l0p l0l l0c] w0 fun e1 w1 =>
  ∃ (r1 : Option Addr), ∃ (r2p : Option Addr), ∃ (r2l : Nat), ∃ (r2c : Nat), ∃ (r3 : Int), ∃ (r4 : Int), ∃ (r5 : Int), ∃ (r6 : Int), ∃ (r7 : Int), ∃ (r8 : Int), ∃ (r9 : Int), ∃ (r10 : Int), ∃ (r11 : Int), ∃ (r12 : Int), ∃ (r13 : Int), ∃ (r14 : Int), ∃ (r15 : Int), ∃ (r16 : Int), ∃ (r17 : Int), ∃ (r18 : Int), ∃ (r19p : Option Addr), ∃ (r19l : Nat), ∃ (r19c : Nat), ∃ (r20 : Bool), e1 = .returned (.tuple #[.pointer r1, .agg #[.slice r2p r2l r2c, .int .u64 r3, .int .u64 r4, .int .u64 r5, .int .u64 r6, .int .u64 r7, .int .u64 r8, .int .u64 r9, .int .u64 r10, .int .u64 r11, .int .u64 r12, .int .u64 r13, .int .u64 r14, .int .u64 r15, .int .u64 r16, .int .u64 r17, .int .u64 r18], .slice r19p r19l r19c, .bool r20]) ∧
  NewC (.cells #[.slice none 0 0, .int .u64 0, .int .u64 0, .int .u64 0, .int .u64 0, .int .u64 0, .int .u64 0, .int .u64 0, .int .u64 0, .int .u64 0, .int .u64 0, .int .u64 0, .int .u64 0, .int .u64 0, .int .u64 0, .int .u64 0, .int .u64 0] 44 (0, 0)) w1 fun b0 w2 =>
  St_tidemarkref9_Heap w2 (⟨b0, 0, none⟩) r2p r2l r2c r3 r4 r5 r6 r7 r8 r9 r10 r11 r12 r13 r14 r15 r16 r17 r18 fun w3 =>
  Calls Try.prog 21 #[.slice l0p l0l l0c] w3 fun e2 w4 =>
  ∃ (r21 : Option Addr), ∃ (r22p : Option Addr), ∃ (r22l : Nat), ∃ (r22c : Nat), ∃ (r23 : Int), ∃ (r24 : Int), ∃ (r25 : Int), ∃ (r26 : Int), ∃ (r27 : Int), ∃ (r28 : Int), ∃ (r29 : Int), ∃ (r30 : Int), ∃ (r31 : Int), ∃ (r32 : Int), ∃ (r33 : Int), ∃ (r34 : Int), ∃ (r35 : Int), ∃ (r36 : Int), ∃ (r37 : Int), ∃ (r38 : Int), ∃ (r39p : Option Addr), ∃ (r39l : Nat), ∃ (r39c : Nat), ∃ (r40 : Bool), e2 = .returned (.tuple #[.pointer r21, .agg #[.slice r22p r22l r22c, .int .u64 r23, .int .u64 r24, .int .u64 r25, .int .u64 r26, .int .u64 r27, .int .u64 r28, .int .u64 r29, .int .u64 r30, .int .u64 r31, .int .u64 r32, .int .u64 r33, .int .u64 r34, .int .u64 r35, .int .u64 r36, .int .u64 r37, .int .u64 r38], .slice r39p r39l r39c, .bool r40]) ∧
  NewC (.cells #[.slice none 0 0, .int .u64 0, .int .u64 0, .int .u64 0, .int .u64 0, .int .u64 0, .int .u64 0, .int .u64 0, .int .u64 0, .int .u64 0, .int .u64 0, .int .u64 0, .int .u64 0, .int .u64 0, .int .u64 0, .int .u64 0, .int .u64 0] 44 (0, 0)) w4 fun b1 w5 =>
  St_tidemarkref9_Heap w5 (⟨b1, 0, none⟩) r22p r22l r22c r23 r24 r25 r26 r27 r28 r29 r30 r31 r32 r33 r34 r35 r36 r37 r38 fun w6 =>
  cond (!r20)
  (R (.returned (.bool false)) w6)
  (cond (!r40)
  (R (.returned (.bool false)) w6)
  (Calls Try.prog 12 #[.pointer r1] w6 fun e3 w7 =>
  ∃ (r41 : Option Addr), e3 = .returned (.pointer r41) ∧
  Calls Try.prog 12 #[.pointer r21] w7 fun e4 w8 =>
  ∃ (r42 : Option Addr), e4 = .returned (.pointer r42) ∧
  Calls Try.prog 15 #[.pointer r42] w8 fun e5 w9 =>
  ∃ (r43 : Int), ∃ (r44 : Int), e5 = .returned (.tuple #[.int .i64 r43, .int .i64 r44]) ∧
  cond (r44 != 0)
  (R (.returned (.bool false)) w9)
  (Calls Try.prog 18 #[.pointer r41] w9 fun e6 w10 =>
  ∃ (r45 : Int), e6 = .returned (.int .i64 r45) ∧
  cond (r45 != 0)
  (R (.returned (.bool false)) w10)
  (∀ k0 : Bool → World → Prop,
  (∀ (done1 : Bool) (w17 : World), S_law11_SlideSteps_j1 R r1 r19p r19l r21 r41 r42 done1 w17 → k0 done1 w17) →
  ∃ (I0 : Bool → Int → World → Prop) (M0 : Bool → Int → World → Nat), I0 false 0 w10 ∧
  ∀ (done0 : Bool) (k1 : Int) (w11 : World), I0 done0 k1 w11 →
  S_law11_SlideSteps_l0 steps0p steps0l R r1 r19l b0 r41 k0 done0 k1 w11 I0 M0))))))
def S_law11_SlideSteps_ann : Ann := (.seq .leaf (.seq .leaf (.seq .leaf (.seq .leaf (.seq .leaf (.seq .leaf (.seq .leaf (.seq .leaf (.seq .leaf (.seq .leaf (.seq .leaf (.seq .leaf (.seq (.seq .leaf (.jblock [5, 7, 9, 13, 14] [(17, .bool)] (.loop [1, 5, 6, 7, 9, 13, 14] [(17, .bool), (18, (.int .i64))] (.seq .leaf (.seq (.block (.seq .leaf (.join [1, 5, 6, 7, 9, 13, 14, 18] [(19, (.int .i64))] .leaf (.seq .leaf (.seq (.seq .anyt .leaf) .leaf))))) .leaf))) .leaf)) (.seq .leaf (.seq (.seq .leaf (.block (.loop [5, 7, 9] [(22, (.int .i64))] (.seq .leaf (.seq (.block (.seq .anyt (.seq .anyt .leaf))) .leaf))))) .leaf)))))))))))))))
theorem S_law11_SlideSteps_eq (l0p : Option Addr) (l0l : Nat) (l0c : Nat) (steps0p : Option Addr) (steps0l : Nat) (steps0c : Nat) (w : World) (R : Ending → World → Prop) : X Try.prog Try.f4.ntmps (bodyOf Try.f4) S_law11_SlideSteps_ann (argEnv 0 [.slice l0p l0l l0c, .slice steps0p steps0l steps0c]) w (fun e w' => resK Try.prog Try.f4.results.toList e w' [] fun vs => R (.returned (pack vs)) w') (fun e w' => resK Try.prog Try.f4.results.toList e w' [] fun vs => R (.returned (pack vs)) w') (fun _ _ _ => False) = S_law11_SlideSteps l0p l0l l0c steps0p steps0l steps0c w R := by kernel_rfl
theorem S_law11_SlideSteps_ok (l0p : Option Addr) (l0l : Nat) (l0c : Nat) (steps0p : Option Addr) (steps0l : Nat) (steps0c : Nat) (w : World) (R : Ending → World → Prop) (h : S_law11_SlideSteps l0p l0l l0c steps0p steps0l steps0c w R) : Calls Try.prog 4 #[.slice l0p l0l l0c, .slice steps0p steps0l steps0c] w R :=
  calls_of_X (an := S_law11_SlideSteps_ann) wide_ok Try.func4 (by kernel_rfl) (by kernel_rfl) (by rw [S_law11_SlideSteps_eq]; exact h)

def S_law11_SlideAgain_l0 (R : Ending → World → Prop) (r1 : Option Addr) (r19p : Option Addr) (r19l : Nat) (b0 : Nat) (i1 : Int) (w15 : World) (I1 : Int → World → Prop) (M1 : Int → World → Nat) : Prop :=
  cond (decide (i1 < (Nat.cast r19l : Int)))
  (∃ C0 : World → Prop, C0 (World.drew w15) ∧
  IdxC r19p r19l i1 1 fun a0 =>
  LdIQ .u64 C0 a0 fun n0 =>
  Calls Try.prog 16 #[.pointer r1] (World.drew w15) fun e12 w16 =>
  ∃ (r33 : Option Addr), e12 = .returned (.pointer r33) ∧
  C0 w16 ∧
  Calls Try.prog 17 #[.pointer r33, .int .u64 n0] w16 fun e13 w17 =>
  ∃ (r34 : Int), ∃ (r35 : Int), e13 = .returned (.tuple #[.int .i64 r34, .int .i64 r35]) ∧
  ∃ C1 : World → Prop, C1 (World.drew w17) ∧
  ∃ (s0p : Option Addr), ∃ (s0l : Nat), ∃ (s0c : Nat), ∃ (n1 : Int), ∃ (n2 : Int), ∃ (n3 : Int), ∃ (n4 : Int), ∃ (n5 : Int), ∃ (n6 : Int), ∃ (n7 : Int), ∃ (n8 : Int), ∃ (n9 : Int), ∃ (n10 : Int), ∃ (n11 : Int), ∃ (n12 : Int), ∃ (n13 : Int), ∃ (n14 : Int), ∃ (n15 : Int), ∃ (n16 : Int), (∀ (w18 : World), C1 w18 →
  Ld_tidemarkref9_Heap w18 (⟨b0, 0, none⟩) fun s1p s1l s1c n17 n18 n19 n20 n21 n22 n23 n24 n25 n26 n27 n28 n29 n30 n31 n32 =>
  Value.agg #[.slice s1p s1l s1c, .int .u64 n17, .int .u64 n18, .int .u64 n19, .int .u64 n20, .int .u64 n21, .int .u64 n22, .int .u64 n23, .int .u64 n24, .int .u64 n25, .int .u64 n26, .int .u64 n27, .int .u64 n28, .int .u64 n29, .int .u64 n30, .int .u64 n31, .int .u64 n32] = .agg #[.slice s0p s0l s0c, .int .u64 n1, .int .u64 n2, .int .u64 n3, .int .u64 n4, .int .u64 n5, .int .u64 n6, .int .u64 n7, .int .u64 n8, .int .u64 n9, .int .u64 n10, .int .u64 n11, .int .u64 n12, .int .u64 n13, .int .u64 n14, .int .u64 n15, .int .u64 n16]) ∧
  IdxC r19p r19l i1 1 fun a1 =>
  LdIQ .u64 C1 a1 fun n33 =>
  Calls Try.prog 26 #[.agg #[.slice s0p s0l s0c, .int .u64 n1, .int .u64 n2, .int .u64 n3, .int .u64 n4, .int .u64 n5, .int .u64 n6, .int .u64 n7, .int .u64 n8, .int .u64 n9, .int .u64 n10, .int .u64 n11, .int .u64 n12, .int .u64 n13, .int .u64 n14, .int .u64 n15, .int .u64 n16], .int .u64 n33] (World.drew w17) fun e14 w19 =>
  ∃ (r36 : Bool), e14 = .returned (.bool r36) ∧
  cond (!((r35 == 0) == r36))
  (R (.returned (.bool false)) w19)
  (I1 (IntKind.wrap .i64 (i1 + 1)) w19 ∧ M1 (IntKind.wrap .i64 (i1 + 1)) w19 < M1 i1 w15))
  (∃ C2 : World → Prop, C2 (World.drew w15) ∧
  ∃ (s2p : Option Addr), ∃ (s2l : Nat), ∃ (s2c : Nat), ∃ (n34 : Int), ∃ (n35 : Int), ∃ (n36 : Int), ∃ (n37 : Int), ∃ (n38 : Int), ∃ (n39 : Int), ∃ (n40 : Int), ∃ (n41 : Int), ∃ (n42 : Int), ∃ (n43 : Int), ∃ (n44 : Int), ∃ (n45 : Int), ∃ (n46 : Int), ∃ (n47 : Int), ∃ (n48 : Int), ∃ (n49 : Int), (∀ (w20 : World), C2 w20 →
  Ld_tidemarkref9_Heap w20 (⟨b0, 0, none⟩) fun s3p s3l s3c n50 n51 n52 n53 n54 n55 n56 n57 n58 n59 n60 n61 n62 n63 n64 n65 =>
  Value.agg #[.slice s3p s3l s3c, .int .u64 n50, .int .u64 n51, .int .u64 n52, .int .u64 n53, .int .u64 n54, .int .u64 n55, .int .u64 n56, .int .u64 n57, .int .u64 n58, .int .u64 n59, .int .u64 n60, .int .u64 n61, .int .u64 n62, .int .u64 n63, .int .u64 n64, .int .u64 n65] = .agg #[.slice s2p s2l s2c, .int .u64 n34, .int .u64 n35, .int .u64 n36, .int .u64 n37, .int .u64 n38, .int .u64 n39, .int .u64 n40, .int .u64 n41, .int .u64 n42, .int .u64 n43, .int .u64 n44, .int .u64 n45, .int .u64 n46, .int .u64 n47, .int .u64 n48, .int .u64 n49]) ∧
  Calls Try.prog 23 #[.pointer r1] (World.drew w15) fun e15 w21 =>
  ∃ (r37p : Option Addr), ∃ (r37l : Nat), ∃ (r37c : Nat), ∃ (r38p : Option Addr), ∃ (r38l : Nat), ∃ (r38c : Nat), e15 = .returned (.agg #[.slice r37p r37l r37c, .slice r38p r38l r38c]) ∧
  C2 w21 ∧
  Calls Try.prog 22 #[.agg #[.slice r37p r37l r37c, .slice r38p r38l r38c], .agg #[.slice s2p s2l s2c, .int .u64 n34, .int .u64 n35, .int .u64 n36, .int .u64 n37, .int .u64 n38, .int .u64 n39, .int .u64 n40, .int .u64 n41, .int .u64 n42, .int .u64 n43, .int .u64 n44, .int .u64 n45, .int .u64 n46, .int .u64 n47, .int .u64 n48, .int .u64 n49]] w21 fun e16 w22 =>
  ∃ (r39 : Int), e16 = .returned (.int .i64 r39) ∧
  R (.returned (.bool (r39 == 0))) w22)
def S_law11_SlideAgain_l1 (times0 : Int) (R : Ending → World → Prop) (r1 : Option Addr) (r19p : Option Addr) (r19l : Nat) (b0 : Nat) (r21 : Option Addr) (r24 : Int) (r26 : Int) (i0 : Int) (w9 : World) (I0 : Int → World → Prop) (M0 : Int → World → Nat) : Prop :=
  cond (decide (i0 < (IntKind.wrap .i64 (1 + (bAnd .i64 times0 3)))))
  (Calls Try.prog 15 #[.pointer r21] w9 fun e7 w10 =>
  ∃ (r27 : Int), ∃ (r28 : Int), e7 = .returned (.tuple #[.int .i64 r27, .int .i64 r28]) ∧
  cond (r28 != 0)
  (R (.returned (.bool false)) w10)
  (cond (r27 != 0)
  (R (.returned (.bool false)) w10)
  (Calls Try.prog 20 #[.pointer r21] w10 fun e8 w11 =>
  ∃ (r29 : Int), e8 = .returned (.int .i64 r29) ∧
  cond (r29 != r24)
  (R (.returned (.bool false)) w11)
  (Calls Try.prog 19 #[.pointer r21] w11 fun e9 w12 =>
  ∃ (r30 : Int), e9 = .returned (.int .i64 r30) ∧
  cond (r30 != (IntKind.wrap .i64 (2 + i0)))
  (R (.returned (.bool false)) w12)
  (Calls Try.prog 24 #[.pointer r1] w12 fun e10 w13 =>
  ∃ (r31 : Option Addr), e10 = .returned (.pointer r31) ∧
  Calls Try.prog 25 #[.pointer r31] w13 fun e11 w14 =>
  ∃ (r32 : Int), e11 = .returned (.int .i64 r32) ∧
  cond (r32 != r26)
  (R (.returned (.bool false)) w14)
  (I0 (IntKind.wrap .i64 (i0 + 1)) w14 ∧ M0 (IntKind.wrap .i64 (i0 + 1)) w14 < M0 i0 w9))))))
  (∃ (I1 : Int → World → Prop) (M1 : Int → World → Nat), I1 0 w9 ∧
  ∀ (i1 : Int) (w15 : World), I1 i1 w15 →
  S_law11_SlideAgain_l0 R r1 r19p r19l b0 i1 w15 I1 M1)
def S_law11_SlideAgain (l0p : Option Addr) (l0l : Nat) (l0c : Nat) (times0 : Int) (w : World) (R : Ending → World → Prop) : Prop :=
  Calls Try.prog 10 #[] w fun e0 w0 =>
  ∃ (r0 : Bool), e0 = .returned (.bool r0) ∧
  cond (!r0)
  (R (.returned (.bool false)) w0)
  (cond (decide ((Nat.cast l0l : Int) > 300))
  (R (.returned (.bool true)) w0)
  (Calls Try.prog 21 #[.slice l0p l0l l0c] w0 fun e1 w1 =>
  ∃ (r1 : Option Addr), ∃ (r2p : Option Addr), ∃ (r2l : Nat), ∃ (r2c : Nat), ∃ (r3 : Int), ∃ (r4 : Int), ∃ (r5 : Int), ∃ (r6 : Int), ∃ (r7 : Int), ∃ (r8 : Int), ∃ (r9 : Int), ∃ (r10 : Int), ∃ (r11 : Int), ∃ (r12 : Int), ∃ (r13 : Int), ∃ (r14 : Int), ∃ (r15 : Int), ∃ (r16 : Int), ∃ (r17 : Int), ∃ (r18 : Int), ∃ (r19p : Option Addr), ∃ (r19l : Nat), ∃ (r19c : Nat), ∃ (r20 : Bool), e1 = .returned (.tuple #[.pointer r1, .agg #[.slice r2p r2l r2c, .int .u64 r3, .int .u64 r4, .int .u64 r5, .int .u64 r6, .int .u64 r7, .int .u64 r8, .int .u64 r9, .int .u64 r10, .int .u64 r11, .int .u64 r12, .int .u64 r13, .int .u64 r14, .int .u64 r15, .int .u64 r16, .int .u64 r17, .int .u64 r18], .slice r19p r19l r19c, .bool r20]) ∧
  NewC (.cells #[.slice none 0 0, .int .u64 0, .int .u64 0, .int .u64 0, .int .u64 0, .int .u64 0, .int .u64 0, .int .u64 0, .int .u64 0, .int .u64 0, .int .u64 0, .int .u64 0, .int .u64 0, .int .u64 0, .int .u64 0, .int .u64 0, .int .u64 0] 44 (0, 0)) w1 fun b0 w2 =>
  St_tidemarkref9_Heap w2 (⟨b0, 0, none⟩) r2p r2l r2c r3 r4 r5 r6 r7 r8 r9 r10 r11 r12 r13 r14 r15 r16 r17 r18 fun w3 =>
  cond (!r20)
  (R (.returned (.bool false)) w3)
  (Calls Try.prog 12 #[.pointer r1] w3 fun e2 w4 =>
  ∃ (r21 : Option Addr), e2 = .returned (.pointer r21) ∧
  Calls Try.prog 15 #[.pointer r21] w4 fun e3 w5 =>
  ∃ (r22 : Int), ∃ (r23 : Int), e3 = .returned (.tuple #[.int .i64 r22, .int .i64 r23]) ∧
  cond (r23 != 0)
  (R (.returned (.bool false)) w5)
  (Calls Try.prog 20 #[.pointer r21] w5 fun e4 w6 =>
  ∃ (r24 : Int), e4 = .returned (.int .i64 r24) ∧
  Calls Try.prog 24 #[.pointer r1] w6 fun e5 w7 =>
  ∃ (r25 : Option Addr), e5 = .returned (.pointer r25) ∧
  Calls Try.prog 25 #[.pointer r25] w7 fun e6 w8 =>
  ∃ (r26 : Int), e6 = .returned (.int .i64 r26) ∧
  ∃ (I0 : Int → World → Prop) (M0 : Int → World → Nat), I0 0 w8 ∧
  ∀ (i0 : Int) (w9 : World), I0 i0 w9 →
  S_law11_SlideAgain_l1 times0 R r1 r19p r19l b0 r21 r24 r26 i0 w9 I0 M0))))
def S_law11_SlideAgain_ann : Ann := (.seq .leaf (.seq .leaf (.seq .leaf (.seq .leaf (.seq .leaf (.seq .leaf (.seq .leaf (.seq .leaf (.seq .leaf (.seq .leaf (.seq (.seq .leaf (.block (.loop [1, 5, 6, 7, 9, 12, 13] [(14, (.int .i64))] .leaf))) (.seq (.seq .leaf (.block (.loop [5, 6, 7] [(17, (.int .i64))] (.seq .leaf (.seq (.block (.seq .anyt (.seq .anyt .leaf))) .leaf))))) (.seq .anyt .leaf)))))))))))))
theorem S_law11_SlideAgain_eq (l0p : Option Addr) (l0l : Nat) (l0c : Nat) (times0 : Int) (w : World) (R : Ending → World → Prop) : X Try.prog Try.f5.ntmps (bodyOf Try.f5) S_law11_SlideAgain_ann (argEnv 0 [.slice l0p l0l l0c, .int .i64 times0]) w (fun e w' => resK Try.prog Try.f5.results.toList e w' [] fun vs => R (.returned (pack vs)) w') (fun e w' => resK Try.prog Try.f5.results.toList e w' [] fun vs => R (.returned (pack vs)) w') (fun _ _ _ => False) = S_law11_SlideAgain l0p l0l l0c times0 w R := by kernel_rfl
theorem S_law11_SlideAgain_ok (l0p : Option Addr) (l0l : Nat) (l0c : Nat) (times0 : Int) (w : World) (R : Ending → World → Prop) (h : S_law11_SlideAgain l0p l0l l0c times0 w R) : Calls Try.prog 5 #[.slice l0p l0l l0c, .int .i64 times0] w R :=
  calls_of_X (an := S_law11_SlideAgain_ann) wide_ok Try.func5 (by kernel_rfl) (by kernel_rfl) (by rw [S_law11_SlideAgain_eq]; exact h)

def S_law11_SlideRoom_j0 (R : Ending → World → Prop) (r1 : Option Addr) (r3 : Int) (i0 : Int) (k0 : World → Prop) (w13 : World) : Prop :=
  Calls Try.prog 32 #[.pointer r1, .int .u64 r3, .int .i64 (bAnd .i64 i0 7)] w13 fun e11 w14 =>
  ∃ (r14 : Int), ∃ (r15 : Int), e11 = .returned (.tuple #[.int .u64 r14, .int .i64 r15]) ∧
  cond (r15 != 0)
  (R (.returned (.bool false)) w14)
  (cond (r14 != 0)
  (Calls Try.prog 33 #[.pointer r1, .int .u64 r14, .int .i64 0] w14 fun e12 w15 =>
  ∃ (r16 : Int), ∃ (r17 : Int), e12 = .returned (.tuple #[.int .u64 r16, .int .i64 r17]) ∧
  cond (r17 != 0)
  (R (.returned (.bool false)) w15)
  (k0 w15))
  (k0 w14))
def S_law11_SlideRoom_j1 (keep0 : Int) (R : Ending → World → Prop) (r1 : Option Addr) (r3 : Int) (i0 : Int) (k0 : World → Prop) (x0 : Int) (e8 : Int) (w10 : World) : Prop :=
  cond (e8 != 0)
  (R (.returned (.bool false)) w10)
  (Calls Try.prog 30 #[.pointer r1, .int .u64 x0, .int .i64 0, .int .u64 (IntKind.wrap .u64 i0)] w10 fun e9 w11 =>
  ∃ (r12 : Int), e9 = .returned (.int .i64 r12) ∧
  cond (r12 != 0)
  (R (.returned (.bool false)) w11)
  (∀ k3 : World → Prop,
  (∀ (w13 : World), S_law11_SlideRoom_j0 R r1 r3 i0 k0 w13 → k3 w13) →
  DivC (IntKind.wrap .i64 (2 + (bAnd .i64 keep0 7)))
  (cond ((Int.tmod i0 (IntKind.wrap .i64 (2 + (bAnd .i64 keep0 7)))) == 0)
  (Calls Try.prog 31 #[.pointer r1, .int .u64 r3, .int .i64 (bAnd .i64 i0 7), .int .u64 x0] w11 fun e10 w12 =>
  ∃ (r13 : Int), e10 = .returned (.int .i64 r13) ∧
  cond (r13 != 0)
  (R (.returned (.bool false)) w12)
  (k3 w12))
  (k3 w11))))
def S_law11_SlideRoom_j2 (keep0 : Int) (R : Ending → World → Prop) (r1 : Option Addr) (r2 : Option Addr) (r3 : Int) (i0 : Int) (k0 : World → Prop) (n1 : Int) (w6 : World) : Prop :=
  Calls Try.prog 28 #[.pointer r1, .int .i64 1, .int .i64 0, .int .i64 n1] w6 fun e5 w7 =>
  ∃ (r6 : Int), ∃ (r7 : Int), e5 = .returned (.tuple #[.int .u64 r6, .int .i64 r7]) ∧
  ∀ k2 : Int → Int → World → Prop,
  (∀ (x0 : Int) (e8 : Int) (w10 : World), S_law11_SlideRoom_j1 keep0 R r1 r3 i0 k0 x0 e8 w10 → k2 x0 e8 w10) →
  cond (r7 == 5)
  (Calls Try.prog 15 #[.pointer r2] w7 fun e6 w8 =>
  ∃ (r8 : Int), ∃ (r9 : Int), e6 = .returned (.tuple #[.int .i64 r8, .int .i64 r9]) ∧
  cond (r9 != 0)
  (R (.returned (.bool false)) w8)
  (Calls Try.prog 28 #[.pointer r1, .int .i64 1, .int .i64 0, .int .i64 n1] w8 fun e7 w9 =>
  ∃ (r10 : Int), ∃ (r11 : Int), e7 = .returned (.tuple #[.int .u64 r10, .int .i64 r11]) ∧
  k2 r10 r11 w9))
  (k2 r6 r7 w7)
def S_law11_SlideRoom_j3 (i0 : Int) (w5 : World) (I0 : Int → World → Prop) (M0 : Int → World → Nat) (w16 : World) : Prop :=
  I0 (IntKind.wrap .i64 (i0 + 1)) w16 ∧ M0 (IntKind.wrap .i64 (i0 + 1)) w16 < M0 i0 w5
def S_law11_SlideRoom_l0 (sizes0p : Option Addr) (sizes0l : Nat) (keep0 : Int) (R : Ending → World → Prop) (r1 : Option Addr) (r2 : Option Addr) (r3 : Int) (i0 : Int) (w5 : World) (I0 : Int → World → Prop) (M0 : Int → World → Nat) : Prop :=
  cond (decide (i0 < 300))
  (∀ k0 : World → Prop,
  (∀ (w16 : World), S_law11_SlideRoom_j3 i0 w5 I0 M0 w16 → k0 w16) →
  ∀ k1 : Int → World → Prop,
  (∀ (n1 : Int) (w6 : World), S_law11_SlideRoom_j2 keep0 R r1 r2 r3 i0 k0 n1 w6 → k1 n1 w6) →
  cond (decide ((Nat.cast sizes0l : Int) > 0))
  (DivC (Nat.cast sizes0l : Int)
  (IdxC sizes0p sizes0l (Int.tmod i0 (Nat.cast sizes0l : Int)) 1 fun a0 =>
  LdI .i64 w5 a0 fun n0 =>
  k1 (IntKind.wrap .i64 (1 + (bAnd .i64 n0 15))) w5))
  (k1 1 w5))
  (Calls Try.prog 34 #[.pointer r1] w5 fun e13 w17 =>
  ∃ (r18 : Int), e13 = .returned (.int .i64 r18) ∧
  cond (r18 == 0)
  (Calls Try.prog 19 #[.pointer r2] w17 fun e14 w18 =>
  ∃ (r19 : Int), e14 = .returned (.int .i64 r19) ∧
  R (.returned (.bool (decide (r19 > 0)))) w18)
  (R (.returned (.bool false)) w17))
def S_law11_SlideRoom (sizes0p : Option Addr) (sizes0l : Nat) (sizes0c : Nat) (keep0 : Int) (w : World) (R : Ending → World → Prop) : Prop :=
  Calls Try.prog 10 #[] w fun e0 w0 =>
  ∃ (r0 : Bool), e0 = .returned (.bool r0) ∧
  cond (!r0)
  (R (.returned (.bool false)) w0)
  (Calls Try.prog 27 #[.int .i64 400, .int .i64 64] w0 fun e1 w1 =>
  ∃ (r1 : Option Addr), e1 = .returned (.pointer r1) ∧
  cond r1.isNone
  (R (.returned (.bool false)) w1)
  (Calls Try.prog 12 #[.pointer r1] w1 fun e2 w2 =>
  ∃ (r2 : Option Addr), e2 = .returned (.pointer r2) ∧
  Calls Try.prog 28 #[.pointer r1, .int .i64 9, .int .i64 8, .int .i64 8] w2 fun e3 w3 =>
  ∃ (r3 : Int), ∃ (r4 : Int), e3 = .returned (.tuple #[.int .u64 r3, .int .i64 r4]) ∧
  cond (r4 != 0)
  (R (.returned (.bool false)) w3)
  (Calls Try.prog 29 #[.pointer r1, .int .i64 1, .int .u64 r3] w3 fun e4 w4 =>
  ∃ (r5 : Int), e4 = .returned (.int .i64 r5) ∧
  cond (r5 != 0)
  (R (.returned (.bool false)) w4)
  (∃ (I0 : Int → World → Prop) (M0 : Int → World → Nat), I0 0 w4 ∧
  ∀ (i0 : Int) (w5 : World), I0 i0 w5 →
  S_law11_SlideRoom_l0 sizes0p sizes0l keep0 R r1 r2 r3 i0 w5 I0 M0))))
def S_law11_SlideRoom_ann : Ann := (.seq .leaf (.seq .leaf (.seq .leaf (.seq .leaf (.seq .leaf (.seq .leaf (.seq .leaf (.seq (.seq .leaf (.block (.loop [0, 1, 5, 6, 7] [(9, (.int .i64))] (.seq .leaf (.seq (.jblock [0, 1, 5, 6, 7, 9] [] (.seq .leaf (.join [0, 1, 5, 6, 7, 9] [(10, (.int .i64))] .leaf (.seq .leaf (.join [0, 1, 5, 6, 7, 9] [(11, (.int .u64)), (12, (.int .i64))] .leaf (.seq .leaf (.join [0, 1, 5, 6, 7, 9] [] .leaf .leaf)))))) .leaf) .leaf))))) .leaf))))))))
theorem S_law11_SlideRoom_eq (sizes0p : Option Addr) (sizes0l : Nat) (sizes0c : Nat) (keep0 : Int) (w : World) (R : Ending → World → Prop) : X Try.prog Try.f6.ntmps (bodyOf Try.f6) S_law11_SlideRoom_ann (argEnv 0 [.slice sizes0p sizes0l sizes0c, .int .i64 keep0]) w (fun e w' => resK Try.prog Try.f6.results.toList e w' [] fun vs => R (.returned (pack vs)) w') (fun e w' => resK Try.prog Try.f6.results.toList e w' [] fun vs => R (.returned (pack vs)) w') (fun _ _ _ => False) = S_law11_SlideRoom sizes0p sizes0l sizes0c keep0 w R := by kernel_rfl
theorem S_law11_SlideRoom_ok (sizes0p : Option Addr) (sizes0l : Nat) (sizes0c : Nat) (keep0 : Int) (w : World) (R : Ending → World → Prop) (h : S_law11_SlideRoom sizes0p sizes0l sizes0c keep0 w R) : Calls Try.prog 6 #[.slice sizes0p sizes0l sizes0c, .int .i64 keep0] w R :=
  calls_of_X (an := S_law11_SlideRoom_ann) wide_ok Try.func6 (by kernel_rfl) (by kernel_rfl) (by rw [S_law11_SlideRoom_eq]; exact h)

def S_law11_SlideBusy_j0 (R : Ending → World → Prop) (r1 : Option Addr) (b0 : Nat) (r21 : Option Addr) (told0p : Option Addr) (told0l : Nat) (told0c : Nat) (at0 : Int) (i0 : Int) (w5 : World) (I0 : Option Addr → Nat → Nat → Int → Int → World → Prop) (M0 : Option Addr → Nat → Nat → Int → Int → World → Nat) (at1 : Int) (told2p : Option Addr) (told2l : Nat) (told2c : Nat) (n271 : Int) (w42 : World) : Prop :=
  Calls Try.prog 13 #[.pointer r21, .int .i64 n271] w42 fun e14 w43 =>
  ∃ (r121 : Bool), ∃ (r122 : Int), e14 = .returned (.tuple #[.bool r121, .int .i64 r122]) ∧
  ∃ C1 : World → Prop, C1 (World.drew w43) ∧
  cond (r122 != 0)
  (R (.returned (.bool false)) (World.drew w43))
  (∃ (s14p : Option Addr), ∃ (s14l : Nat), ∃ (s14c : Nat), ∃ (n272 : Int), ∃ (n273 : Int), ∃ (n274 : Int), ∃ (n275 : Int), ∃ (n276 : Int), ∃ (n277 : Int), ∃ (n278 : Int), ∃ (n279 : Int), ∃ (n280 : Int), ∃ (n281 : Int), ∃ (n282 : Int), ∃ (n283 : Int), ∃ (n284 : Int), ∃ (n285 : Int), ∃ (n286 : Int), ∃ (n287 : Int), (∀ (w44 : World), C1 w44 →
  Ld_tidemarkref9_Heap w44 (⟨b0, 0, none⟩) fun s15p s15l s15c n288 n289 n290 n291 n292 n293 n294 n295 n296 n297 n298 n299 n300 n301 n302 n303 =>
  Value.agg #[.slice s15p s15l s15c, .int .u64 n288, .int .u64 n289, .int .u64 n290, .int .u64 n291, .int .u64 n292, .int .u64 n293, .int .u64 n294, .int .u64 n295, .int .u64 n296, .int .u64 n297, .int .u64 n298, .int .u64 n299, .int .u64 n300, .int .u64 n301, .int .u64 n302, .int .u64 n303] = .agg #[.slice s14p s14l s14c, .int .u64 n272, .int .u64 n273, .int .u64 n274, .int .u64 n275, .int .u64 n276, .int .u64 n277, .int .u64 n278, .int .u64 n279, .int .u64 n280, .int .u64 n281, .int .u64 n282, .int .u64 n283, .int .u64 n284, .int .u64 n285, .int .u64 n286, .int .u64 n287]) ∧
  Calls Try.prog 23 #[.pointer r1] (World.drew w43) fun e15 w45 =>
  ∃ (r123p : Option Addr), ∃ (r123l : Nat), ∃ (r123c : Nat), ∃ (r124p : Option Addr), ∃ (r124l : Nat), ∃ (r124c : Nat), e15 = .returned (.agg #[.slice r123p r123l r123c, .slice r124p r124l r124c]) ∧
  C1 w45 ∧
  Calls Try.prog 22 #[.agg #[.slice r123p r123l r123c, .slice r124p r124l r124c], .agg #[.slice s14p s14l s14c, .int .u64 n272, .int .u64 n273, .int .u64 n274, .int .u64 n275, .int .u64 n276, .int .u64 n277, .int .u64 n278, .int .u64 n279, .int .u64 n280, .int .u64 n281, .int .u64 n282, .int .u64 n283, .int .u64 n284, .int .u64 n285, .int .u64 n286, .int .u64 n287]] w45 fun e16 w46 =>
  ∃ (r125 : Int), e16 = .returned (.int .i64 r125) ∧
  cond (r125 != 0)
  (R (.returned (.bool false)) w46)
  (Calls Try.prog 34 #[.pointer r1] w46 fun e17 w47 =>
  ∃ (r126 : Int), e17 = .returned (.int .i64 r126) ∧
  cond (r126 != 0)
  (R (.returned (.bool false)) w47)
  (Ld_tidemarkref9_Heap w47 (⟨b0, 0, none⟩) fun s16p s16l s16c n304 n305 n306 n307 n308 n309 n310 n311 n312 n313 n314 n315 n316 n317 n318 n319 =>
  Calls Try.prog 40 #[.pointer r1, .agg #[.slice s16p s16l s16c, .int .u64 n304, .int .u64 n305, .int .u64 n306, .int .u64 n307, .int .u64 n308, .int .u64 n309, .int .u64 n310, .int .u64 n311, .int .u64 n312, .int .u64 n313, .int .u64 n314, .int .u64 n315, .int .u64 n316, .int .u64 n317, .int .u64 n318, .int .u64 n319]] w47 fun e18 w48 =>
  ∃ (r127p : Option Addr), ∃ (r127l : Nat), ∃ (r127c : Nat), ∃ (r128 : Int), ∃ (r129 : Int), ∃ (r130 : Int), ∃ (r131 : Int), ∃ (r132 : Int), ∃ (r133 : Int), ∃ (r134 : Int), ∃ (r135 : Int), ∃ (r136 : Int), ∃ (r137 : Int), ∃ (r138 : Int), ∃ (r139 : Int), ∃ (r140 : Int), ∃ (r141 : Int), ∃ (r142 : Int), ∃ (r143 : Int), e18 = .returned (.agg #[.slice r127p r127l r127c, .int .u64 r128, .int .u64 r129, .int .u64 r130, .int .u64 r131, .int .u64 r132, .int .u64 r133, .int .u64 r134, .int .u64 r135, .int .u64 r136, .int .u64 r137, .int .u64 r138, .int .u64 r139, .int .u64 r140, .int .u64 r141, .int .u64 r142, .int .u64 r143]) ∧
  St_tidemarkref9_Heap w48 (⟨b0, 0, none⟩) r127p r127l r127c r128 r129 r130 r131 r132 r133 r134 r135 r136 r137 r138 r139 r140 r141 r142 r143 fun w49 =>
  Ld_tidemarkref9_Heap w49 (⟨b0, 0, none⟩) fun s17p s17l s17c n320 n321 n322 n323 n324 n325 n326 n327 n328 n329 n330 n331 n332 n333 n334 n335 =>
  Calls Try.prog 36 #[.agg #[.slice s17p s17l s17c, .int .u64 n320, .int .u64 n321, .int .u64 n322, .int .u64 n323, .int .u64 n324, .int .u64 n325, .int .u64 n326, .int .u64 n327, .int .u64 n328, .int .u64 n329, .int .u64 n330, .int .u64 n331, .int .u64 n332, .int .u64 n333, .int .u64 n334, .int .u64 n335], .slice told2p told2l told2c] w49 fun e19 w50 =>
  ∃ (r144p : Option Addr), ∃ (r144l : Nat), ∃ (r144c : Nat), e19 = .returned (.slice r144p r144l r144c) ∧
  I0 r144p r144l r144c (iMin at1 (Nat.cast r144l : Int)) (IntKind.wrap .i64 (i0 + 1)) w50 ∧ M0 r144p r144l r144c (iMin at1 (Nat.cast r144l : Int)) (IntKind.wrap .i64 (i0 + 1)) w50 < M0 told0p told0l told0c at0 i0 w5)))
def S_law11_SlideBusy_j1 (steps0p : Option Addr) (steps0l : Nat) (R : Ending → World → Prop) (r1 : Option Addr) (b0 : Nat) (r21 : Option Addr) (told0p : Option Addr) (told0l : Nat) (told0c : Nat) (at0 : Int) (i0 : Int) (w5 : World) (I0 : Option Addr → Nat → Nat → Int → Int → World → Prop) (M0 : Option Addr → Nat → Nat → Int → Int → World → Nat) (at1 : Int) (told2p : Option Addr) (told2l : Nat) (told2c : Nat) (w41 : World) : Prop :=
  ∀ k2 : Int → World → Prop,
  (∀ (n271 : Int) (w42 : World), S_law11_SlideBusy_j0 R r1 b0 r21 told0p told0l told0c at0 i0 w5 I0 M0 at1 told2p told2l told2c n271 w42 → k2 n271 w42) →
  cond (decide ((Nat.cast steps0l : Int) > 0))
  (DivC (Nat.cast steps0l : Int)
  (IdxC steps0p steps0l (Int.tmod i0 (Nat.cast steps0l : Int)) 1 fun a1 =>
  LdI .i64 w41 a1 fun n270 =>
  k2 (IntKind.wrap .i64 (1 + (bAnd .i64 n270 7))) w41))
  (k2 1 w41)
set_option maxRecDepth 100000 in
def S_law11_SlideBusy_j2 (more0p : Option Addr) (more0l : Nat) (steps0p : Option Addr) (steps0l : Nat) (R : Ending → World → Prop) (r1 : Option Addr) (b0 : Nat) (r21 : Option Addr) (told0p : Option Addr) (told0l : Nat) (told0c : Nat) (at0 : Int) (i0 : Int) (w5 : World) (I0 : Option Addr → Nat → Nat → Int → Int → World → Prop) (M0 : Option Addr → Nat → Nat → Int → Int → World → Nat) (told1p : Option Addr) (told1l : Nat) (told1c : Nat) (at1 : Int) (w11 : World) : Prop :=
  IdxC more0p more0l i0 6 fun a0 =>
  LdI .i64 w11 a0 fun n32 =>
  LdI .i64 w11 (Addr.add a0 1) fun n33 =>
  LdI .i64 w11 (Addr.add a0 2) fun n34 =>
  LdI .i64 w11 (Addr.add a0 3) fun n35 =>
  LdI .i64 w11 (Addr.add a0 4) fun n36 =>
  LdI .u64 w11 (Addr.add a0 5) fun n37 =>
  NewC (.cells #[.int .i64 0, .int .i64 0, .int .i64 0, .int .i64 0, .int .i64 0, .int .u64 0] 68 (0, 0)) w11 fun b1 w12 =>
  StC w12 (⟨b1, 0, none⟩) (.int .i64 n32) fun w13 =>
  StC w13 (Addr.add (⟨b1, 0, none⟩) 1) (.int .i64 n33) fun w14 =>
  StC w14 (Addr.add (⟨b1, 0, none⟩) 2) (.int .i64 n34) fun w15 =>
  StC w15 (Addr.add (⟨b1, 0, none⟩) 3) (.int .i64 n35) fun w16 =>
  StC w16 (Addr.add (⟨b1, 0, none⟩) 4) (.int .i64 n36) fun w17 =>
  StC w17 (Addr.add (⟨b1, 0, none⟩) 5) (.int .u64 n37) fun w18 =>
  ∀ k1 : Option Addr → Nat → Nat → World → Prop,
  (∀ (told2p : Option Addr) (told2l : Nat) (told2c : Nat) (w41 : World), S_law11_SlideBusy_j1 steps0p steps0l R r1 b0 r21 told0p told0l told0c at0 i0 w5 I0 M0 at1 told2p told2l told2c w41 → k1 told2p told2l told2c w41) →
  ∃ C0 : World → Prop, C0 (World.drew w18) ∧
  ∃ (s2p : Option Addr), ∃ (s2l : Nat), ∃ (s2c : Nat), ∃ (n38 : Int), ∃ (n39 : Int), ∃ (n40 : Int), ∃ (n41 : Int), ∃ (n42 : Int), ∃ (n43 : Int), ∃ (n44 : Int), ∃ (n45 : Int), ∃ (n46 : Int), ∃ (n47 : Int), ∃ (n48 : Int), ∃ (n49 : Int), ∃ (n50 : Int), ∃ (n51 : Int), ∃ (n52 : Int), ∃ (n53 : Int), (∀ (w19 : World), C0 w19 →
  Ld_tidemarkref9_Heap w19 (⟨b0, 0, none⟩) fun s3p s3l s3c n54 n55 n56 n57 n58 n59 n60 n61 n62 n63 n64 n65 n66 n67 n68 n69 =>
  Value.agg #[.slice s3p s3l s3c, .int .u64 n54, .int .u64 n55, .int .u64 n56, .int .u64 n57, .int .u64 n58, .int .u64 n59, .int .u64 n60, .int .u64 n61, .int .u64 n62, .int .u64 n63, .int .u64 n64, .int .u64 n65, .int .u64 n66, .int .u64 n67, .int .u64 n68, .int .u64 n69] = .agg #[.slice s2p s2l s2c, .int .u64 n38, .int .u64 n39, .int .u64 n40, .int .u64 n41, .int .u64 n42, .int .u64 n43, .int .u64 n44, .int .u64 n45, .int .u64 n46, .int .u64 n47, .int .u64 n48, .int .u64 n49, .int .u64 n50, .int .u64 n51, .int .u64 n52, .int .u64 n53]) ∧
  ∃ (n70 : Int), ∃ (n71 : Int), ∃ (n72 : Int), ∃ (n73 : Int), ∃ (n74 : Int), ∃ (n75 : Int), (∀ (w20 : World), C0 w20 →
  LdI .i64 w20 (⟨b1, 0, none⟩) fun n76 =>
  LdI .i64 w20 (Addr.add (⟨b1, 0, none⟩) 1) fun n77 =>
  LdI .i64 w20 (Addr.add (⟨b1, 0, none⟩) 2) fun n78 =>
  LdI .i64 w20 (Addr.add (⟨b1, 0, none⟩) 3) fun n79 =>
  LdI .i64 w20 (Addr.add (⟨b1, 0, none⟩) 4) fun n80 =>
  LdI .u64 w20 (Addr.add (⟨b1, 0, none⟩) 5) fun n81 =>
  Value.agg #[.int .i64 n76, .int .i64 n77, .int .i64 n78, .int .i64 n79, .int .i64 n80, .int .u64 n81] = .agg #[.int .i64 n70, .int .i64 n71, .int .i64 n72, .int .i64 n73, .int .i64 n74, .int .u64 n75]) ∧
  Calls Try.prog 37 #[.agg #[.slice s2p s2l s2c, .int .u64 n38, .int .u64 n39, .int .u64 n40, .int .u64 n41, .int .u64 n42, .int .u64 n43, .int .u64 n44, .int .u64 n45, .int .u64 n46, .int .u64 n47, .int .u64 n48, .int .u64 n49, .int .u64 n50, .int .u64 n51, .int .u64 n52, .int .u64 n53], .slice told1p told1l told1c, .int .i64 at1, .agg #[.int .i64 n70, .int .i64 n71, .int .i64 n72, .int .i64 n73, .int .i64 n74, .int .u64 n75]] (World.drew w18) fun e7 w21 =>
  ∃ (r42 : Bool), e7 = .returned (.bool r42) ∧
  C0 w21 ∧
  cond r42
  (LdIQ .i64 C0 (⟨b1, 0, none⟩) fun n82 =>
  cond (decide (n82 ≤ 2))
  (Ld_tidemarkref9_Heap w21 (⟨b0, 0, none⟩) fun s4p s4l s4c n83 n84 n85 n86 n87 n88 n89 n90 n91 n92 n93 n94 n95 n96 n97 n98 =>
  LdI .i64 w21 (⟨b1, 0, none⟩) fun n99 =>
  LdI .i64 w21 (Addr.add (⟨b1, 0, none⟩) 1) fun n100 =>
  LdI .i64 w21 (Addr.add (⟨b1, 0, none⟩) 2) fun n101 =>
  LdI .i64 w21 (Addr.add (⟨b1, 0, none⟩) 3) fun n102 =>
  LdI .i64 w21 (Addr.add (⟨b1, 0, none⟩) 4) fun n103 =>
  LdI .u64 w21 (Addr.add (⟨b1, 0, none⟩) 5) fun n104 =>
  Calls Try.prog 39 #[.pointer r1, .agg #[.slice s4p s4l s4c, .int .u64 n83, .int .u64 n84, .int .u64 n85, .int .u64 n86, .int .u64 n87, .int .u64 n88, .int .u64 n89, .int .u64 n90, .int .u64 n91, .int .u64 n92, .int .u64 n93, .int .u64 n94, .int .u64 n95, .int .u64 n96, .int .u64 n97, .int .u64 n98], .slice told1p told1l told1c, .agg #[.int .i64 n99, .int .i64 n100, .int .i64 n101, .int .i64 n102, .int .i64 n103, .int .u64 n104]] w21 fun e8 w22 =>
  ∃ (r43p : Option Addr), ∃ (r43l : Nat), ∃ (r43c : Nat), ∃ (r44 : Int), ∃ (r45 : Int), ∃ (r46 : Int), ∃ (r47 : Int), ∃ (r48 : Int), ∃ (r49 : Int), ∃ (r50 : Int), ∃ (r51 : Int), ∃ (r52 : Int), ∃ (r53 : Int), ∃ (r54 : Int), ∃ (r55 : Int), ∃ (r56 : Int), ∃ (r57 : Int), ∃ (r58 : Int), ∃ (r59 : Int), ∃ (r60p : Option Addr), ∃ (r60l : Nat), ∃ (r60c : Nat), ∃ (r61 : Bool), e8 = .returned (.tuple #[.agg #[.slice r43p r43l r43c, .int .u64 r44, .int .u64 r45, .int .u64 r46, .int .u64 r47, .int .u64 r48, .int .u64 r49, .int .u64 r50, .int .u64 r51, .int .u64 r52, .int .u64 r53, .int .u64 r54, .int .u64 r55, .int .u64 r56, .int .u64 r57, .int .u64 r58, .int .u64 r59], .slice r60p r60l r60c, .bool r61]) ∧
  NewC (.cells #[.slice none 0 0, .int .u64 0, .int .u64 0, .int .u64 0, .int .u64 0, .int .u64 0, .int .u64 0, .int .u64 0, .int .u64 0, .int .u64 0, .int .u64 0, .int .u64 0, .int .u64 0, .int .u64 0, .int .u64 0, .int .u64 0, .int .u64 0] 44 (0, 0)) w22 fun b2 w23 =>
  St_tidemarkref9_Heap w23 (⟨b2, 0, none⟩) r43p r43l r43c r44 r45 r46 r47 r48 r49 r50 r51 r52 r53 r54 r55 r56 r57 r58 r59 fun w24 =>
  cond (!r61)
  (R (.returned (.bool false)) w24)
  (Ld_tidemarkref9_Heap w24 (⟨b2, 0, none⟩) fun s5p s5l s5c n105 n106 n107 n108 n109 n110 n111 n112 n113 n114 n115 n116 n117 n118 n119 n120 =>
  St_tidemarkref9_Heap w24 (⟨b0, 0, none⟩) s5p s5l s5c n105 n106 n107 n108 n109 n110 n111 n112 n113 n114 n115 n116 n117 n118 n119 n120 fun w25 =>
  k1 r60p r60l r60c w25))
  (LdIQ .i64 C0 (⟨b1, 0, none⟩) fun n121 =>
  cond (decide (n121 ≥ 6))
  (Ld_tidemarkref9_Heap w21 (⟨b0, 0, none⟩) fun s6p s6l s6c n122 n123 n124 n125 n126 n127 n128 n129 n130 n131 n132 n133 n134 n135 n136 n137 =>
  LdI .i64 w21 (⟨b1, 0, none⟩) fun n138 =>
  LdI .i64 w21 (Addr.add (⟨b1, 0, none⟩) 1) fun n139 =>
  LdI .i64 w21 (Addr.add (⟨b1, 0, none⟩) 2) fun n140 =>
  LdI .i64 w21 (Addr.add (⟨b1, 0, none⟩) 3) fun n141 =>
  LdI .i64 w21 (Addr.add (⟨b1, 0, none⟩) 4) fun n142 =>
  LdI .u64 w21 (Addr.add (⟨b1, 0, none⟩) 5) fun n143 =>
  Calls Try.prog 39 #[.pointer r1, .agg #[.slice s6p s6l s6c, .int .u64 n122, .int .u64 n123, .int .u64 n124, .int .u64 n125, .int .u64 n126, .int .u64 n127, .int .u64 n128, .int .u64 n129, .int .u64 n130, .int .u64 n131, .int .u64 n132, .int .u64 n133, .int .u64 n134, .int .u64 n135, .int .u64 n136, .int .u64 n137], .slice told1p told1l told1c, .agg #[.int .i64 n138, .int .i64 n139, .int .i64 n140, .int .i64 n141, .int .i64 n142, .int .u64 n143]] w21 fun e9 w26 =>
  ∃ (r62p : Option Addr), ∃ (r62l : Nat), ∃ (r62c : Nat), ∃ (r63 : Int), ∃ (r64 : Int), ∃ (r65 : Int), ∃ (r66 : Int), ∃ (r67 : Int), ∃ (r68 : Int), ∃ (r69 : Int), ∃ (r70 : Int), ∃ (r71 : Int), ∃ (r72 : Int), ∃ (r73 : Int), ∃ (r74 : Int), ∃ (r75 : Int), ∃ (r76 : Int), ∃ (r77 : Int), ∃ (r78 : Int), ∃ (r79p : Option Addr), ∃ (r79l : Nat), ∃ (r79c : Nat), ∃ (r80 : Bool), e9 = .returned (.tuple #[.agg #[.slice r62p r62l r62c, .int .u64 r63, .int .u64 r64, .int .u64 r65, .int .u64 r66, .int .u64 r67, .int .u64 r68, .int .u64 r69, .int .u64 r70, .int .u64 r71, .int .u64 r72, .int .u64 r73, .int .u64 r74, .int .u64 r75, .int .u64 r76, .int .u64 r77, .int .u64 r78], .slice r79p r79l r79c, .bool r80]) ∧
  NewC (.cells #[.slice none 0 0, .int .u64 0, .int .u64 0, .int .u64 0, .int .u64 0, .int .u64 0, .int .u64 0, .int .u64 0, .int .u64 0, .int .u64 0, .int .u64 0, .int .u64 0, .int .u64 0, .int .u64 0, .int .u64 0, .int .u64 0, .int .u64 0] 44 (0, 0)) w26 fun b3 w27 =>
  St_tidemarkref9_Heap w27 (⟨b3, 0, none⟩) r62p r62l r62c r63 r64 r65 r66 r67 r68 r69 r70 r71 r72 r73 r74 r75 r76 r77 r78 fun w28 =>
  cond (!r80)
  (R (.returned (.bool false)) w28)
  (Ld_tidemarkref9_Heap w28 (⟨b3, 0, none⟩) fun s7p s7l s7c n144 n145 n146 n147 n148 n149 n150 n151 n152 n153 n154 n155 n156 n157 n158 n159 =>
  St_tidemarkref9_Heap w28 (⟨b0, 0, none⟩) s7p s7l s7c n144 n145 n146 n147 n148 n149 n150 n151 n152 n153 n154 n155 n156 n157 n158 n159 fun w29 =>
  k1 r79p r79l r79c w29))
  (∃ (s8p : Option Addr), ∃ (s8l : Nat), ∃ (s8c : Nat), ∃ (n160 : Int), ∃ (n161 : Int), ∃ (n162 : Int), ∃ (n163 : Int), ∃ (n164 : Int), ∃ (n165 : Int), ∃ (n166 : Int), ∃ (n167 : Int), ∃ (n168 : Int), ∃ (n169 : Int), ∃ (n170 : Int), ∃ (n171 : Int), ∃ (n172 : Int), ∃ (n173 : Int), ∃ (n174 : Int), ∃ (n175 : Int), (∀ (w30 : World), C0 w30 →
  Ld_tidemarkref9_Heap w30 (⟨b0, 0, none⟩) fun s9p s9l s9c n176 n177 n178 n179 n180 n181 n182 n183 n184 n185 n186 n187 n188 n189 n190 n191 =>
  Value.agg #[.slice s9p s9l s9c, .int .u64 n176, .int .u64 n177, .int .u64 n178, .int .u64 n179, .int .u64 n180, .int .u64 n181, .int .u64 n182, .int .u64 n183, .int .u64 n184, .int .u64 n185, .int .u64 n186, .int .u64 n187, .int .u64 n188, .int .u64 n189, .int .u64 n190, .int .u64 n191] = .agg #[.slice s8p s8l s8c, .int .u64 n160, .int .u64 n161, .int .u64 n162, .int .u64 n163, .int .u64 n164, .int .u64 n165, .int .u64 n166, .int .u64 n167, .int .u64 n168, .int .u64 n169, .int .u64 n170, .int .u64 n171, .int .u64 n172, .int .u64 n173, .int .u64 n174, .int .u64 n175]) ∧
  LdIQ .i64 C0 (Addr.add (⟨b1, 0, none⟩) 1) fun n192 =>
  Calls Try.prog 38 #[.slice told1p told1l told1c, .int .i64 n192] w21 fun e10 w31 =>
  ∃ (r81 : Int), e10 = .returned (.int .u64 r81) ∧
  C0 w31 ∧
  Calls Try.prog 26 #[.agg #[.slice s8p s8l s8c, .int .u64 n160, .int .u64 n161, .int .u64 n162, .int .u64 n163, .int .u64 n164, .int .u64 n165, .int .u64 n166, .int .u64 n167, .int .u64 n168, .int .u64 n169, .int .u64 n170, .int .u64 n171, .int .u64 n172, .int .u64 n173, .int .u64 n174, .int .u64 n175], .int .u64 r81] w31 fun e11 w32 =>
  ∃ (r82 : Bool), e11 = .returned (.bool r82) ∧
  C0 w32 ∧
  cond r82
  (Ld_tidemarkref9_Heap w32 (⟨b0, 0, none⟩) fun s10p s10l s10c n193 n194 n195 n196 n197 n198 n199 n200 n201 n202 n203 n204 n205 n206 n207 n208 =>
  LdI .i64 w32 (⟨b1, 0, none⟩) fun n209 =>
  LdI .i64 w32 (Addr.add (⟨b1, 0, none⟩) 1) fun n210 =>
  LdI .i64 w32 (Addr.add (⟨b1, 0, none⟩) 2) fun n211 =>
  LdI .i64 w32 (Addr.add (⟨b1, 0, none⟩) 3) fun n212 =>
  LdI .i64 w32 (Addr.add (⟨b1, 0, none⟩) 4) fun n213 =>
  LdI .u64 w32 (Addr.add (⟨b1, 0, none⟩) 5) fun n214 =>
  Calls Try.prog 39 #[.pointer r1, .agg #[.slice s10p s10l s10c, .int .u64 n193, .int .u64 n194, .int .u64 n195, .int .u64 n196, .int .u64 n197, .int .u64 n198, .int .u64 n199, .int .u64 n200, .int .u64 n201, .int .u64 n202, .int .u64 n203, .int .u64 n204, .int .u64 n205, .int .u64 n206, .int .u64 n207, .int .u64 n208], .slice told1p told1l told1c, .agg #[.int .i64 n209, .int .i64 n210, .int .i64 n211, .int .i64 n212, .int .i64 n213, .int .u64 n214]] w32 fun e12 w33 =>
  ∃ (r83p : Option Addr), ∃ (r83l : Nat), ∃ (r83c : Nat), ∃ (r84 : Int), ∃ (r85 : Int), ∃ (r86 : Int), ∃ (r87 : Int), ∃ (r88 : Int), ∃ (r89 : Int), ∃ (r90 : Int), ∃ (r91 : Int), ∃ (r92 : Int), ∃ (r93 : Int), ∃ (r94 : Int), ∃ (r95 : Int), ∃ (r96 : Int), ∃ (r97 : Int), ∃ (r98 : Int), ∃ (r99 : Int), ∃ (r100p : Option Addr), ∃ (r100l : Nat), ∃ (r100c : Nat), ∃ (r101 : Bool), e12 = .returned (.tuple #[.agg #[.slice r83p r83l r83c, .int .u64 r84, .int .u64 r85, .int .u64 r86, .int .u64 r87, .int .u64 r88, .int .u64 r89, .int .u64 r90, .int .u64 r91, .int .u64 r92, .int .u64 r93, .int .u64 r94, .int .u64 r95, .int .u64 r96, .int .u64 r97, .int .u64 r98, .int .u64 r99], .slice r100p r100l r100c, .bool r101]) ∧
  NewC (.cells #[.slice none 0 0, .int .u64 0, .int .u64 0, .int .u64 0, .int .u64 0, .int .u64 0, .int .u64 0, .int .u64 0, .int .u64 0, .int .u64 0, .int .u64 0, .int .u64 0, .int .u64 0, .int .u64 0, .int .u64 0, .int .u64 0, .int .u64 0] 44 (0, 0)) w33 fun b4 w34 =>
  St_tidemarkref9_Heap w34 (⟨b4, 0, none⟩) r83p r83l r83c r84 r85 r86 r87 r88 r89 r90 r91 r92 r93 r94 r95 r96 r97 r98 r99 fun w35 =>
  cond (!r101)
  (R (.returned (.bool false)) w35)
  (Ld_tidemarkref9_Heap w35 (⟨b4, 0, none⟩) fun s11p s11l s11c n215 n216 n217 n218 n219 n220 n221 n222 n223 n224 n225 n226 n227 n228 n229 n230 =>
  St_tidemarkref9_Heap w35 (⟨b0, 0, none⟩) s11p s11l s11c n215 n216 n217 n218 n219 n220 n221 n222 n223 n224 n225 n226 n227 n228 n229 n230 fun w36 =>
  k1 r100p r100l r100c w36))
  (LdIQ .i64 C0 (⟨b1, 0, none⟩) fun n231 =>
  cond (n231 == 8)
  (Ld_tidemarkref9_Heap w32 (⟨b0, 0, none⟩) fun s12p s12l s12c n232 n233 n234 n235 n236 n237 n238 n239 n240 n241 n242 n243 n244 n245 n246 n247 =>
  LdI .i64 w32 (⟨b1, 0, none⟩) fun n248 =>
  LdI .i64 w32 (Addr.add (⟨b1, 0, none⟩) 1) fun n249 =>
  LdI .i64 w32 (Addr.add (⟨b1, 0, none⟩) 2) fun n250 =>
  LdI .i64 w32 (Addr.add (⟨b1, 0, none⟩) 3) fun n251 =>
  LdI .i64 w32 (Addr.add (⟨b1, 0, none⟩) 4) fun n252 =>
  LdI .u64 w32 (Addr.add (⟨b1, 0, none⟩) 5) fun n253 =>
  Calls Try.prog 39 #[.pointer r1, .agg #[.slice s12p s12l s12c, .int .u64 n232, .int .u64 n233, .int .u64 n234, .int .u64 n235, .int .u64 n236, .int .u64 n237, .int .u64 n238, .int .u64 n239, .int .u64 n240, .int .u64 n241, .int .u64 n242, .int .u64 n243, .int .u64 n244, .int .u64 n245, .int .u64 n246, .int .u64 n247], .slice told1p told1l told1c, .agg #[.int .i64 n248, .int .i64 n249, .int .i64 n250, .int .i64 n251, .int .i64 n252, .int .u64 n253]] w32 fun e13 w37 =>
  ∃ (r102p : Option Addr), ∃ (r102l : Nat), ∃ (r102c : Nat), ∃ (r103 : Int), ∃ (r104 : Int), ∃ (r105 : Int), ∃ (r106 : Int), ∃ (r107 : Int), ∃ (r108 : Int), ∃ (r109 : Int), ∃ (r110 : Int), ∃ (r111 : Int), ∃ (r112 : Int), ∃ (r113 : Int), ∃ (r114 : Int), ∃ (r115 : Int), ∃ (r116 : Int), ∃ (r117 : Int), ∃ (r118 : Int), ∃ (r119p : Option Addr), ∃ (r119l : Nat), ∃ (r119c : Nat), ∃ (r120 : Bool), e13 = .returned (.tuple #[.agg #[.slice r102p r102l r102c, .int .u64 r103, .int .u64 r104, .int .u64 r105, .int .u64 r106, .int .u64 r107, .int .u64 r108, .int .u64 r109, .int .u64 r110, .int .u64 r111, .int .u64 r112, .int .u64 r113, .int .u64 r114, .int .u64 r115, .int .u64 r116, .int .u64 r117, .int .u64 r118], .slice r119p r119l r119c, .bool r120]) ∧
  NewC (.cells #[.slice none 0 0, .int .u64 0, .int .u64 0, .int .u64 0, .int .u64 0, .int .u64 0, .int .u64 0, .int .u64 0, .int .u64 0, .int .u64 0, .int .u64 0, .int .u64 0, .int .u64 0, .int .u64 0, .int .u64 0, .int .u64 0, .int .u64 0] 44 (0, 0)) w37 fun b5 w38 =>
  St_tidemarkref9_Heap w38 (⟨b5, 0, none⟩) r102p r102l r102c r103 r104 r105 r106 r107 r108 r109 r110 r111 r112 r113 r114 r115 r116 r117 r118 fun w39 =>
  cond (!r120)
  (R (.returned (.bool false)) w39)
  (Ld_tidemarkref9_Heap w39 (⟨b5, 0, none⟩) fun s13p s13l s13c n254 n255 n256 n257 n258 n259 n260 n261 n262 n263 n264 n265 n266 n267 n268 n269 =>
  St_tidemarkref9_Heap w39 (⟨b0, 0, none⟩) s13p s13l s13c n254 n255 n256 n257 n258 n259 n260 n261 n262 n263 n264 n265 n266 n267 n268 n269 fun w40 =>
  k1 r119p r119l r119c w40))
  (k1 told1p told1l told1c w32)))))
  (k1 told1p told1l told1c w21)
def S_law11_SlideBusy_l0 (more0p : Option Addr) (more0l : Nat) (steps0p : Option Addr) (steps0l : Nat) (R : Ending → World → Prop) (r1 : Option Addr) (b0 : Nat) (r21 : Option Addr) (told0p : Option Addr) (told0l : Nat) (told0c : Nat) (at0 : Int) (i0 : Int) (w5 : World) (I0 : Option Addr → Nat → Nat → Int → Int → World → Prop) (M0 : Option Addr → Nat → Nat → Int → Int → World → Nat) : Prop :=
  cond (decide (i0 < (Nat.cast more0l : Int)))
  (∀ k0 : Option Addr → Nat → Nat → Int → World → Prop,
  (∀ (told1p : Option Addr) (told1l : Nat) (told1c : Nat) (at1 : Int) (w11 : World), S_law11_SlideBusy_j2 more0p more0l steps0p steps0l R r1 b0 r21 told0p told0l told0c at0 i0 w5 I0 M0 told1p told1l told1c at1 w11 → k0 told1p told1l told1c at1 w11) →
  Calls Try.prog 14 #[.pointer r21] w5 fun e3 w6 =>
  ∃ (r22 : Int), e3 = .returned (.int .i64 r22) ∧
  cond (r22 == 0)
  (Ld_tidemarkref9_Heap w6 (⟨b0, 0, none⟩) fun s0p s0l s0c n0 n1 n2 n3 n4 n5 n6 n7 n8 n9 n10 n11 n12 n13 n14 n15 =>
  Calls Try.prog 35 #[.agg #[.slice s0p s0l s0c, .int .u64 n0, .int .u64 n1, .int .u64 n2, .int .u64 n3, .int .u64 n4, .int .u64 n5, .int .u64 n6, .int .u64 n7, .int .u64 n8, .int .u64 n9, .int .u64 n10, .int .u64 n11, .int .u64 n12, .int .u64 n13, .int .u64 n14, .int .u64 n15]] w6 fun e4 w7 =>
  ∃ (r23p : Option Addr), ∃ (r23l : Nat), ∃ (r23c : Nat), ∃ (r24 : Int), ∃ (r25 : Int), ∃ (r26 : Int), ∃ (r27 : Int), ∃ (r28 : Int), ∃ (r29 : Int), ∃ (r30 : Int), ∃ (r31 : Int), ∃ (r32 : Int), ∃ (r33 : Int), ∃ (r34 : Int), ∃ (r35 : Int), ∃ (r36 : Int), ∃ (r37 : Int), ∃ (r38 : Int), ∃ (r39 : Int), e4 = .returned (.agg #[.slice r23p r23l r23c, .int .u64 r24, .int .u64 r25, .int .u64 r26, .int .u64 r27, .int .u64 r28, .int .u64 r29, .int .u64 r30, .int .u64 r31, .int .u64 r32, .int .u64 r33, .int .u64 r34, .int .u64 r35, .int .u64 r36, .int .u64 r37, .int .u64 r38, .int .u64 r39]) ∧
  St_tidemarkref9_Heap w7 (⟨b0, 0, none⟩) r23p r23l r23c r24 r25 r26 r27 r28 r29 r30 r31 r32 r33 r34 r35 r36 r37 r38 r39 fun w8 =>
  Ld_tidemarkref9_Heap w8 (⟨b0, 0, none⟩) fun s1p s1l s1c n16 n17 n18 n19 n20 n21 n22 n23 n24 n25 n26 n27 n28 n29 n30 n31 =>
  Calls Try.prog 36 #[.agg #[.slice s1p s1l s1c, .int .u64 n16, .int .u64 n17, .int .u64 n18, .int .u64 n19, .int .u64 n20, .int .u64 n21, .int .u64 n22, .int .u64 n23, .int .u64 n24, .int .u64 n25, .int .u64 n26, .int .u64 n27, .int .u64 n28, .int .u64 n29, .int .u64 n30, .int .u64 n31], .slice told0p told0l told0c] w8 fun e5 w9 =>
  ∃ (r40p : Option Addr), ∃ (r40l : Nat), ∃ (r40c : Nat), e5 = .returned (.slice r40p r40l r40c) ∧
  Calls Try.prog 18 #[.pointer r21] w9 fun e6 w10 =>
  ∃ (r41 : Int), e6 = .returned (.int .i64 r41) ∧
  cond (r41 != 0)
  (R (.returned (.bool false)) w10)
  (k0 r40p r40l r40c (Nat.cast r40l : Int) w10))
  (k0 told0p told0l told0c at0 w6))
  (Calls Try.prog 15 #[.pointer r21] w5 fun e20 w51 =>
  ∃ (r145 : Int), ∃ (r146 : Int), e20 = .returned (.tuple #[.int .i64 r145, .int .i64 r146]) ∧
  Ld_tidemarkref9_Heap w51 (⟨b0, 0, none⟩) fun s18p s18l s18c n336 n337 n338 n339 n340 n341 n342 n343 n344 n345 n346 n347 n348 n349 n350 n351 =>
  Calls Try.prog 41 #[.agg #[.slice s18p s18l s18c, .int .u64 n336, .int .u64 n337, .int .u64 n338, .int .u64 n339, .int .u64 n340, .int .u64 n341, .int .u64 n342, .int .u64 n343, .int .u64 n344, .int .u64 n345, .int .u64 n346, .int .u64 n347, .int .u64 n348, .int .u64 n349, .int .u64 n350, .int .u64 n351]] w51 fun e21 w52 =>
  ∃ (r147 : Int), ∃ (r148 : Int), e21 = .returned (.tuple #[.int .i64 r147, .int .i64 r148]) ∧
  ∃ C2 : World → Prop, C2 (World.drew w52) ∧
  cond (r146 == 0)
  (∃ (s19p : Option Addr), ∃ (s19l : Nat), ∃ (s19c : Nat), ∃ (n352 : Int), ∃ (n353 : Int), ∃ (n354 : Int), ∃ (n355 : Int), ∃ (n356 : Int), ∃ (n357 : Int), ∃ (n358 : Int), ∃ (n359 : Int), ∃ (n360 : Int), ∃ (n361 : Int), ∃ (n362 : Int), ∃ (n363 : Int), ∃ (n364 : Int), ∃ (n365 : Int), ∃ (n366 : Int), ∃ (n367 : Int), (∀ (w53 : World), C2 w53 →
  Ld_tidemarkref9_Heap w53 (⟨b0, 0, none⟩) fun s20p s20l s20c n368 n369 n370 n371 n372 n373 n374 n375 n376 n377 n378 n379 n380 n381 n382 n383 =>
  Value.agg #[.slice s20p s20l s20c, .int .u64 n368, .int .u64 n369, .int .u64 n370, .int .u64 n371, .int .u64 n372, .int .u64 n373, .int .u64 n374, .int .u64 n375, .int .u64 n376, .int .u64 n377, .int .u64 n378, .int .u64 n379, .int .u64 n380, .int .u64 n381, .int .u64 n382, .int .u64 n383] = .agg #[.slice s19p s19l s19c, .int .u64 n352, .int .u64 n353, .int .u64 n354, .int .u64 n355, .int .u64 n356, .int .u64 n357, .int .u64 n358, .int .u64 n359, .int .u64 n360, .int .u64 n361, .int .u64 n362, .int .u64 n363, .int .u64 n364, .int .u64 n365, .int .u64 n366, .int .u64 n367]) ∧
  Calls Try.prog 23 #[.pointer r1] (World.drew w52) fun e22 w54 =>
  ∃ (r149p : Option Addr), ∃ (r149l : Nat), ∃ (r149c : Nat), ∃ (r150p : Option Addr), ∃ (r150l : Nat), ∃ (r150c : Nat), e22 = .returned (.agg #[.slice r149p r149l r149c, .slice r150p r150l r150c]) ∧
  C2 w54 ∧
  Calls Try.prog 22 #[.agg #[.slice r149p r149l r149c, .slice r150p r150l r150c], .agg #[.slice s19p s19l s19c, .int .u64 n352, .int .u64 n353, .int .u64 n354, .int .u64 n355, .int .u64 n356, .int .u64 n357, .int .u64 n358, .int .u64 n359, .int .u64 n360, .int .u64 n361, .int .u64 n362, .int .u64 n363, .int .u64 n364, .int .u64 n365, .int .u64 n366, .int .u64 n367]] w54 fun e23 w55 =>
  ∃ (r151 : Int), e23 = .returned (.int .i64 r151) ∧
  cond (r151 == 0)
  (Calls Try.prog 24 #[.pointer r1] w55 fun e24 w56 =>
  ∃ (r152 : Option Addr), e24 = .returned (.pointer r152) ∧
  Calls Try.prog 25 #[.pointer r152] w56 fun e25 w57 =>
  ∃ (r153 : Int), e25 = .returned (.int .i64 r153) ∧
  cond (r153 == r148)
  (Calls Try.prog 34 #[.pointer r1] w57 fun e26 w58 =>
  ∃ (r154 : Int), e26 = .returned (.int .i64 r154) ∧
  R (.returned (.bool (r154 == 0))) w58)
  (R (.returned (.bool false)) w57))
  (R (.returned (.bool false)) w55))
  (R (.returned (.bool false)) (World.drew w52)))
def S_law11_SlideBusy (l0p : Option Addr) (l0l : Nat) (l0c : Nat) (more0p : Option Addr) (more0l : Nat) (more0c : Nat) (steps0p : Option Addr) (steps0l : Nat) (steps0c : Nat) (w : World) (R : Ending → World → Prop) : Prop :=
  Calls Try.prog 10 #[] w fun e0 w0 =>
  ∃ (r0 : Bool), e0 = .returned (.bool r0) ∧
  cond (!r0)
  (R (.returned (.bool false)) w0)
  (cond (decide ((Nat.cast l0l : Int) > 300))
  (R (.returned (.bool true)) w0)
  (cond (decide ((Nat.cast more0l : Int) > 300))
  (R (.returned (.bool true)) w0)
  (Calls Try.prog 21 #[.slice l0p l0l l0c] w0 fun e1 w1 =>
  ∃ (r1 : Option Addr), ∃ (r2p : Option Addr), ∃ (r2l : Nat), ∃ (r2c : Nat), ∃ (r3 : Int), ∃ (r4 : Int), ∃ (r5 : Int), ∃ (r6 : Int), ∃ (r7 : Int), ∃ (r8 : Int), ∃ (r9 : Int), ∃ (r10 : Int), ∃ (r11 : Int), ∃ (r12 : Int), ∃ (r13 : Int), ∃ (r14 : Int), ∃ (r15 : Int), ∃ (r16 : Int), ∃ (r17 : Int), ∃ (r18 : Int), ∃ (r19p : Option Addr), ∃ (r19l : Nat), ∃ (r19c : Nat), ∃ (r20 : Bool), e1 = .returned (.tuple #[.pointer r1, .agg #[.slice r2p r2l r2c, .int .u64 r3, .int .u64 r4, .int .u64 r5, .int .u64 r6, .int .u64 r7, .int .u64 r8, .int .u64 r9, .int .u64 r10, .int .u64 r11, .int .u64 r12, .int .u64 r13, .int .u64 r14, .int .u64 r15, .int .u64 r16, .int .u64 r17, .int .u64 r18], .slice r19p r19l r19c, .bool r20]) ∧
  NewC (.cells #[.slice none 0 0, .int .u64 0, .int .u64 0, .int .u64 0, .int .u64 0, .int .u64 0, .int .u64 0, .int .u64 0, .int .u64 0, .int .u64 0, .int .u64 0, .int .u64 0, .int .u64 0, .int .u64 0, .int .u64 0, .int .u64 0, .int .u64 0] 44 (0, 0)) w1 fun b0 w2 =>
  St_tidemarkref9_Heap w2 (⟨b0, 0, none⟩) r2p r2l r2c r3 r4 r5 r6 r7 r8 r9 r10 r11 r12 r13 r14 r15 r16 r17 r18 fun w3 =>
  cond (!r20)
  (R (.returned (.bool false)) w3)
  (Calls Try.prog 12 #[.pointer r1] w3 fun e2 w4 =>
  ∃ (r21 : Option Addr), e2 = .returned (.pointer r21) ∧
  ∃ (I0 : Option Addr → Nat → Nat → Int → Int → World → Prop) (M0 : Option Addr → Nat → Nat → Int → Int → World → Nat), I0 r19p r19l r19c 0 0 w4 ∧
  ∀ (told0p : Option Addr) (told0l : Nat) (told0c : Nat) (at0 : Int) (i0 : Int) (w5 : World), I0 told0p told0l told0c at0 i0 w5 →
  S_law11_SlideBusy_l0 more0p more0l steps0p steps0l R r1 b0 r21 told0p told0l told0c at0 i0 w5 I0 M0))))
def S_law11_SlideBusy_ann : Ann := (.seq .leaf (.seq .leaf (.seq .leaf (.seq .leaf (.seq .leaf (.seq .leaf (.seq .leaf (.seq (.seq .leaf (.block (.loop [1, 2, 7, 8, 11] [(9, .slice), (12, (.int .i64)), (13, (.int .i64))] (.seq .leaf (.seq (.block (.join [1, 2, 7, 8, 11, 13] [(9, .slice), (12, (.int .i64))] .leaf (.seq .leaf (.join [1, 2, 7, 8, 11, 12, 13] [(9, .slice)] (.seq .anyt .leaf) (.seq .leaf (.join [1, 2, 7, 8, 9, 11, 12, 13] [(18, (.int .i64))] .leaf (.seq .leaf (.seq (.seq .anyt .leaf) .leaf)))))))) .leaf))))) (.seq .leaf (.seq .leaf (.seq .anyt .leaf)))))))))))
theorem S_law11_SlideBusy_eq (l0p : Option Addr) (l0l : Nat) (l0c : Nat) (more0p : Option Addr) (more0l : Nat) (more0c : Nat) (steps0p : Option Addr) (steps0l : Nat) (steps0c : Nat) (w : World) (R : Ending → World → Prop) : X Try.prog Try.f7.ntmps (bodyOf Try.f7) S_law11_SlideBusy_ann (argEnv 0 [.slice l0p l0l l0c, .slice more0p more0l more0c, .slice steps0p steps0l steps0c]) w (fun e w' => resK Try.prog Try.f7.results.toList e w' [] fun vs => R (.returned (pack vs)) w') (fun e w' => resK Try.prog Try.f7.results.toList e w' [] fun vs => R (.returned (pack vs)) w') (fun _ _ _ => False) = S_law11_SlideBusy l0p l0l l0c more0p more0l more0c steps0p steps0l steps0c w R := by kernel_rfl
theorem S_law11_SlideBusy_ok (l0p : Option Addr) (l0l : Nat) (l0c : Nat) (more0p : Option Addr) (more0l : Nat) (more0c : Nat) (steps0p : Option Addr) (steps0l : Nat) (steps0c : Nat) (w : World) (R : Ending → World → Prop) (h : S_law11_SlideBusy l0p l0l l0c more0p more0l more0c steps0p steps0l steps0c w R) : Calls Try.prog 7 #[.slice l0p l0l l0c, .slice more0p more0l more0c, .slice steps0p steps0l steps0c] w R :=
  calls_of_X (an := S_law11_SlideBusy_ann) wide_ok Try.func7 (by kernel_rfl) (by kernel_rfl) (by rw [S_law11_SlideBusy_eq]; exact h)

def S_law11_SlideFull_j0 (want0p : Option Addr) (want0l : Nat) (want0c : Nat) (i0 : Int) (w11 : World) (I0 : Option Addr → Nat → Nat → Int → World → Prop) (M0 : Option Addr → Nat → Nat → Int → World → Nat) (want1p : Option Addr) (want1l : Nat) (want1c : Nat) (w17 : World) : Prop :=
  I0 want1p want1l want1c (IntKind.wrap .i64 (i0 + 1)) w17 ∧ M0 want1p want1l want1c (IntKind.wrap .i64 (i0 + 1)) w17 < M0 want0p want0l want0c i0 w11
def S_law11_SlideFull_l0 (R : Ending → World → Prop) (r1 : Option Addr) (r19p : Option Addr) (r19l : Nat) (b0 : Nat) (r22 : Int) (r23 : Option Addr) (r24 : Int) (r25 : Int) (b1 : Nat) (want0p : Option Addr) (want0l : Nat) (want0c : Nat) (i0 : Int) (w11 : World) (I0 : Option Addr → Nat → Nat → Int → World → Prop) (M0 : Option Addr → Nat → Nat → Int → World → Nat) : Prop :=
  cond (decide (i0 < (Nat.cast r19l : Int)))
  (∀ k0 : Option Addr → Nat → Nat → World → Prop,
  (∀ (want1p : Option Addr) (want1l : Nat) (want1c : Nat) (w17 : World), S_law11_SlideFull_j0 want0p want0l want0c i0 w11 I0 M0 want1p want1l want1c w17 → k0 want1p want1l want1c w17) →
  Ld_tidemarkref9_Heap (World.drew w11) (⟨b1, 0, none⟩) fun s1p s1l s1c n16 n17 n18 n19 n20 n21 n22 n23 n24 n25 n26 n27 n28 n29 n30 n31 =>
  IdxC r19p r19l i0 1 fun a0 =>
  LdI .u64 (World.drew w11) a0 fun n32 =>
  Calls Try.prog 43 #[.agg #[.slice s1p s1l s1c, .int .u64 n16, .int .u64 n17, .int .u64 n18, .int .u64 n19, .int .u64 n20, .int .u64 n21, .int .u64 n22, .int .u64 n23, .int .u64 n24, .int .u64 n25, .int .u64 n26, .int .u64 n27, .int .u64 n28, .int .u64 n29, .int .u64 n30, .int .u64 n31], .int .u64 n32] (World.drew w11) fun e7 w12 =>
  ∃ (r43 : Int), e7 = .returned (.int .i64 r43) ∧
  ∃ C0 : World → Prop, C0 (World.drew w12) ∧
  IdxC r19p r19l i0 1 fun a1 =>
  LdIQ .u64 C0 a1 fun n33 =>
  Calls Try.prog 16 #[.pointer r1] (World.drew w12) fun e8 w13 =>
  ∃ (r44 : Option Addr), e8 = .returned (.pointer r44) ∧
  C0 w13 ∧
  Calls Try.prog 17 #[.pointer r44, .int .u64 n33] w13 fun e9 w14 =>
  ∃ (r45 : Int), ∃ (r46 : Int), e9 = .returned (.tuple #[.int .i64 r45, .int .i64 r46]) ∧
  cond (!((decide (r43 ≥ 0)) == (r46 == 0)))
  (R (.returned (.bool false)) w14)
  (cond (decide (r43 ≥ 0))
  (IdxC r19p r19l i0 1 fun a2 =>
  LdI .u64 w14 a2 fun n34 =>
  NewC (.cells #[.int .u64 n34] 24 (0, 0)) w14 fun b2 w15 =>
  RunS Try.prog (Builtin.append_ #[45, 45] 45 #[.slice want0p want0l want0c, .slice (some (⟨b2, 0, none⟩)) 1 1]) w15 fun s2p s2l s2c w16 =>
  k0 s2p s2l s2c w16)
  (k0 want0p want0l want0c w14)))
  (Ld_tidemarkref9_Heap w11 (⟨b0, 0, none⟩) fun s3p s3l s3c n35 n36 n37 n38 n39 n40 n41 n42 n43 n44 n45 n46 n47 n48 n49 n50 =>
  Calls Try.prog 41 #[.agg #[.slice s3p s3l s3c, .int .u64 n35, .int .u64 n36, .int .u64 n37, .int .u64 n38, .int .u64 n39, .int .u64 n40, .int .u64 n41, .int .u64 n42, .int .u64 n43, .int .u64 n44, .int .u64 n45, .int .u64 n46, .int .u64 n47, .int .u64 n48, .int .u64 n49, .int .u64 n50]] w11 fun e10 w18 =>
  ∃ (r47 : Int), ∃ (r48 : Int), e10 = .returned (.tuple #[.int .i64 r47, .int .i64 r48]) ∧
  ∃ C1 : World → Prop, C1 (World.drew w18) ∧
  cond (r25 == 0)
  (Calls Try.prog 24 #[.pointer r1] (World.drew w18) fun e11 w19 =>
  ∃ (r49 : Option Addr), e11 = .returned (.pointer r49) ∧
  C1 w19 ∧
  Calls Try.prog 42 #[.pointer r49] w19 fun e12 w20 =>
  ∃ (r50 : Int), e12 = .returned (.int .i64 r50) ∧
  C1 w20 ∧
  cond (r24 == (IntKind.wrap .i64 (r50 - r22)))
  (Calls Try.prog 24 #[.pointer r1] w20 fun e13 w21 =>
  ∃ (r51 : Option Addr), e13 = .returned (.pointer r51) ∧
  C1 w21 ∧
  Calls Try.prog 25 #[.pointer r51] w21 fun e14 w22 =>
  ∃ (r52 : Int), e14 = .returned (.int .i64 r52) ∧
  C1 w22 ∧
  cond (r52 == r48)
  (Calls Try.prog 44 #[.pointer r1, .slice want0p want0l want0c] w22 fun e15 w23 =>
  ∃ (r53 : Bool), e15 = .returned (.bool r53) ∧
  C1 w23 ∧
  cond r53
  (∃ (s4p : Option Addr), ∃ (s4l : Nat), ∃ (s4c : Nat), ∃ (n51 : Int), ∃ (n52 : Int), ∃ (n53 : Int), ∃ (n54 : Int), ∃ (n55 : Int), ∃ (n56 : Int), ∃ (n57 : Int), ∃ (n58 : Int), ∃ (n59 : Int), ∃ (n60 : Int), ∃ (n61 : Int), ∃ (n62 : Int), ∃ (n63 : Int), ∃ (n64 : Int), ∃ (n65 : Int), ∃ (n66 : Int), (∀ (w24 : World), C1 w24 →
  Ld_tidemarkref9_Heap w24 (⟨b0, 0, none⟩) fun s5p s5l s5c n67 n68 n69 n70 n71 n72 n73 n74 n75 n76 n77 n78 n79 n80 n81 n82 =>
  Value.agg #[.slice s5p s5l s5c, .int .u64 n67, .int .u64 n68, .int .u64 n69, .int .u64 n70, .int .u64 n71, .int .u64 n72, .int .u64 n73, .int .u64 n74, .int .u64 n75, .int .u64 n76, .int .u64 n77, .int .u64 n78, .int .u64 n79, .int .u64 n80, .int .u64 n81, .int .u64 n82] = .agg #[.slice s4p s4l s4c, .int .u64 n51, .int .u64 n52, .int .u64 n53, .int .u64 n54, .int .u64 n55, .int .u64 n56, .int .u64 n57, .int .u64 n58, .int .u64 n59, .int .u64 n60, .int .u64 n61, .int .u64 n62, .int .u64 n63, .int .u64 n64, .int .u64 n65, .int .u64 n66]) ∧
  Calls Try.prog 23 #[.pointer r1] w23 fun e16 w25 =>
  ∃ (r54p : Option Addr), ∃ (r54l : Nat), ∃ (r54c : Nat), ∃ (r55p : Option Addr), ∃ (r55l : Nat), ∃ (r55c : Nat), e16 = .returned (.agg #[.slice r54p r54l r54c, .slice r55p r55l r55c]) ∧
  C1 w25 ∧
  Calls Try.prog 22 #[.agg #[.slice r54p r54l r54c, .slice r55p r55l r55c], .agg #[.slice s4p s4l s4c, .int .u64 n51, .int .u64 n52, .int .u64 n53, .int .u64 n54, .int .u64 n55, .int .u64 n56, .int .u64 n57, .int .u64 n58, .int .u64 n59, .int .u64 n60, .int .u64 n61, .int .u64 n62, .int .u64 n63, .int .u64 n64, .int .u64 n65, .int .u64 n66]] w25 fun e17 w26 =>
  ∃ (r56 : Int), e17 = .returned (.int .i64 r56) ∧
  cond (r56 == 0)
  (Calls Try.prog 34 #[.pointer r1] w26 fun e18 w27 =>
  ∃ (r57 : Int), e18 = .returned (.int .i64 r57) ∧
  cond (r57 == 0)
  (Calls Try.prog 19 #[.pointer r23] w27 fun e19 w28 =>
  ∃ (r58 : Int), e19 = .returned (.int .i64 r58) ∧
  cond (r58 == 1)
  (Calls Try.prog 14 #[.pointer r23] w28 fun e20 w29 =>
  ∃ (r59 : Int), e20 = .returned (.int .i64 r59) ∧
  R (.returned (.bool (r59 == 0))) w29)
  (R (.returned (.bool false)) w28))
  (R (.returned (.bool false)) w27))
  (R (.returned (.bool false)) w26))
  (R (.returned (.bool false)) w23))
  (R (.returned (.bool false)) w22))
  (R (.returned (.bool false)) w20))
  (R (.returned (.bool false)) (World.drew w18)))
def S_law11_SlideFull (l0p : Option Addr) (l0l : Nat) (l0c : Nat) (w : World) (R : Ending → World → Prop) : Prop :=
  Calls Try.prog 10 #[] w fun e0 w0 =>
  ∃ (r0 : Bool), e0 = .returned (.bool r0) ∧
  cond (!r0)
  (R (.returned (.bool false)) w0)
  (cond (decide ((Nat.cast l0l : Int) > 300))
  (R (.returned (.bool true)) w0)
  (Calls Try.prog 21 #[.slice l0p l0l l0c] w0 fun e1 w1 =>
  ∃ (r1 : Option Addr), ∃ (r2p : Option Addr), ∃ (r2l : Nat), ∃ (r2c : Nat), ∃ (r3 : Int), ∃ (r4 : Int), ∃ (r5 : Int), ∃ (r6 : Int), ∃ (r7 : Int), ∃ (r8 : Int), ∃ (r9 : Int), ∃ (r10 : Int), ∃ (r11 : Int), ∃ (r12 : Int), ∃ (r13 : Int), ∃ (r14 : Int), ∃ (r15 : Int), ∃ (r16 : Int), ∃ (r17 : Int), ∃ (r18 : Int), ∃ (r19p : Option Addr), ∃ (r19l : Nat), ∃ (r19c : Nat), ∃ (r20 : Bool), e1 = .returned (.tuple #[.pointer r1, .agg #[.slice r2p r2l r2c, .int .u64 r3, .int .u64 r4, .int .u64 r5, .int .u64 r6, .int .u64 r7, .int .u64 r8, .int .u64 r9, .int .u64 r10, .int .u64 r11, .int .u64 r12, .int .u64 r13, .int .u64 r14, .int .u64 r15, .int .u64 r16, .int .u64 r17, .int .u64 r18], .slice r19p r19l r19c, .bool r20]) ∧
  NewC (.cells #[.slice none 0 0, .int .u64 0, .int .u64 0, .int .u64 0, .int .u64 0, .int .u64 0, .int .u64 0, .int .u64 0, .int .u64 0, .int .u64 0, .int .u64 0, .int .u64 0, .int .u64 0, .int .u64 0, .int .u64 0, .int .u64 0, .int .u64 0] 44 (0, 0)) w1 fun b0 w2 =>
  St_tidemarkref9_Heap w2 (⟨b0, 0, none⟩) r2p r2l r2c r3 r4 r5 r6 r7 r8 r9 r10 r11 r12 r13 r14 r15 r16 r17 r18 fun w3 =>
  cond (!r20)
  (R (.returned (.bool false)) w3)
  (Calls Try.prog 24 #[.pointer r1] w3 fun e2 w4 =>
  ∃ (r21 : Option Addr), e2 = .returned (.pointer r21) ∧
  Calls Try.prog 42 #[.pointer r21] w4 fun e3 w5 =>
  ∃ (r22 : Int), e3 = .returned (.int .i64 r22) ∧
  Calls Try.prog 12 #[.pointer r1] w5 fun e4 w6 =>
  ∃ (r23 : Option Addr), e4 = .returned (.pointer r23) ∧
  Calls Try.prog 15 #[.pointer r23] w6 fun e5 w7 =>
  ∃ (r24 : Int), ∃ (r25 : Int), e5 = .returned (.tuple #[.int .i64 r24, .int .i64 r25]) ∧
  Ld_tidemarkref9_Heap w7 (⟨b0, 0, none⟩) fun s0p s0l s0c n0 n1 n2 n3 n4 n5 n6 n7 n8 n9 n10 n11 n12 n13 n14 n15 =>
  Calls Try.prog 35 #[.agg #[.slice s0p s0l s0c, .int .u64 n0, .int .u64 n1, .int .u64 n2, .int .u64 n3, .int .u64 n4, .int .u64 n5, .int .u64 n6, .int .u64 n7, .int .u64 n8, .int .u64 n9, .int .u64 n10, .int .u64 n11, .int .u64 n12, .int .u64 n13, .int .u64 n14, .int .u64 n15]] w7 fun e6 w8 =>
  ∃ (r26p : Option Addr), ∃ (r26l : Nat), ∃ (r26c : Nat), ∃ (r27 : Int), ∃ (r28 : Int), ∃ (r29 : Int), ∃ (r30 : Int), ∃ (r31 : Int), ∃ (r32 : Int), ∃ (r33 : Int), ∃ (r34 : Int), ∃ (r35 : Int), ∃ (r36 : Int), ∃ (r37 : Int), ∃ (r38 : Int), ∃ (r39 : Int), ∃ (r40 : Int), ∃ (r41 : Int), ∃ (r42 : Int), e6 = .returned (.agg #[.slice r26p r26l r26c, .int .u64 r27, .int .u64 r28, .int .u64 r29, .int .u64 r30, .int .u64 r31, .int .u64 r32, .int .u64 r33, .int .u64 r34, .int .u64 r35, .int .u64 r36, .int .u64 r37, .int .u64 r38, .int .u64 r39, .int .u64 r40, .int .u64 r41, .int .u64 r42]) ∧
  NewC (.cells #[.slice none 0 0, .int .u64 0, .int .u64 0, .int .u64 0, .int .u64 0, .int .u64 0, .int .u64 0, .int .u64 0, .int .u64 0, .int .u64 0, .int .u64 0, .int .u64 0, .int .u64 0, .int .u64 0, .int .u64 0, .int .u64 0, .int .u64 0] 44 (0, 0)) w8 fun b1 w9 =>
  St_tidemarkref9_Heap w9 (⟨b1, 0, none⟩) r26p r26l r26c r27 r28 r29 r30 r31 r32 r33 r34 r35 r36 r37 r38 r39 r40 r41 r42 fun w10 =>
  ∃ (I0 : Option Addr → Nat → Nat → Int → World → Prop) (M0 : Option Addr → Nat → Nat → Int → World → Nat), I0 none 0 0 0 w10 ∧
  ∀ (want0p : Option Addr) (want0l : Nat) (want0c : Nat) (i0 : Int) (w11 : World), I0 want0p want0l want0c i0 w11 →
  S_law11_SlideFull_l0 R r1 r19p r19l b0 r22 r23 r24 r25 b1 want0p want0l want0c i0 w11 I0 M0)))
def S_law11_SlideFull_ann : Ann := (.seq .leaf (.seq .leaf (.seq .leaf (.seq .leaf (.seq .leaf (.seq .leaf (.seq .leaf (.seq .leaf (.seq .leaf (.seq .leaf (.seq (.seq .leaf (.block (.loop [3, 4, 5, 7, 8, 9, 10, 11] [(12, .slice), (13, (.int .i64))] (.seq .leaf (.seq (.jblock [3, 4, 5, 7, 8, 9, 10, 11, 13] [(12, .slice)] (.seq (.draw 5) (.seq .anyt .leaf)) .leaf) .leaf))))) (.seq .leaf (.seq .anyt .leaf)))))))))))))
theorem S_law11_SlideFull_eq (l0p : Option Addr) (l0l : Nat) (l0c : Nat) (w : World) (R : Ending → World → Prop) : X Try.prog Try.f8.ntmps (bodyOf Try.f8) S_law11_SlideFull_ann (argEnv 0 [.slice l0p l0l l0c]) w (fun e w' => resK Try.prog Try.f8.results.toList e w' [] fun vs => R (.returned (pack vs)) w') (fun e w' => resK Try.prog Try.f8.results.toList e w' [] fun vs => R (.returned (pack vs)) w') (fun _ _ _ => False) = S_law11_SlideFull l0p l0l l0c w R := by kernel_rfl
theorem S_law11_SlideFull_ok (l0p : Option Addr) (l0l : Nat) (l0c : Nat) (w : World) (R : Ending → World → Prop) (h : S_law11_SlideFull l0p l0l l0c w R) : Calls Try.prog 8 #[.slice l0p l0l l0c] w R :=
  calls_of_X (an := S_law11_SlideFull_ann) wide_ok Try.func8 (by kernel_rfl) (by kernel_rfl) (by rw [S_law11_SlideFull_eq]; exact h)

def S_law11_SlideHalf_l0 (steps0 : Int) (R : Ending → World → Prop) (r21 : Option Addr) (k0 : World → Prop) (over0 : Bool) (i0 : Int) (w6 : World) (I0 : Bool → Int → World → Prop) (M0 : Bool → Int → World → Nat) : Prop :=
  cond (decide (i0 < (bAnd .i64 steps0 63)))
  (cond (!over0)
  (Calls Try.prog 13 #[.pointer r21, .int .i64 1] w6 fun e4 w7 =>
  ∃ (r23 : Bool), ∃ (r24 : Int), e4 = .returned (.tuple #[.bool r23, .int .i64 r24]) ∧
  cond (r24 != 0)
  (R (.returned (.bool false)) w7)
  (I0 r23 (IntKind.wrap .i64 (i0 + 1)) w7 ∧ M0 r23 (IntKind.wrap .i64 (i0 + 1)) w7 < M0 over0 i0 w6))
  (k0 w6))
  (k0 w6)
def S_law11_SlideHalf_j0 (R : Ending → World → Prop) (r1 : Option Addr) (b0 : Nat) (r21 : Option Addr) (w8 : World) : Prop :=
  Calls Try.prog 15 #[.pointer r21] w8 fun e5 w9 =>
  ∃ (r25 : Int), ∃ (r26 : Int), e5 = .returned (.tuple #[.int .i64 r25, .int .i64 r26]) ∧
  Ld_tidemarkref9_Heap w9 (⟨b0, 0, none⟩) fun s0p s0l s0c n0 n1 n2 n3 n4 n5 n6 n7 n8 n9 n10 n11 n12 n13 n14 n15 =>
  Calls Try.prog 41 #[.agg #[.slice s0p s0l s0c, .int .u64 n0, .int .u64 n1, .int .u64 n2, .int .u64 n3, .int .u64 n4, .int .u64 n5, .int .u64 n6, .int .u64 n7, .int .u64 n8, .int .u64 n9, .int .u64 n10, .int .u64 n11, .int .u64 n12, .int .u64 n13, .int .u64 n14, .int .u64 n15]] w9 fun e6 w10 =>
  ∃ (r27 : Int), ∃ (r28 : Int), e6 = .returned (.tuple #[.int .i64 r27, .int .i64 r28]) ∧
  ∃ C0 : World → Prop, C0 (World.drew w10) ∧
  cond (r26 == 0)
  (Calls Try.prog 19 #[.pointer r21] (World.drew w10) fun e7 w11 =>
  ∃ (r29 : Int), e7 = .returned (.int .i64 r29) ∧
  C0 w11 ∧
  cond (r29 == 2)
  (Calls Try.prog 14 #[.pointer r21] w11 fun e8 w12 =>
  ∃ (r30 : Int), e8 = .returned (.int .i64 r30) ∧
  C0 w12 ∧
  cond (r30 == 0)
  (Calls Try.prog 24 #[.pointer r1] w12 fun e9 w13 =>
  ∃ (r31 : Option Addr), e9 = .returned (.pointer r31) ∧
  C0 w13 ∧
  Calls Try.prog 25 #[.pointer r31] w13 fun e10 w14 =>
  ∃ (r32 : Int), e10 = .returned (.int .i64 r32) ∧
  C0 w14 ∧
  cond (r32 == r28)
  (∃ (s1p : Option Addr), ∃ (s1l : Nat), ∃ (s1c : Nat), ∃ (n16 : Int), ∃ (n17 : Int), ∃ (n18 : Int), ∃ (n19 : Int), ∃ (n20 : Int), ∃ (n21 : Int), ∃ (n22 : Int), ∃ (n23 : Int), ∃ (n24 : Int), ∃ (n25 : Int), ∃ (n26 : Int), ∃ (n27 : Int), ∃ (n28 : Int), ∃ (n29 : Int), ∃ (n30 : Int), ∃ (n31 : Int), (∀ (w15 : World), C0 w15 →
  Ld_tidemarkref9_Heap w15 (⟨b0, 0, none⟩) fun s2p s2l s2c n32 n33 n34 n35 n36 n37 n38 n39 n40 n41 n42 n43 n44 n45 n46 n47 =>
  Value.agg #[.slice s2p s2l s2c, .int .u64 n32, .int .u64 n33, .int .u64 n34, .int .u64 n35, .int .u64 n36, .int .u64 n37, .int .u64 n38, .int .u64 n39, .int .u64 n40, .int .u64 n41, .int .u64 n42, .int .u64 n43, .int .u64 n44, .int .u64 n45, .int .u64 n46, .int .u64 n47] = .agg #[.slice s1p s1l s1c, .int .u64 n16, .int .u64 n17, .int .u64 n18, .int .u64 n19, .int .u64 n20, .int .u64 n21, .int .u64 n22, .int .u64 n23, .int .u64 n24, .int .u64 n25, .int .u64 n26, .int .u64 n27, .int .u64 n28, .int .u64 n29, .int .u64 n30, .int .u64 n31]) ∧
  Calls Try.prog 23 #[.pointer r1] w14 fun e11 w16 =>
  ∃ (r33p : Option Addr), ∃ (r33l : Nat), ∃ (r33c : Nat), ∃ (r34p : Option Addr), ∃ (r34l : Nat), ∃ (r34c : Nat), e11 = .returned (.agg #[.slice r33p r33l r33c, .slice r34p r34l r34c]) ∧
  C0 w16 ∧
  Calls Try.prog 22 #[.agg #[.slice r33p r33l r33c, .slice r34p r34l r34c], .agg #[.slice s1p s1l s1c, .int .u64 n16, .int .u64 n17, .int .u64 n18, .int .u64 n19, .int .u64 n20, .int .u64 n21, .int .u64 n22, .int .u64 n23, .int .u64 n24, .int .u64 n25, .int .u64 n26, .int .u64 n27, .int .u64 n28, .int .u64 n29, .int .u64 n30, .int .u64 n31]] w16 fun e12 w17 =>
  ∃ (r35 : Int), e12 = .returned (.int .i64 r35) ∧
  cond (r35 == 0)
  (Calls Try.prog 34 #[.pointer r1] w17 fun e13 w18 =>
  ∃ (r36 : Int), e13 = .returned (.int .i64 r36) ∧
  R (.returned (.bool (r36 == 0))) w18)
  (R (.returned (.bool false)) w17))
  (R (.returned (.bool false)) w14))
  (R (.returned (.bool false)) w12))
  (R (.returned (.bool false)) w11))
  (R (.returned (.bool false)) (World.drew w10))
def S_law11_SlideHalf (l0p : Option Addr) (l0l : Nat) (l0c : Nat) (steps0 : Int) (w : World) (R : Ending → World → Prop) : Prop :=
  Calls Try.prog 10 #[] w fun e0 w0 =>
  ∃ (r0 : Bool), e0 = .returned (.bool r0) ∧
  cond (!r0)
  (R (.returned (.bool false)) w0)
  (cond (decide ((Nat.cast l0l : Int) > 300))
  (R (.returned (.bool true)) w0)
  (Calls Try.prog 21 #[.slice l0p l0l l0c] w0 fun e1 w1 =>
  ∃ (r1 : Option Addr), ∃ (r2p : Option Addr), ∃ (r2l : Nat), ∃ (r2c : Nat), ∃ (r3 : Int), ∃ (r4 : Int), ∃ (r5 : Int), ∃ (r6 : Int), ∃ (r7 : Int), ∃ (r8 : Int), ∃ (r9 : Int), ∃ (r10 : Int), ∃ (r11 : Int), ∃ (r12 : Int), ∃ (r13 : Int), ∃ (r14 : Int), ∃ (r15 : Int), ∃ (r16 : Int), ∃ (r17 : Int), ∃ (r18 : Int), ∃ (r19p : Option Addr), ∃ (r19l : Nat), ∃ (r19c : Nat), ∃ (r20 : Bool), e1 = .returned (.tuple #[.pointer r1, .agg #[.slice r2p r2l r2c, .int .u64 r3, .int .u64 r4, .int .u64 r5, .int .u64 r6, .int .u64 r7, .int .u64 r8, .int .u64 r9, .int .u64 r10, .int .u64 r11, .int .u64 r12, .int .u64 r13, .int .u64 r14, .int .u64 r15, .int .u64 r16, .int .u64 r17, .int .u64 r18], .slice r19p r19l r19c, .bool r20]) ∧
  NewC (.cells #[.slice none 0 0, .int .u64 0, .int .u64 0, .int .u64 0, .int .u64 0, .int .u64 0, .int .u64 0, .int .u64 0, .int .u64 0, .int .u64 0, .int .u64 0, .int .u64 0, .int .u64 0, .int .u64 0, .int .u64 0, .int .u64 0, .int .u64 0] 44 (0, 0)) w1 fun b0 w2 =>
  St_tidemarkref9_Heap w2 (⟨b0, 0, none⟩) r2p r2l r2c r3 r4 r5 r6 r7 r8 r9 r10 r11 r12 r13 r14 r15 r16 r17 r18 fun w3 =>
  cond (!r20)
  (R (.returned (.bool false)) w3)
  (Calls Try.prog 12 #[.pointer r1] w3 fun e2 w4 =>
  ∃ (r21 : Option Addr), e2 = .returned (.pointer r21) ∧
  Calls Try.prog 18 #[.pointer r21] w4 fun e3 w5 =>
  ∃ (r22 : Int), e3 = .returned (.int .i64 r22) ∧
  cond (r22 != 0)
  (R (.returned (.bool false)) w5)
  (∀ k0 : World → Prop,
  (∀ (w8 : World), S_law11_SlideHalf_j0 R r1 b0 r21 w8 → k0 w8) →
  ∃ (I0 : Bool → Int → World → Prop) (M0 : Bool → Int → World → Nat), I0 false 0 w5 ∧
  ∀ (over0 : Bool) (i0 : Int) (w6 : World), I0 over0 i0 w6 →
  S_law11_SlideHalf_l0 steps0 R r21 k0 over0 i0 w6 I0 M0))))
def S_law11_SlideHalf_ann : Ann := (.seq .leaf (.seq .leaf (.seq .leaf (.seq .leaf (.seq .leaf (.seq .leaf (.seq .leaf (.seq .leaf (.seq (.seq .leaf (.jblock [5, 6, 9] [] (.loop [1, 5, 6, 9] [(10, .bool), (11, (.int .i64))] .leaf) .leaf)) (.seq .leaf (.seq .leaf (.seq .anyt .leaf))))))))))))
theorem S_law11_SlideHalf_eq (l0p : Option Addr) (l0l : Nat) (l0c : Nat) (steps0 : Int) (w : World) (R : Ending → World → Prop) : X Try.prog Try.f9.ntmps (bodyOf Try.f9) S_law11_SlideHalf_ann (argEnv 0 [.slice l0p l0l l0c, .int .i64 steps0]) w (fun e w' => resK Try.prog Try.f9.results.toList e w' [] fun vs => R (.returned (pack vs)) w') (fun e w' => resK Try.prog Try.f9.results.toList e w' [] fun vs => R (.returned (pack vs)) w') (fun _ _ _ => False) = S_law11_SlideHalf l0p l0l l0c steps0 w R := by kernel_rfl
theorem S_law11_SlideHalf_ok (l0p : Option Addr) (l0l : Nat) (l0c : Nat) (steps0 : Int) (w : World) (R : Ending → World → Prop) (h : S_law11_SlideHalf l0p l0l l0c steps0 w R) : Calls Try.prog 9 #[.slice l0p l0l l0c, .int .i64 steps0] w R :=
  calls_of_X (an := S_law11_SlideHalf_ann) wide_ok Try.func9 (by kernel_rfl) (by kernel_rfl) (by rw [S_law11_SlideHalf_eq]; exact h)

def S_law11_awake (w : World) (R : Ending → World → Prop) : Prop :=
  Calls Try.prog 11 #[] w fun e0 w0 =>
  ∃ (r0 : Option Addr), ∃ (r1 : Int), ∃ (r2 : Int), ∃ (r3 : Bool), e0 = .returned (.tuple #[.pointer r0, .int .u64 r1, .int .u64 r2, .bool r3]) ∧
  cond (!r3)
  (R (.returned (.bool false)) w0)
  (Calls Try.prog 12 #[.pointer r0] w0 fun e1 w1 =>
  ∃ (r4 : Option Addr), e1 = .returned (.pointer r4) ∧
  cond r4.isNone
  (R (.returned (.bool false)) w1)
  (Calls Try.prog 15 #[.pointer r4] w1 fun e2 w2 =>
  ∃ (r5 : Int), ∃ (r6 : Int), e2 = .returned (.tuple #[.int .i64 r5, .int .i64 r6]) ∧
  Calls Try.prog 16 #[.pointer r0] w2 fun e3 w3 =>
  ∃ (r7 : Option Addr), e3 = .returned (.pointer r7) ∧
  Calls Try.prog 17 #[.pointer r7, .int .u64 r1] w3 fun e4 w4 =>
  ∃ (r8 : Int), ∃ (r9 : Int), e4 = .returned (.tuple #[.int .i64 r8, .int .i64 r9]) ∧
  cond (r5 == 4)
  (cond (r6 == 0)
  (cond (r9 == 0)
  (cond (r8 == 0)
  (Calls Try.prog 24 #[.pointer r0] w4 fun e5 w5 =>
  ∃ (r10 : Option Addr), e5 = .returned (.pointer r10) ∧
  Calls Try.prog 25 #[.pointer r10] w5 fun e6 w6 =>
  ∃ (r11 : Int), e6 = .returned (.int .i64 r11) ∧
  R (.returned (.bool (r11 == 3))) w6)
  (R (.returned (.bool false)) w4))
  (R (.returned (.bool false)) w4))
  (R (.returned (.bool false)) w4))
  (R (.returned (.bool false)) w4)))
def S_law11_awake_ann : Ann := .leaf
theorem S_law11_awake_eq (w : World) (R : Ending → World → Prop) : X Try.prog Try.f10.ntmps (bodyOf Try.f10) S_law11_awake_ann (argEnv 0 []) w (fun e w' => resK Try.prog Try.f10.results.toList e w' [] fun vs => R (.returned (pack vs)) w') (fun e w' => resK Try.prog Try.f10.results.toList e w' [] fun vs => R (.returned (pack vs)) w') (fun _ _ _ => False) = S_law11_awake w R := by kernel_rfl
theorem S_law11_awake_ok (w : World) (R : Ending → World → Prop) (h : S_law11_awake w R) : Calls Try.prog 10 #[] w R :=
  calls_of_X (an := S_law11_awake_ann) wide_ok Try.func10 (by kernel_rfl) (by kernel_rfl) (by rw [S_law11_awake_eq]; exact h)

def S_law11_two (w : World) (R : Ending → World → Prop) : Prop :=
  Calls Try.prog 27 #[.int .i64 100, .int .i64 10] w fun e0 w0 =>
  ∃ (r0 : Option Addr), e0 = .returned (.pointer r0) ∧
  cond r0.isNone
  (R (.returned (.tuple #[.pointer none, .int .u64 0, .int .u64 0, .bool false])) w0)
  (Calls Try.prog 28 #[.pointer r0, .int .i64 3, .int .i64 0, .int .i64 3] w0 fun e1 w1 =>
  ∃ (r1 : Int), ∃ (r2 : Int), e1 = .returned (.tuple #[.int .u64 r1, .int .i64 r2]) ∧
  Calls Try.prog 28 #[.pointer r0, .int .i64 1, .int .i64 0, .int .i64 2] w1 fun e2 w2 =>
  ∃ (r3 : Int), ∃ (r4 : Int), e2 = .returned (.tuple #[.int .u64 r3, .int .i64 r4]) ∧
  cond (r2 == 0)
  (cond (r4 == 0)
  (Calls Try.prog 29 #[.pointer r0, .int .i64 0, .int .u64 r3] w2 fun e3 w3 =>
  ∃ (r5 : Int), e3 = .returned (.int .i64 r5) ∧
  R (.returned (.tuple #[.pointer r0, .int .u64 r3, .int .u64 r1, .bool (r5 == 0)])) w3)
  (R (.returned (.tuple #[.pointer r0, .int .u64 r3, .int .u64 r1, .bool false])) w2))
  (R (.returned (.tuple #[.pointer r0, .int .u64 r3, .int .u64 r1, .bool false])) w2))
def S_law11_two_ann : Ann := .leaf
theorem S_law11_two_eq (w : World) (R : Ending → World → Prop) : X Try.prog Try.f11.ntmps (bodyOf Try.f11) S_law11_two_ann (argEnv 0 []) w (fun e w' => resK Try.prog Try.f11.results.toList e w' [] fun vs => R (.returned (pack vs)) w') (fun e w' => resK Try.prog Try.f11.results.toList e w' [] fun vs => R (.returned (pack vs)) w') (fun _ _ _ => False) = S_law11_two w R := by kernel_rfl
theorem S_law11_two_ok (w : World) (R : Ending → World → Prop) (h : S_law11_two w R) : Calls Try.prog 11 #[] w R :=
  calls_of_X (an := S_law11_two_ann) wide_ok Try.func11 (by kernel_rfl) (by kernel_rfl) (by rw [S_law11_two_eq]; exact h)

def S_law10_Made_j0 (told0p : Option Addr) (told0l : Nat) (told0c : Nat) (i0 : Int) (w4 : World) (I0 : Option Addr → Nat → Nat → Int → World → Prop) (M0 : Option Addr → Nat → Nat → Int → World → Nat) (told1p : Option Addr) (told1l : Nat) (told1c : Nat) (w17 : World) : Prop :=
  I0 told1p told1l told1c (IntKind.wrap .i64 (i0 + 1)) w17 ∧ M0 told1p told1l told1c (IntKind.wrap .i64 (i0 + 1)) w17 < M0 told0p told0l told0c i0 w4
set_option maxRecDepth 100000 in
def S_law10_Made_l0 (l0p : Option Addr) (l0l : Nat) (R : Ending → World → Prop) (b0 : Nat) (r0 : Option Addr) (b1 : Nat) (told0p : Option Addr) (told0l : Nat) (told0c : Nat) (i0 : Int) (w4 : World) (I0 : Option Addr → Nat → Nat → Int → World → Prop) (M0 : Option Addr → Nat → Nat → Int → World → Nat) : Prop :=
  cond (decide (i0 < (Nat.cast l0l : Int)))
  (∀ k0 : Option Addr → Nat → Nat → World → Prop,
  (∀ (told1p : Option Addr) (told1l : Nat) (told1c : Nat) (w17 : World), S_law10_Made_j0 told0p told0l told0c i0 w4 I0 M0 told1p told1l told1c w17 → k0 told1p told1l told1c w17) →
  ∃ C0 : World → Prop, C0 (World.drew w4) ∧
  ∃ (s2p : Option Addr), ∃ (s2l : Nat), ∃ (s2c : Nat), ∃ (n32 : Int), ∃ (n33 : Int), ∃ (n34 : Int), ∃ (n35 : Int), ∃ (n36 : Int), ∃ (n37 : Int), ∃ (n38 : Int), ∃ (n39 : Int), ∃ (n40 : Int), ∃ (n41 : Int), ∃ (n42 : Int), ∃ (n43 : Int), ∃ (n44 : Int), ∃ (n45 : Int), ∃ (n46 : Int), ∃ (n47 : Int), (∀ (w5 : World), C0 w5 →
  Ld_tidemarkref9_Heap w5 (⟨b1, 0, none⟩) fun s3p s3l s3c n48 n49 n50 n51 n52 n53 n54 n55 n56 n57 n58 n59 n60 n61 n62 n63 =>
  Value.agg #[.slice s3p s3l s3c, .int .u64 n48, .int .u64 n49, .int .u64 n50, .int .u64 n51, .int .u64 n52, .int .u64 n53, .int .u64 n54, .int .u64 n55, .int .u64 n56, .int .u64 n57, .int .u64 n58, .int .u64 n59, .int .u64 n60, .int .u64 n61, .int .u64 n62, .int .u64 n63] = .agg #[.slice s2p s2l s2c, .int .u64 n32, .int .u64 n33, .int .u64 n34, .int .u64 n35, .int .u64 n36, .int .u64 n37, .int .u64 n38, .int .u64 n39, .int .u64 n40, .int .u64 n41, .int .u64 n42, .int .u64 n43, .int .u64 n44, .int .u64 n45, .int .u64 n46, .int .u64 n47]) ∧
  IdxC l0p l0l i0 6 fun a0 =>
  ∃ (n64 : Int), ∃ (n65 : Int), ∃ (n66 : Int), ∃ (n67 : Int), ∃ (n68 : Int), ∃ (n69 : Int), (∀ (w6 : World), C0 w6 →
  LdI .i64 w6 a0 fun n70 =>
  LdI .i64 w6 (Addr.add a0 1) fun n71 =>
  LdI .i64 w6 (Addr.add a0 2) fun n72 =>
  LdI .i64 w6 (Addr.add a0 3) fun n73 =>
  LdI .i64 w6 (Addr.add a0 4) fun n74 =>
  LdI .u64 w6 (Addr.add a0 5) fun n75 =>
  Value.agg #[.int .i64 n70, .int .i64 n71, .int .i64 n72, .int .i64 n73, .int .i64 n74, .int .u64 n75] = .agg #[.int .i64 n64, .int .i64 n65, .int .i64 n66, .int .i64 n67, .int .i64 n68, .int .u64 n69]) ∧
  (Calls Try.prog 39 #[.pointer r0, .agg #[.slice s2p s2l s2c, .int .u64 n32, .int .u64 n33, .int .u64 n34, .int .u64 n35, .int .u64 n36, .int .u64 n37, .int .u64 n38, .int .u64 n39, .int .u64 n40, .int .u64 n41, .int .u64 n42, .int .u64 n43, .int .u64 n44, .int .u64 n45, .int .u64 n46, .int .u64 n47], .slice told0p told0l told0c, .agg #[.int .i64 n64, .int .i64 n65, .int .i64 n66, .int .i64 n67, .int .i64 n68, .int .u64 n69]] (World.drew w4) fun e1 w7 =>
  ∃ (r1p : Option Addr), ∃ (r1l : Nat), ∃ (r1c : Nat), ∃ (r2 : Int), ∃ (r3 : Int), ∃ (r4 : Int), ∃ (r5 : Int), ∃ (r6 : Int), ∃ (r7 : Int), ∃ (r8 : Int), ∃ (r9 : Int), ∃ (r10 : Int), ∃ (r11 : Int), ∃ (r12 : Int), ∃ (r13 : Int), ∃ (r14 : Int), ∃ (r15 : Int), ∃ (r16 : Int), ∃ (r17 : Int), ∃ (r18p : Option Addr), ∃ (r18l : Nat), ∃ (r18c : Nat), ∃ (r19 : Bool), e1 = .returned (.tuple #[.agg #[.slice r1p r1l r1c, .int .u64 r2, .int .u64 r3, .int .u64 r4, .int .u64 r5, .int .u64 r6, .int .u64 r7, .int .u64 r8, .int .u64 r9, .int .u64 r10, .int .u64 r11, .int .u64 r12, .int .u64 r13, .int .u64 r14, .int .u64 r15, .int .u64 r16, .int .u64 r17], .slice r18p r18l r18c, .bool r19]) ∧
  NewC (.cells #[.slice none 0 0, .int .u64 0, .int .u64 0, .int .u64 0, .int .u64 0, .int .u64 0, .int .u64 0, .int .u64 0, .int .u64 0, .int .u64 0, .int .u64 0, .int .u64 0, .int .u64 0, .int .u64 0, .int .u64 0, .int .u64 0, .int .u64 0] 44 (0, 0)) w7 fun b2 w8 =>
  St_tidemarkref9_Heap w8 (⟨b2, 0, none⟩) r1p r1l r1c r2 r3 r4 r5 r6 r7 r8 r9 r10 r11 r12 r13 r14 r15 r16 r17 fun w9 =>
  cond (!r19)
  (Ld_tidemarkref9_Heap (World.drew w9) (⟨b1, 0, none⟩) fun s4p s4l s4c n76 n77 n78 n79 n80 n81 n82 n83 n84 n85 n86 n87 n88 n89 n90 n91 =>
  St_tidemarkref9_Heap (World.drew w9) (⟨b0, 0, none⟩) s4p s4l s4c n76 n77 n78 n79 n80 n81 n82 n83 n84 n85 n86 n87 n88 n89 n90 n91 fun w10 =>
  Ld_tidemarkref9_Heap w10 (⟨b0, 0, none⟩) fun s5p s5l s5c n92 n93 n94 n95 n96 n97 n98 n99 n100 n101 n102 n103 n104 n105 n106 n107 =>
  R (.returned (.tuple #[.pointer none, .agg #[.slice s5p s5l s5c, .int .u64 n92, .int .u64 n93, .int .u64 n94, .int .u64 n95, .int .u64 n96, .int .u64 n97, .int .u64 n98, .int .u64 n99, .int .u64 n100, .int .u64 n101, .int .u64 n102, .int .u64 n103, .int .u64 n104, .int .u64 n105, .int .u64 n106, .int .u64 n107], .slice none 0 0, .bool false])) w10)
  (Ld_tidemarkref9_Heap w9 (⟨b2, 0, none⟩) fun s6p s6l s6c n108 n109 n110 n111 n112 n113 n114 n115 n116 n117 n118 n119 n120 n121 n122 n123 =>
  St_tidemarkref9_Heap w9 (⟨b1, 0, none⟩) s6p s6l s6c n108 n109 n110 n111 n112 n113 n114 n115 n116 n117 n118 n119 n120 n121 n122 n123 fun w11 =>
  k0 r18p r18l r18c w11)) ∧
  (NewC (.cells #[.slice none 0 0, .int .u64 0, .int .u64 0, .int .u64 0, .int .u64 0, .int .u64 0, .int .u64 0, .int .u64 0, .int .u64 0, .int .u64 0, .int .u64 0, .int .u64 0, .int .u64 0, .int .u64 0, .int .u64 0, .int .u64 0, .int .u64 0] 44 (0, 0)) (World.drew w4) fun b3 w12 =>
  C0 w12 ∧
  Calls Try.prog 39 #[.pointer r0, .agg #[.slice s2p s2l s2c, .int .u64 n32, .int .u64 n33, .int .u64 n34, .int .u64 n35, .int .u64 n36, .int .u64 n37, .int .u64 n38, .int .u64 n39, .int .u64 n40, .int .u64 n41, .int .u64 n42, .int .u64 n43, .int .u64 n44, .int .u64 n45, .int .u64 n46, .int .u64 n47], .slice told0p told0l told0c, .agg #[.int .i64 n64, .int .i64 n65, .int .i64 n66, .int .i64 n67, .int .i64 n68, .int .u64 n69]] w12 fun e2 w13 =>
  ∃ (r20p : Option Addr), ∃ (r20l : Nat), ∃ (r20c : Nat), ∃ (r21 : Int), ∃ (r22 : Int), ∃ (r23 : Int), ∃ (r24 : Int), ∃ (r25 : Int), ∃ (r26 : Int), ∃ (r27 : Int), ∃ (r28 : Int), ∃ (r29 : Int), ∃ (r30 : Int), ∃ (r31 : Int), ∃ (r32 : Int), ∃ (r33 : Int), ∃ (r34 : Int), ∃ (r35 : Int), ∃ (r36 : Int), ∃ (r37p : Option Addr), ∃ (r37l : Nat), ∃ (r37c : Nat), ∃ (r38 : Bool), e2 = .returned (.tuple #[.agg #[.slice r20p r20l r20c, .int .u64 r21, .int .u64 r22, .int .u64 r23, .int .u64 r24, .int .u64 r25, .int .u64 r26, .int .u64 r27, .int .u64 r28, .int .u64 r29, .int .u64 r30, .int .u64 r31, .int .u64 r32, .int .u64 r33, .int .u64 r34, .int .u64 r35, .int .u64 r36], .slice r37p r37l r37c, .bool r38]) ∧
  St_tidemarkref9_Heap w13 (⟨b3, 0, none⟩) r20p r20l r20c r21 r22 r23 r24 r25 r26 r27 r28 r29 r30 r31 r32 r33 r34 r35 r36 fun w14 =>
  cond (!r38)
  (Ld_tidemarkref9_Heap (World.drew w14) (⟨b1, 0, none⟩) fun s7p s7l s7c n124 n125 n126 n127 n128 n129 n130 n131 n132 n133 n134 n135 n136 n137 n138 n139 =>
  St_tidemarkref9_Heap (World.drew w14) (⟨b0, 0, none⟩) s7p s7l s7c n124 n125 n126 n127 n128 n129 n130 n131 n132 n133 n134 n135 n136 n137 n138 n139 fun w15 =>
  Ld_tidemarkref9_Heap w15 (⟨b0, 0, none⟩) fun s8p s8l s8c n140 n141 n142 n143 n144 n145 n146 n147 n148 n149 n150 n151 n152 n153 n154 n155 =>
  R (.returned (.tuple #[.pointer none, .agg #[.slice s8p s8l s8c, .int .u64 n140, .int .u64 n141, .int .u64 n142, .int .u64 n143, .int .u64 n144, .int .u64 n145, .int .u64 n146, .int .u64 n147, .int .u64 n148, .int .u64 n149, .int .u64 n150, .int .u64 n151, .int .u64 n152, .int .u64 n153, .int .u64 n154, .int .u64 n155], .slice none 0 0, .bool false])) w15)
  (Ld_tidemarkref9_Heap w14 (⟨b3, 0, none⟩) fun s9p s9l s9c n156 n157 n158 n159 n160 n161 n162 n163 n164 n165 n166 n167 n168 n169 n170 n171 =>
  St_tidemarkref9_Heap w14 (⟨b1, 0, none⟩) s9p s9l s9c n156 n157 n158 n159 n160 n161 n162 n163 n164 n165 n166 n167 n168 n169 n170 n171 fun w16 =>
  k0 r37p r37l r37c w16)))
  (∃ C1 : World → Prop, C1 (World.drew w4) ∧
  ∃ (s10p : Option Addr), ∃ (s10l : Nat), ∃ (s10c : Nat), ∃ (n172 : Int), ∃ (n173 : Int), ∃ (n174 : Int), ∃ (n175 : Int), ∃ (n176 : Int), ∃ (n177 : Int), ∃ (n178 : Int), ∃ (n179 : Int), ∃ (n180 : Int), ∃ (n181 : Int), ∃ (n182 : Int), ∃ (n183 : Int), ∃ (n184 : Int), ∃ (n185 : Int), ∃ (n186 : Int), ∃ (n187 : Int), (∀ (w18 : World), C1 w18 →
  Ld_tidemarkref9_Heap w18 (⟨b1, 0, none⟩) fun s11p s11l s11c n188 n189 n190 n191 n192 n193 n194 n195 n196 n197 n198 n199 n200 n201 n202 n203 =>
  Value.agg #[.slice s11p s11l s11c, .int .u64 n188, .int .u64 n189, .int .u64 n190, .int .u64 n191, .int .u64 n192, .int .u64 n193, .int .u64 n194, .int .u64 n195, .int .u64 n196, .int .u64 n197, .int .u64 n198, .int .u64 n199, .int .u64 n200, .int .u64 n201, .int .u64 n202, .int .u64 n203] = .agg #[.slice s10p s10l s10c, .int .u64 n172, .int .u64 n173, .int .u64 n174, .int .u64 n175, .int .u64 n176, .int .u64 n177, .int .u64 n178, .int .u64 n179, .int .u64 n180, .int .u64 n181, .int .u64 n182, .int .u64 n183, .int .u64 n184, .int .u64 n185, .int .u64 n186, .int .u64 n187]) ∧
  St_tidemarkref9_Heap (World.drew w4) (⟨b0, 0, none⟩) s10p s10l s10c n172 n173 n174 n175 n176 n177 n178 n179 n180 n181 n182 n183 n184 n185 n186 n187 fun w19 =>
  Ld_tidemarkref9_Heap w19 (⟨b0, 0, none⟩) fun s12p s12l s12c n204 n205 n206 n207 n208 n209 n210 n211 n212 n213 n214 n215 n216 n217 n218 n219 =>
  R (.returned (.tuple #[.pointer r0, .agg #[.slice s12p s12l s12c, .int .u64 n204, .int .u64 n205, .int .u64 n206, .int .u64 n207, .int .u64 n208, .int .u64 n209, .int .u64 n210, .int .u64 n211, .int .u64 n212, .int .u64 n213, .int .u64 n214, .int .u64 n215, .int .u64 n216, .int .u64 n217, .int .u64 n218, .int .u64 n219], .slice told0p told0l told0c, .bool true])) w19)
def S_law10_Made (l0p : Option Addr) (l0l : Nat) (l0c : Nat) (w : World) (R : Ending → World → Prop) : Prop :=
  NewC (.cells #[.slice none 0 0, .int .u64 0, .int .u64 0, .int .u64 0, .int .u64 0, .int .u64 0, .int .u64 0, .int .u64 0, .int .u64 0, .int .u64 0, .int .u64 0, .int .u64 0, .int .u64 0, .int .u64 0, .int .u64 0, .int .u64 0, .int .u64 0] 44 (0, 0)) w fun b0 w0 =>
  Calls Try.prog 27 #[.int .i64 16384, .int .i64 1024] w0 fun e0 w1 =>
  ∃ (r0 : Option Addr), e0 = .returned (.pointer r0) ∧
  NewC (.cells #[.slice none 0 0, .int .u64 0, .int .u64 0, .int .u64 0, .int .u64 0, .int .u64 0, .int .u64 0, .int .u64 0, .int .u64 0, .int .u64 0, .int .u64 0, .int .u64 0, .int .u64 0, .int .u64 0, .int .u64 0, .int .u64 0, .int .u64 0] 44 (0, 0)) w1 fun b1 w2 =>
  cond r0.isNone
  (Ld_tidemarkref9_Heap (World.drew w2) (⟨b1, 0, none⟩) fun s0p s0l s0c n0 n1 n2 n3 n4 n5 n6 n7 n8 n9 n10 n11 n12 n13 n14 n15 =>
  St_tidemarkref9_Heap (World.drew w2) (⟨b0, 0, none⟩) s0p s0l s0c n0 n1 n2 n3 n4 n5 n6 n7 n8 n9 n10 n11 n12 n13 n14 n15 fun w3 =>
  Ld_tidemarkref9_Heap w3 (⟨b0, 0, none⟩) fun s1p s1l s1c n16 n17 n18 n19 n20 n21 n22 n23 n24 n25 n26 n27 n28 n29 n30 n31 =>
  R (.returned (.tuple #[.pointer none, .agg #[.slice s1p s1l s1c, .int .u64 n16, .int .u64 n17, .int .u64 n18, .int .u64 n19, .int .u64 n20, .int .u64 n21, .int .u64 n22, .int .u64 n23, .int .u64 n24, .int .u64 n25, .int .u64 n26, .int .u64 n27, .int .u64 n28, .int .u64 n29, .int .u64 n30, .int .u64 n31], .slice none 0 0, .bool false])) w3)
  (∃ (I0 : Option Addr → Nat → Nat → Int → World → Prop) (M0 : Option Addr → Nat → Nat → Int → World → Nat), I0 none 0 0 0 w2 ∧
  ∀ (told0p : Option Addr) (told0l : Nat) (told0c : Nat) (i0 : Int) (w4 : World), I0 told0p told0l told0c i0 w4 →
  S_law10_Made_l0 l0p l0l R b0 r0 b1 told0p told0l told0c i0 w4 I0 M0)
def S_law10_Made_ann : Ann := (.seq .leaf (.seq .leaf (.seq .leaf (.seq .leaf (.seq (.seq .leaf (.cond (.seq (.draw 2) .leaf) .leaf)) (.seq (.seq .leaf (.block (.loop [0, 3, 6, 7] [(8, .slice), (9, (.int .i64))] (.seq .leaf (.seq (.jblock [0, 3, 6, 7, 9] [(8, .slice)] (.seq .anyt (.seq (.seq .leaf (.cond (.seq (.draw 2) .leaf) .leaf)) .leaf)) .leaf) .leaf))))) (.seq .anyt .leaf)))))))
theorem S_law10_Made_eq (l0p : Option Addr) (l0l : Nat) (l0c : Nat) (w : World) (R : Ending → World → Prop) : X Try.prog Try.f21.ntmps (bodyOf Try.f21) S_law10_Made_ann (argEnv 0 [.slice l0p l0l l0c]) w (fun e w' => resK Try.prog Try.f21.results.toList e w' [] fun vs => R (.returned (pack vs)) w') (fun e w' => resK Try.prog Try.f21.results.toList e w' [] fun vs => R (.returned (pack vs)) w') (fun _ _ _ => False) = S_law10_Made l0p l0l l0c w R := by kernel_rfl
theorem S_law10_Made_ok (l0p : Option Addr) (l0l : Nat) (l0c : Nat) (w : World) (R : Ending → World → Prop) (h : S_law10_Made l0p l0l l0c w R) : Calls Try.prog 21 #[.slice l0p l0l l0c] w R :=
  calls_of_X (an := S_law10_Made_ann) wide_ok Try.func21 (by kernel_rfl) (by kernel_rfl) (by rw [S_law10_Made_eq]; exact h)

def S_law9_Differ_l0 (R : Ending → World → Prop) (b0 : Nat) (r1p : Option Addr) (r1l : Nat) (i1 : Int) (w4 : World) (I1 : Int → World → Prop) (M1 : Int → World → Nat) : Prop :=
  cond (decide (i1 < (Nat.cast r1l : Int)))
  (LdS (World.drew w4) (Addr.add (⟨b0, 0, none⟩) 1) fun s4p s4l _ =>
  IdxC s4p s4l i1 3 fun a2 =>
  LdI .i64 (World.drew w4) a2 fun n18 =>
  LdS (World.drew w4) (Addr.add a2 1) fun s5p s5l s5c =>
  LdS (World.drew w4) (Addr.add a2 2) fun s6p s6l s6c =>
  IdxC r1p r1l i1 3 fun a3 =>
  LdI .i64 (World.drew w4) a3 fun n19 =>
  LdS (World.drew w4) (Addr.add a3 1) fun s7p s7l s7c =>
  LdS (World.drew w4) (Addr.add a3 2) fun s8p s8l s8c =>
  Calls Try.prog 56 #[.agg #[.int .i64 n18, .slice s5p s5l s5c, .slice s6p s6l s6c], .agg #[.int .i64 n19, .slice s7p s7l s7c, .slice s8p s8l s8c]] (World.drew w4) fun e1 w5 =>
  ∃ (r2 : Bool), e1 = .returned (.bool r2) ∧
  cond (!r2)
  (R (.returned (.int .i64 1)) w5)
  (I1 (IntKind.wrap .i64 (i1 + 1)) w5 ∧ M1 (IntKind.wrap .i64 (i1 + 1)) w5 < M1 i1 w4))
  (R (.returned (.int .i64 0)) w4)
def S_law9_Differ_l1 (R : Ending → World → Prop) (b0 : Nat) (r0p : Option Addr) (r0l : Nat) (r1p : Option Addr) (r1l : Nat) (i0 : Int) (w3 : World) (I0 : Int → World → Prop) (M0 : Int → World → Nat) : Prop :=
  cond (decide (i0 < 16))
  (LdS (World.drew w3) (⟨b0, 0, none⟩) fun s3p s3l _ =>
  IdxC s3p s3l i0 1 fun a0 =>
  LdI .i64 (World.drew w3) a0 fun n16 =>
  IdxC r0p r0l i0 1 fun a1 =>
  LdI .i64 (World.drew w3) a1 fun n17 =>
  cond (n16 != n17)
  (R (.returned (.int .i64 1)) (World.drew w3))
  (I0 (IntKind.wrap .i64 (i0 + 1)) (World.drew w3) ∧ M0 (IntKind.wrap .i64 (i0 + 1)) (World.drew w3) < M0 i0 w3))
  (∃ (I1 : Int → World → Prop) (M1 : Int → World → Nat), I1 0 w3 ∧
  ∀ (i1 : Int) (w4 : World), I1 i1 w4 →
  S_law9_Differ_l0 R b0 r1p r1l i1 w4 I1 M1)
def S_law9_Differ (g0p : Option Addr) (g0l : Nat) (g0c : Nat) (g1p : Option Addr) (g1l : Nat) (g1c : Nat) (m0p : Option Addr) (m0l : Nat) (m0c : Nat) (m1 : Int) (m2 : Int) (m3 : Int) (m4 : Int) (m5 : Int) (m6 : Int) (m7 : Int) (m8 : Int) (m9 : Int) (m10 : Int) (m11 : Int) (m12 : Int) (m13 : Int) (m14 : Int) (m15 : Int) (m16 : Int) (w : World) (R : Ending → World → Prop) : Prop :=
  NewC (.cells #[.slice g0p g0l g0c, .slice g1p g1l g1c] 51 (0, 0)) w fun b0 w0 =>
  NewC (.cells #[.slice m0p m0l m0c, .int .u64 m1, .int .u64 m2, .int .u64 m3, .int .u64 m4, .int .u64 m5, .int .u64 m6, .int .u64 m7, .int .u64 m8, .int .u64 m9, .int .u64 m10, .int .u64 m11, .int .u64 m12, .int .u64 m13, .int .u64 m14, .int .u64 m15, .int .u64 m16] 44 (0, 0)) w0 fun b1 w1 =>
  Ld_tidemarkref9_Heap w1 (⟨b1, 0, none⟩) fun s0p s0l s0c n0 n1 n2 n3 n4 n5 n6 n7 n8 n9 n10 n11 n12 n13 n14 n15 =>
  Calls Try.prog 55 #[.agg #[.slice s0p s0l s0c, .int .u64 n0, .int .u64 n1, .int .u64 n2, .int .u64 n3, .int .u64 n4, .int .u64 n5, .int .u64 n6, .int .u64 n7, .int .u64 n8, .int .u64 n9, .int .u64 n10, .int .u64 n11, .int .u64 n12, .int .u64 n13, .int .u64 n14, .int .u64 n15]] w1 fun e0 w2 =>
  ∃ (r0p : Option Addr), ∃ (r0l : Nat), ∃ (r0c : Nat), ∃ (r1p : Option Addr), ∃ (r1l : Nat), ∃ (r1c : Nat), e0 = .returned (.tuple #[.slice r0p r0l r0c, .slice r1p r1l r1c]) ∧
  LdS w2 (⟨b0, 0, none⟩) fun _ s1l _ =>
  cond ((Nat.cast s1l : Int) != 16)
  (R (.returned (.int .i64 1)) w2)
  (LdS w2 (Addr.add (⟨b0, 0, none⟩) 1) fun _ s2l _ =>
  cond ((Nat.cast s2l : Int) != (Nat.cast r1l : Int))
  (R (.returned (.int .i64 1)) w2)
  (∃ (I0 : Int → World → Prop) (M0 : Int → World → Nat), I0 0 w2 ∧
  ∀ (i0 : Int) (w3 : World), I0 i0 w3 →
  S_law9_Differ_l1 R b0 r0p r0l r1p r1l i0 w3 I0 M0))
def S_law9_Differ_ann : Ann := (.seq .leaf (.seq .leaf (.seq .leaf (.seq (.seq .leaf (.block (.loop [2, 5, 6] [(7, (.int .i64))] (.seq .leaf (.seq (.block (.seq (.draw 10) .leaf)) .leaf))))) (.seq (.seq .leaf (.block (.loop [2, 6] [(8, (.int .i64))] (.seq .leaf (.seq (.block (.seq (.draw 9) .leaf)) .leaf))))) .leaf)))))
theorem S_law9_Differ_eq (g0p : Option Addr) (g0l : Nat) (g0c : Nat) (g1p : Option Addr) (g1l : Nat) (g1c : Nat) (m0p : Option Addr) (m0l : Nat) (m0c : Nat) (m1 : Int) (m2 : Int) (m3 : Int) (m4 : Int) (m5 : Int) (m6 : Int) (m7 : Int) (m8 : Int) (m9 : Int) (m10 : Int) (m11 : Int) (m12 : Int) (m13 : Int) (m14 : Int) (m15 : Int) (m16 : Int) (w : World) (R : Ending → World → Prop) : X Try.prog Try.f22.ntmps (bodyOf Try.f22) S_law9_Differ_ann (argEnv 0 [.agg #[.slice g0p g0l g0c, .slice g1p g1l g1c], .agg #[.slice m0p m0l m0c, .int .u64 m1, .int .u64 m2, .int .u64 m3, .int .u64 m4, .int .u64 m5, .int .u64 m6, .int .u64 m7, .int .u64 m8, .int .u64 m9, .int .u64 m10, .int .u64 m11, .int .u64 m12, .int .u64 m13, .int .u64 m14, .int .u64 m15, .int .u64 m16]]) w (fun e w' => resK Try.prog Try.f22.results.toList e w' [] fun vs => R (.returned (pack vs)) w') (fun e w' => resK Try.prog Try.f22.results.toList e w' [] fun vs => R (.returned (pack vs)) w') (fun _ _ _ => False) = S_law9_Differ g0p g0l g0c g1p g1l g1c m0p m0l m0c m1 m2 m3 m4 m5 m6 m7 m8 m9 m10 m11 m12 m13 m14 m15 m16 w R := by kernel_rfl
theorem S_law9_Differ_ok (g0p : Option Addr) (g0l : Nat) (g0c : Nat) (g1p : Option Addr) (g1l : Nat) (g1c : Nat) (m0p : Option Addr) (m0l : Nat) (m0c : Nat) (m1 : Int) (m2 : Int) (m3 : Int) (m4 : Int) (m5 : Int) (m6 : Int) (m7 : Int) (m8 : Int) (m9 : Int) (m10 : Int) (m11 : Int) (m12 : Int) (m13 : Int) (m14 : Int) (m15 : Int) (m16 : Int) (w : World) (R : Ending → World → Prop) (h : S_law9_Differ g0p g0l g0c g1p g1l g1c m0p m0l m0c m1 m2 m3 m4 m5 m6 m7 m8 m9 m10 m11 m12 m13 m14 m15 m16 w R) : Calls Try.prog 22 #[.agg #[.slice g0p g0l g0c, .slice g1p g1l g1c], .agg #[.slice m0p m0l m0c, .int .u64 m1, .int .u64 m2, .int .u64 m3, .int .u64 m4, .int .u64 m5, .int .u64 m6, .int .u64 m7, .int .u64 m8, .int .u64 m9, .int .u64 m10, .int .u64 m11, .int .u64 m12, .int .u64 m13, .int .u64 m14, .int .u64 m15, .int .u64 m16]] w R :=
  calls_of_X (an := S_law9_Differ_ann) wide_ok Try.func22 (by kernel_rfl) (by kernel_rfl) (by rw [S_law9_Differ_eq]; exact h)

def S_ref9_Reached (h0p : Option Addr) (h0l : Nat) (h0c : Nat) (h1 : Int) (h2 : Int) (h3 : Int) (h4 : Int) (h5 : Int) (h6 : Int) (h7 : Int) (h8 : Int) (h9 : Int) (h10 : Int) (h11 : Int) (h12 : Int) (h13 : Int) (h14 : Int) (h15 : Int) (h16 : Int) (x0 : Int) (w : World) (R : Ending → World → Prop) : Prop :=
  NewC (.cells #[.slice h0p h0l h0c, .int .u64 h1, .int .u64 h2, .int .u64 h3, .int .u64 h4, .int .u64 h5, .int .u64 h6, .int .u64 h7, .int .u64 h8, .int .u64 h9, .int .u64 h10, .int .u64 h11, .int .u64 h12, .int .u64 h13, .int .u64 h14, .int .u64 h15, .int .u64 h16] 44 (0, 0)) w fun b0 w0 =>
  Ld_tidemarkref9_Heap w0 (⟨b0, 0, none⟩) fun s0p s0l s0c n0 n1 n2 n3 n4 n5 n6 n7 n8 n9 n10 n11 n12 n13 n14 n15 =>
  Calls Try.prog 61 #[.agg #[.slice s0p s0l s0c, .int .u64 n0, .int .u64 n1, .int .u64 n2, .int .u64 n3, .int .u64 n4, .int .u64 n5, .int .u64 n6, .int .u64 n7, .int .u64 n8, .int .u64 n9, .int .u64 n10, .int .u64 n11, .int .u64 n12, .int .u64 n13, .int .u64 n14, .int .u64 n15]] w0 fun e0 w1 =>
  ∃ (r0p : Option Addr), ∃ (r0l : Nat), ∃ (r0c : Nat), e0 = .returned (.slice r0p r0l r0c) ∧
  Calls Try.prog 60 #[.slice r0p r0l r0c, .int .u64 x0] w1 fun e1 w2 =>
  ∃ (r1 : Int), e1 = .returned (.int .i64 r1) ∧
  R (.returned (.bool (decide (r1 ≥ 0)))) w2
def S_ref9_Reached_ann : Ann := .leaf
theorem S_ref9_Reached_eq (h0p : Option Addr) (h0l : Nat) (h0c : Nat) (h1 : Int) (h2 : Int) (h3 : Int) (h4 : Int) (h5 : Int) (h6 : Int) (h7 : Int) (h8 : Int) (h9 : Int) (h10 : Int) (h11 : Int) (h12 : Int) (h13 : Int) (h14 : Int) (h15 : Int) (h16 : Int) (x0 : Int) (w : World) (R : Ending → World → Prop) : X Try.prog Try.f26.ntmps (bodyOf Try.f26) S_ref9_Reached_ann (argEnv 0 [.agg #[.slice h0p h0l h0c, .int .u64 h1, .int .u64 h2, .int .u64 h3, .int .u64 h4, .int .u64 h5, .int .u64 h6, .int .u64 h7, .int .u64 h8, .int .u64 h9, .int .u64 h10, .int .u64 h11, .int .u64 h12, .int .u64 h13, .int .u64 h14, .int .u64 h15, .int .u64 h16], .int .u64 x0]) w (fun e w' => resK Try.prog Try.f26.results.toList e w' [] fun vs => R (.returned (pack vs)) w') (fun e w' => resK Try.prog Try.f26.results.toList e w' [] fun vs => R (.returned (pack vs)) w') (fun _ _ _ => False) = S_ref9_Reached h0p h0l h0c h1 h2 h3 h4 h5 h6 h7 h8 h9 h10 h11 h12 h13 h14 h15 h16 x0 w R := by kernel_rfl
theorem S_ref9_Reached_ok (h0p : Option Addr) (h0l : Nat) (h0c : Nat) (h1 : Int) (h2 : Int) (h3 : Int) (h4 : Int) (h5 : Int) (h6 : Int) (h7 : Int) (h8 : Int) (h9 : Int) (h10 : Int) (h11 : Int) (h12 : Int) (h13 : Int) (h14 : Int) (h15 : Int) (h16 : Int) (x0 : Int) (w : World) (R : Ending → World → Prop) (h : S_ref9_Reached h0p h0l h0c h1 h2 h3 h4 h5 h6 h7 h8 h9 h10 h11 h12 h13 h14 h15 h16 x0 w R) : Calls Try.prog 26 #[.agg #[.slice h0p h0l h0c, .int .u64 h1, .int .u64 h2, .int .u64 h3, .int .u64 h4, .int .u64 h5, .int .u64 h6, .int .u64 h7, .int .u64 h8, .int .u64 h9, .int .u64 h10, .int .u64 h11, .int .u64 h12, .int .u64 h13, .int .u64 h14, .int .u64 h15, .int .u64 h16], .int .u64 x0] w R :=
  calls_of_X (an := S_ref9_Reached_ann) wide_ok Try.func26 (by kernel_rfl) (by kernel_rfl) (by rw [S_ref9_Reached_eq]; exact h)

def S_law9_Fresh (words0 : Int) (slots0 : Int) (w : World) (R : Ending → World → Prop) : Prop :=
  Calls Try.prog 62 #[.int .i64 words0, .int .i64 slots0] w fun e0 w0 =>
  ∃ (r0 : Option Addr), ∃ (r1 : Int), e0 = .returned (.tuple #[.pointer r0, .int .i64 r1]) ∧
  cond (r1 != 0)
  (R (.returned (.pointer none)) w0)
  (R (.returned (.pointer r0)) w0)
def S_law9_Fresh_ann : Ann := .leaf
theorem S_law9_Fresh_eq (words0 : Int) (slots0 : Int) (w : World) (R : Ending → World → Prop) : X Try.prog Try.f27.ntmps (bodyOf Try.f27) S_law9_Fresh_ann (argEnv 0 [.int .i64 words0, .int .i64 slots0]) w (fun e w' => resK Try.prog Try.f27.results.toList e w' [] fun vs => R (.returned (pack vs)) w') (fun e w' => resK Try.prog Try.f27.results.toList e w' [] fun vs => R (.returned (pack vs)) w') (fun _ _ _ => False) = S_law9_Fresh words0 slots0 w R := by kernel_rfl
theorem S_law9_Fresh_ok (words0 : Int) (slots0 : Int) (w : World) (R : Ending → World → Prop) (h : S_law9_Fresh words0 slots0 w R) : Calls Try.prog 27 #[.int .i64 words0, .int .i64 slots0] w R :=
  calls_of_X (an := S_law9_Fresh_ann) wide_ok Try.func27 (by kernel_rfl) (by kernel_rfl) (by rw [S_law9_Fresh_eq]; exact h)

def S_ref9_Kept_j0 (out0p : Option Addr) (out0l : Nat) (out0c : Nat) (i0 : Int) (w3 : World) (I0 : Option Addr → Nat → Nat → Int → World → Prop) (M0 : Option Addr → Nat → Nat → Int → World → Nat) (out1p : Option Addr) (out1l : Nat) (out1c : Nat) (w7 : World) : Prop :=
  I0 out1p out1l out1c (IntKind.wrap .i64 (i0 + 1)) w7 ∧ M0 out1p out1l out1c (IntKind.wrap .i64 (i0 + 1)) w7 < M0 out0p out0l out0c i0 w3
def S_ref9_Kept_l0 (R : Ending → World → Prop) (b0 : Nat) (b1 : Nat) (r0p : Option Addr) (r0l : Nat) (r0c : Nat) (out0p : Option Addr) (out0l : Nat) (out0c : Nat) (i0 : Int) (w3 : World) (I0 : Option Addr → Nat → Nat → Int → World → Prop) (M0 : Option Addr → Nat → Nat → Int → World → Nat) : Prop :=
  LdS w3 (⟨b0, 0, none⟩) fun _ s1l _ =>
  cond (decide (i0 < (Nat.cast s1l : Int)))
  (∀ k0 : Option Addr → Nat → Nat → World → Prop,
  (∀ (out1p : Option Addr) (out1l : Nat) (out1c : Nat) (w7 : World), S_ref9_Kept_j0 out0p out0l out0c i0 w3 I0 M0 out1p out1l out1c w7 → k0 out1p out1l out1c w7) →
  LdS w3 (⟨b0, 0, none⟩) fun s2p s2l _ =>
  IdxC s2p s2l i0 4 fun a0 =>
  LdI .u64 w3 a0 fun n16 =>
  Calls Try.prog 60 #[.slice r0p r0l r0c, .int .u64 n16] w3 fun e1 w4 =>
  ∃ (r1 : Int), e1 = .returned (.int .i64 r1) ∧
  cond (decide (r1 ≥ 0))
  (LdS w4 (⟨b0, 0, none⟩) fun s3p s3l _ =>
  IdxC s3p s3l i0 4 fun a1 =>
  LdI .u64 w4 a1 fun n17 =>
  LdI .i64 w4 (Addr.add a1 1) fun n18 =>
  LdS w4 (Addr.add a1 2) fun s4p s4l s4c =>
  LdS w4 (Addr.add a1 3) fun s5p s5l s5c =>
  NewC (.cells #[.int .u64 n17, .int .i64 n18, .slice s4p s4l s4c, .slice s5p s5l s5c] 133 (0, 0)) w4 fun b2 w5 =>
  RunS Try.prog (Builtin.append_ #[41, 41] 41 #[.slice out0p out0l out0c, .slice (some (⟨b2, 0, none⟩)) 1 1]) w5 fun s6p s6l s6c w6 =>
  k0 s6p s6l s6c w6)
  (k0 out0p out0l out0c w4))
  (StC w3 (⟨b0, 0, none⟩) (.slice out0p out0l out0c) fun w8 =>
  Ld_tidemarkref9_Heap w8 (⟨b0, 0, none⟩) fun s7p s7l s7c n19 n20 n21 n22 n23 n24 n25 n26 n27 n28 n29 n30 n31 n32 n33 n34 =>
  St_tidemarkref9_Heap w8 (⟨b1, 0, none⟩) s7p s7l s7c n19 n20 n21 n22 n23 n24 n25 n26 n27 n28 n29 n30 n31 n32 n33 n34 fun w9 =>
  Ld_tidemarkref9_Heap w9 (⟨b1, 0, none⟩) fun s8p s8l s8c n35 n36 n37 n38 n39 n40 n41 n42 n43 n44 n45 n46 n47 n48 n49 n50 =>
  R (.returned (.agg #[.slice s8p s8l s8c, .int .u64 n35, .int .u64 n36, .int .u64 n37, .int .u64 n38, .int .u64 n39, .int .u64 n40, .int .u64 n41, .int .u64 n42, .int .u64 n43, .int .u64 n44, .int .u64 n45, .int .u64 n46, .int .u64 n47, .int .u64 n48, .int .u64 n49, .int .u64 n50])) w9)
def S_ref9_Kept (h0p : Option Addr) (h0l : Nat) (h0c : Nat) (h1 : Int) (h2 : Int) (h3 : Int) (h4 : Int) (h5 : Int) (h6 : Int) (h7 : Int) (h8 : Int) (h9 : Int) (h10 : Int) (h11 : Int) (h12 : Int) (h13 : Int) (h14 : Int) (h15 : Int) (h16 : Int) (w : World) (R : Ending → World → Prop) : Prop :=
  NewC (.cells #[.slice h0p h0l h0c, .int .u64 h1, .int .u64 h2, .int .u64 h3, .int .u64 h4, .int .u64 h5, .int .u64 h6, .int .u64 h7, .int .u64 h8, .int .u64 h9, .int .u64 h10, .int .u64 h11, .int .u64 h12, .int .u64 h13, .int .u64 h14, .int .u64 h15, .int .u64 h16] 44 (0, 0)) w fun b0 w0 =>
  NewC (.cells #[.slice none 0 0, .int .u64 0, .int .u64 0, .int .u64 0, .int .u64 0, .int .u64 0, .int .u64 0, .int .u64 0, .int .u64 0, .int .u64 0, .int .u64 0, .int .u64 0, .int .u64 0, .int .u64 0, .int .u64 0, .int .u64 0, .int .u64 0] 44 (0, 0)) w0 fun b1 w1 =>
  Ld_tidemarkref9_Heap w1 (⟨b0, 0, none⟩) fun s0p s0l s0c n0 n1 n2 n3 n4 n5 n6 n7 n8 n9 n10 n11 n12 n13 n14 n15 =>
  Calls Try.prog 61 #[.agg #[.slice s0p s0l s0c, .int .u64 n0, .int .u64 n1, .int .u64 n2, .int .u64 n3, .int .u64 n4, .int .u64 n5, .int .u64 n6, .int .u64 n7, .int .u64 n8, .int .u64 n9, .int .u64 n10, .int .u64 n11, .int .u64 n12, .int .u64 n13, .int .u64 n14, .int .u64 n15]] w1 fun e0 w2 =>
  ∃ (r0p : Option Addr), ∃ (r0l : Nat), ∃ (r0c : Nat), e0 = .returned (.slice r0p r0l r0c) ∧
  ∃ (I0 : Option Addr → Nat → Nat → Int → World → Prop) (M0 : Option Addr → Nat → Nat → Int → World → Nat), I0 none 0 0 0 w2 ∧
  ∀ (out0p : Option Addr) (out0l : Nat) (out0c : Nat) (i0 : Int) (w3 : World), I0 out0p out0l out0c i0 w3 →
  S_ref9_Kept_l0 R b0 b1 r0p r0l r0c out0p out0l out0c i0 w3 I0 M0
def S_ref9_Kept_ann : Ann := (.seq .leaf (.seq .leaf (.seq .leaf (.seq (.seq .leaf (.block (.loop [1, 2, 3] [(4, .slice), (5, (.int .i64))] (.seq .leaf (.seq (.jblock [1, 2, 3, 5] [(4, .slice)] .leaf .leaf) .leaf))))) .leaf))))
theorem S_ref9_Kept_eq (h0p : Option Addr) (h0l : Nat) (h0c : Nat) (h1 : Int) (h2 : Int) (h3 : Int) (h4 : Int) (h5 : Int) (h6 : Int) (h7 : Int) (h8 : Int) (h9 : Int) (h10 : Int) (h11 : Int) (h12 : Int) (h13 : Int) (h14 : Int) (h15 : Int) (h16 : Int) (w : World) (R : Ending → World → Prop) : X Try.prog Try.f35.ntmps (bodyOf Try.f35) S_ref9_Kept_ann (argEnv 0 [.agg #[.slice h0p h0l h0c, .int .u64 h1, .int .u64 h2, .int .u64 h3, .int .u64 h4, .int .u64 h5, .int .u64 h6, .int .u64 h7, .int .u64 h8, .int .u64 h9, .int .u64 h10, .int .u64 h11, .int .u64 h12, .int .u64 h13, .int .u64 h14, .int .u64 h15, .int .u64 h16]]) w (fun e w' => resK Try.prog Try.f35.results.toList e w' [] fun vs => R (.returned (pack vs)) w') (fun e w' => resK Try.prog Try.f35.results.toList e w' [] fun vs => R (.returned (pack vs)) w') (fun _ _ _ => False) = S_ref9_Kept h0p h0l h0c h1 h2 h3 h4 h5 h6 h7 h8 h9 h10 h11 h12 h13 h14 h15 h16 w R := by kernel_rfl
theorem S_ref9_Kept_ok (h0p : Option Addr) (h0l : Nat) (h0c : Nat) (h1 : Int) (h2 : Int) (h3 : Int) (h4 : Int) (h5 : Int) (h6 : Int) (h7 : Int) (h8 : Int) (h9 : Int) (h10 : Int) (h11 : Int) (h12 : Int) (h13 : Int) (h14 : Int) (h15 : Int) (h16 : Int) (w : World) (R : Ending → World → Prop) (h : S_ref9_Kept h0p h0l h0c h1 h2 h3 h4 h5 h6 h7 h8 h9 h10 h11 h12 h13 h14 h15 h16 w R) : Calls Try.prog 35 #[.agg #[.slice h0p h0l h0c, .int .u64 h1, .int .u64 h2, .int .u64 h3, .int .u64 h4, .int .u64 h5, .int .u64 h6, .int .u64 h7, .int .u64 h8, .int .u64 h9, .int .u64 h10, .int .u64 h11, .int .u64 h12, .int .u64 h13, .int .u64 h14, .int .u64 h15, .int .u64 h16]] w R :=
  calls_of_X (an := S_ref9_Kept_ann) wide_ok Try.func35 (by kernel_rfl) (by kernel_rfl) (by rw [S_ref9_Kept_eq]; exact h)

def S_law11_alive_j0 (out0p : Option Addr) (out0l : Nat) (out0c : Nat) (i0 : Int) (w1 : World) (I0 : Option Addr → Nat → Nat → Int → World → Prop) (M0 : Option Addr → Nat → Nat → Int → World → Nat) (out1p : Option Addr) (out1l : Nat) (out1c : Nat) (w5 : World) : Prop :=
  I0 out1p out1l out1c (IntKind.wrap .i64 (i0 + 1)) w5 ∧ M0 out1p out1l out1c (IntKind.wrap .i64 (i0 + 1)) w5 < M0 out0p out0l out0c i0 w1
def S_law11_alive_l0 (told0p : Option Addr) (told0l : Nat) (R : Ending → World → Prop) (b0 : Nat) (out0p : Option Addr) (out0l : Nat) (out0c : Nat) (i0 : Int) (w1 : World) (I0 : Option Addr → Nat → Nat → Int → World → Prop) (M0 : Option Addr → Nat → Nat → Int → World → Nat) : Prop :=
  cond (decide (i0 < (Nat.cast told0l : Int)))
  (∀ k0 : Option Addr → Nat → Nat → World → Prop,
  (∀ (out1p : Option Addr) (out1l : Nat) (out1c : Nat) (w5 : World), S_law11_alive_j0 out0p out0l out0c i0 w1 I0 M0 out1p out1l out1c w5 → k0 out1p out1l out1c w5) →
  Ld_tidemarkref9_Heap (World.drew w1) (⟨b0, 0, none⟩) fun s0p s0l s0c n0 n1 n2 n3 n4 n5 n6 n7 n8 n9 n10 n11 n12 n13 n14 n15 =>
  IdxC told0p told0l i0 1 fun a0 =>
  LdI .u64 (World.drew w1) a0 fun n16 =>
  Calls Try.prog 43 #[.agg #[.slice s0p s0l s0c, .int .u64 n0, .int .u64 n1, .int .u64 n2, .int .u64 n3, .int .u64 n4, .int .u64 n5, .int .u64 n6, .int .u64 n7, .int .u64 n8, .int .u64 n9, .int .u64 n10, .int .u64 n11, .int .u64 n12, .int .u64 n13, .int .u64 n14, .int .u64 n15], .int .u64 n16] (World.drew w1) fun e0 w2 =>
  ∃ (r0 : Int), e0 = .returned (.int .i64 r0) ∧
  cond (decide (r0 ≥ 0))
  (IdxC told0p told0l i0 1 fun a1 =>
  LdI .u64 w2 a1 fun n17 =>
  NewC (.cells #[.int .u64 n17] 24 (0, 0)) w2 fun b1 w3 =>
  RunS Try.prog (Builtin.append_ #[45, 45] 45 #[.slice out0p out0l out0c, .slice (some (⟨b1, 0, none⟩)) 1 1]) w3 fun s1p s1l s1c w4 =>
  k0 s1p s1l s1c w4)
  (k0 out0p out0l out0c w2))
  (R (.returned (.slice out0p out0l out0c)) w1)
def S_law11_alive (m0p : Option Addr) (m0l : Nat) (m0c : Nat) (m1 : Int) (m2 : Int) (m3 : Int) (m4 : Int) (m5 : Int) (m6 : Int) (m7 : Int) (m8 : Int) (m9 : Int) (m10 : Int) (m11 : Int) (m12 : Int) (m13 : Int) (m14 : Int) (m15 : Int) (m16 : Int) (told0p : Option Addr) (told0l : Nat) (told0c : Nat) (w : World) (R : Ending → World → Prop) : Prop :=
  NewC (.cells #[.slice m0p m0l m0c, .int .u64 m1, .int .u64 m2, .int .u64 m3, .int .u64 m4, .int .u64 m5, .int .u64 m6, .int .u64 m7, .int .u64 m8, .int .u64 m9, .int .u64 m10, .int .u64 m11, .int .u64 m12, .int .u64 m13, .int .u64 m14, .int .u64 m15, .int .u64 m16] 44 (0, 0)) w fun b0 w0 =>
  ∃ (I0 : Option Addr → Nat → Nat → Int → World → Prop) (M0 : Option Addr → Nat → Nat → Int → World → Nat), I0 none 0 0 0 w0 ∧
  ∀ (out0p : Option Addr) (out0l : Nat) (out0c : Nat) (i0 : Int) (w1 : World), I0 out0p out0l out0c i0 w1 →
  S_law11_alive_l0 told0p told0l R b0 out0p out0l out0c i0 w1 I0 M0
def S_law11_alive_ann : Ann := (.seq .leaf (.seq .leaf (.seq (.seq .leaf (.block (.loop [1, 2] [(5, .slice), (6, (.int .i64))] (.seq .leaf (.seq (.jblock [1, 2, 6] [(5, .slice)] (.seq (.draw 5) .leaf) .leaf) .leaf))))) .leaf)))
theorem S_law11_alive_eq (m0p : Option Addr) (m0l : Nat) (m0c : Nat) (m1 : Int) (m2 : Int) (m3 : Int) (m4 : Int) (m5 : Int) (m6 : Int) (m7 : Int) (m8 : Int) (m9 : Int) (m10 : Int) (m11 : Int) (m12 : Int) (m13 : Int) (m14 : Int) (m15 : Int) (m16 : Int) (told0p : Option Addr) (told0l : Nat) (told0c : Nat) (w : World) (R : Ending → World → Prop) : X Try.prog Try.f36.ntmps (bodyOf Try.f36) S_law11_alive_ann (argEnv 0 [.agg #[.slice m0p m0l m0c, .int .u64 m1, .int .u64 m2, .int .u64 m3, .int .u64 m4, .int .u64 m5, .int .u64 m6, .int .u64 m7, .int .u64 m8, .int .u64 m9, .int .u64 m10, .int .u64 m11, .int .u64 m12, .int .u64 m13, .int .u64 m14, .int .u64 m15, .int .u64 m16], .slice told0p told0l told0c]) w (fun e w' => resK Try.prog Try.f36.results.toList e w' [] fun vs => R (.returned (pack vs)) w') (fun e w' => resK Try.prog Try.f36.results.toList e w' [] fun vs => R (.returned (pack vs)) w') (fun _ _ _ => False) = S_law11_alive m0p m0l m0c m1 m2 m3 m4 m5 m6 m7 m8 m9 m10 m11 m12 m13 m14 m15 m16 told0p told0l told0c w R := by kernel_rfl
theorem S_law11_alive_ok (m0p : Option Addr) (m0l : Nat) (m0c : Nat) (m1 : Int) (m2 : Int) (m3 : Int) (m4 : Int) (m5 : Int) (m6 : Int) (m7 : Int) (m8 : Int) (m9 : Int) (m10 : Int) (m11 : Int) (m12 : Int) (m13 : Int) (m14 : Int) (m15 : Int) (m16 : Int) (told0p : Option Addr) (told0l : Nat) (told0c : Nat) (w : World) (R : Ending → World → Prop) (h : S_law11_alive m0p m0l m0c m1 m2 m3 m4 m5 m6 m7 m8 m9 m10 m11 m12 m13 m14 m15 m16 told0p told0l told0c w R) : Calls Try.prog 36 #[.agg #[.slice m0p m0l m0c, .int .u64 m1, .int .u64 m2, .int .u64 m3, .int .u64 m4, .int .u64 m5, .int .u64 m6, .int .u64 m7, .int .u64 m8, .int .u64 m9, .int .u64 m10, .int .u64 m11, .int .u64 m12, .int .u64 m13, .int .u64 m14, .int .u64 m15, .int .u64 m16], .slice told0p told0l told0c] w R :=
  calls_of_X (an := S_law11_alive_ann) wide_ok Try.func36 (by kernel_rfl) (by kernel_rfl) (by rw [S_law11_alive_eq]; exact h)

def S_law11_linked (m0p : Option Addr) (m0l : Nat) (m0c : Nat) (m1 : Int) (m2 : Int) (m3 : Int) (m4 : Int) (m5 : Int) (m6 : Int) (m7 : Int) (m8 : Int) (m9 : Int) (m10 : Int) (m11 : Int) (m12 : Int) (m13 : Int) (m14 : Int) (m15 : Int) (m16 : Int) (told0p : Option Addr) (told0l : Nat) (told0c : Nat) (at0 : Int) (d0 : Int) (d1 : Int) (d2 : Int) (d3 : Int) (d4 : Int) (d5 : Int) (w : World) (R : Ending → World → Prop) : Prop :=
  NewC (.cells #[.slice m0p m0l m0c, .int .u64 m1, .int .u64 m2, .int .u64 m3, .int .u64 m4, .int .u64 m5, .int .u64 m6, .int .u64 m7, .int .u64 m8, .int .u64 m9, .int .u64 m10, .int .u64 m11, .int .u64 m12, .int .u64 m13, .int .u64 m14, .int .u64 m15, .int .u64 m16] 44 (0, 0)) w fun b0 w0 =>
  NewC (.cells #[.int .i64 d0, .int .i64 d1, .int .i64 d2, .int .i64 d3, .int .i64 d4, .int .u64 d5] 68 (0, 0)) w0 fun b1 w1 =>
  LdI .i64 w1 (⟨b1, 0, none⟩) fun n0 =>
  cond (decide (n0 < 3))
  (R (.returned (.bool true)) w1)
  (LdI .i64 w1 (⟨b1, 0, none⟩) fun n1 =>
  cond (n1 == 5)
  (R (.returned (.bool true)) w1)
  (LdI .i64 w1 (⟨b1, 0, none⟩) fun n2 =>
  cond (decide (n2 > 7))
  (R (.returned (.bool true)) w1)
  (LdI .i64 w1 (Addr.add (⟨b1, 0, none⟩) 2) fun n3 =>
  cond (decide (n3 < 0))
  (R (.returned (.bool true)) w1)
  (cond ((Nat.cast told0l : Int) == 0)
  (R (.returned (.bool true)) w1)
  (LdI .i64 w1 (Addr.add (⟨b1, 0, none⟩) 2) fun n4 =>
  DivC (Nat.cast told0l : Int)
  (cond (decide ((Int.tmod n4 (Nat.cast told0l : Int)) ≥ at0))
  (R (.returned (.bool true)) (World.drew w1))
  (Ld_tidemarkref9_Heap (World.drew w1) (⟨b0, 0, none⟩) fun s0p s0l s0c n5 n6 n7 n8 n9 n10 n11 n12 n13 n14 n15 n16 n17 n18 n19 n20 =>
  IdxC told0p told0l (Int.tmod n4 (Nat.cast told0l : Int)) 1 fun a0 =>
  LdI .u64 (World.drew w1) a0 fun n21 =>
  Calls Try.prog 26 #[.agg #[.slice s0p s0l s0c, .int .u64 n5, .int .u64 n6, .int .u64 n7, .int .u64 n8, .int .u64 n9, .int .u64 n10, .int .u64 n11, .int .u64 n12, .int .u64 n13, .int .u64 n14, .int .u64 n15, .int .u64 n16, .int .u64 n17, .int .u64 n18, .int .u64 n19, .int .u64 n20], .int .u64 n21] (World.drew w1) fun e0 w2 =>
  ∃ (r0 : Bool), e0 = .returned (.bool r0) ∧
  R (.returned (.bool r0)) w2)))))))
def S_law11_linked_ann : Ann := (.seq .leaf (.seq .leaf (.seq .leaf (.seq (.draw 9) .leaf))))
theorem S_law11_linked_eq (m0p : Option Addr) (m0l : Nat) (m0c : Nat) (m1 : Int) (m2 : Int) (m3 : Int) (m4 : Int) (m5 : Int) (m6 : Int) (m7 : Int) (m8 : Int) (m9 : Int) (m10 : Int) (m11 : Int) (m12 : Int) (m13 : Int) (m14 : Int) (m15 : Int) (m16 : Int) (told0p : Option Addr) (told0l : Nat) (told0c : Nat) (at0 : Int) (d0 : Int) (d1 : Int) (d2 : Int) (d3 : Int) (d4 : Int) (d5 : Int) (w : World) (R : Ending → World → Prop) : X Try.prog Try.f37.ntmps (bodyOf Try.f37) S_law11_linked_ann (argEnv 0 [.agg #[.slice m0p m0l m0c, .int .u64 m1, .int .u64 m2, .int .u64 m3, .int .u64 m4, .int .u64 m5, .int .u64 m6, .int .u64 m7, .int .u64 m8, .int .u64 m9, .int .u64 m10, .int .u64 m11, .int .u64 m12, .int .u64 m13, .int .u64 m14, .int .u64 m15, .int .u64 m16], .slice told0p told0l told0c, .int .i64 at0, .agg #[.int .i64 d0, .int .i64 d1, .int .i64 d2, .int .i64 d3, .int .i64 d4, .int .u64 d5]]) w (fun e w' => resK Try.prog Try.f37.results.toList e w' [] fun vs => R (.returned (pack vs)) w') (fun e w' => resK Try.prog Try.f37.results.toList e w' [] fun vs => R (.returned (pack vs)) w') (fun _ _ _ => False) = S_law11_linked m0p m0l m0c m1 m2 m3 m4 m5 m6 m7 m8 m9 m10 m11 m12 m13 m14 m15 m16 told0p told0l told0c at0 d0 d1 d2 d3 d4 d5 w R := by kernel_rfl
theorem S_law11_linked_ok (m0p : Option Addr) (m0l : Nat) (m0c : Nat) (m1 : Int) (m2 : Int) (m3 : Int) (m4 : Int) (m5 : Int) (m6 : Int) (m7 : Int) (m8 : Int) (m9 : Int) (m10 : Int) (m11 : Int) (m12 : Int) (m13 : Int) (m14 : Int) (m15 : Int) (m16 : Int) (told0p : Option Addr) (told0l : Nat) (told0c : Nat) (at0 : Int) (d0 : Int) (d1 : Int) (d2 : Int) (d3 : Int) (d4 : Int) (d5 : Int) (w : World) (R : Ending → World → Prop) (h : S_law11_linked m0p m0l m0c m1 m2 m3 m4 m5 m6 m7 m8 m9 m10 m11 m12 m13 m14 m15 m16 told0p told0l told0c at0 d0 d1 d2 d3 d4 d5 w R) : Calls Try.prog 37 #[.agg #[.slice m0p m0l m0c, .int .u64 m1, .int .u64 m2, .int .u64 m3, .int .u64 m4, .int .u64 m5, .int .u64 m6, .int .u64 m7, .int .u64 m8, .int .u64 m9, .int .u64 m10, .int .u64 m11, .int .u64 m12, .int .u64 m13, .int .u64 m14, .int .u64 m15, .int .u64 m16], .slice told0p told0l told0c, .int .i64 at0, .agg #[.int .i64 d0, .int .i64 d1, .int .i64 d2, .int .i64 d3, .int .i64 d4, .int .u64 d5]] w R :=
  calls_of_X (an := S_law11_linked_ann) wide_ok Try.func37 (by kernel_rfl) (by kernel_rfl) (by rw [S_law11_linked_eq]; exact h)

def S_law11_pick (l0p : Option Addr) (l0l : Nat) (l0c : Nat) (i0 : Int) (w : World) (R : Ending → World → Prop) : Prop :=
  cond (decide (i0 < 0))
  (R (.returned (.int .u64 0)) w)
  (cond ((Nat.cast l0l : Int) == 0)
  (R (.returned (.int .u64 0)) w)
  (DivC (Nat.cast l0l : Int)
  (IdxC l0p l0l (Int.tmod i0 (Nat.cast l0l : Int)) 1 fun a0 =>
  LdI .u64 w a0 fun n0 =>
  R (.returned (.int .u64 n0)) w)))
def S_law11_pick_ann : Ann := .leaf
theorem S_law11_pick_eq (l0p : Option Addr) (l0l : Nat) (l0c : Nat) (i0 : Int) (w : World) (R : Ending → World → Prop) : X Try.prog Try.f38.ntmps (bodyOf Try.f38) S_law11_pick_ann (argEnv 0 [.slice l0p l0l l0c, .int .i64 i0]) w (fun e w' => resK Try.prog Try.f38.results.toList e w' [] fun vs => R (.returned (pack vs)) w') (fun e w' => resK Try.prog Try.f38.results.toList e w' [] fun vs => R (.returned (pack vs)) w') (fun _ _ _ => False) = S_law11_pick l0p l0l l0c i0 w R := by kernel_rfl
theorem S_law11_pick_ok (l0p : Option Addr) (l0l : Nat) (l0c : Nat) (i0 : Int) (w : World) (R : Ending → World → Prop) (h : S_law11_pick l0p l0l l0c i0 w R) : Calls Try.prog 38 #[.slice l0p l0l l0c, .int .i64 i0] w R :=
  calls_of_X (an := S_law11_pick_ann) wide_ok Try.func38 (by kernel_rfl) (by kernel_rfl) (by rw [S_law11_pick_eq]; exact h)

def S_law9_Play_j0 (told0p : Option Addr) (told0l : Nat) (told0c : Nat) (R : Ending → World → Prop) (b0 : Nat) (b1 : Nat) (b2 : Nat) (r1 : Int) (r2 : Int) (r46 : Int) (b5 : Nat) (w53 : World) : Prop :=
  LdS w53 (Addr.add (⟨b5, 0, none⟩) 2) fun s51p s51l s51c =>
  RunS Try.prog (Builtin.append_ #[45, 45] 45 #[.slice none 0 0, .slice s51p s51l s51c]) w53 fun s52p s52l s52c w54 =>
  StC w54 (Addr.add (⟨b5, 0, none⟩) 2) (.slice s52p s52l s52c) fun w55 =>
  LdS w55 (Addr.add (⟨b5, 0, none⟩) 2) fun s53p s53l _ =>
  LdI .i64 w55 (Addr.add (⟨b1, 0, none⟩) 3) fun n728 =>
  IdxC s53p s53l n728 1 fun a1 =>
  StC w55 a1 (.int .u64 r1) fun w56 =>
  Ld_tidemarkref9_Heap w56 (⟨b0, 0, none⟩) fun s54p s54l s54c n729 n730 n731 n732 n733 n734 n735 n736 n737 n738 n739 n740 n741 n742 n743 n744 =>
  LdI .u64 w56 (⟨b5, 0, none⟩) fun n745 =>
  LdI .i64 w56 (Addr.add (⟨b5, 0, none⟩) 1) fun n746 =>
  LdS w56 (Addr.add (⟨b5, 0, none⟩) 2) fun s55p s55l s55c =>
  LdS w56 (Addr.add (⟨b5, 0, none⟩) 3) fun s56p s56l s56c =>
  Calls Try.prog 82 #[.agg #[.slice s54p s54l s54c, .int .u64 n729, .int .u64 n730, .int .u64 n731, .int .u64 n732, .int .u64 n733, .int .u64 n734, .int .u64 n735, .int .u64 n736, .int .u64 n737, .int .u64 n738, .int .u64 n739, .int .u64 n740, .int .u64 n741, .int .u64 n742, .int .u64 n743, .int .u64 n744], .int .i64 r2, .agg #[.int .u64 n745, .int .i64 n746, .slice s55p s55l s55c, .slice s56p s56l s56c]] w56 fun e15 w57 =>
  ∃ (r48p : Option Addr), ∃ (r48l : Nat), ∃ (r48c : Nat), ∃ (r49 : Int), ∃ (r50 : Int), ∃ (r51 : Int), ∃ (r52 : Int), ∃ (r53 : Int), ∃ (r54 : Int), ∃ (r55 : Int), ∃ (r56 : Int), ∃ (r57 : Int), ∃ (r58 : Int), ∃ (r59 : Int), ∃ (r60 : Int), ∃ (r61 : Int), ∃ (r62 : Int), ∃ (r63 : Int), ∃ (r64 : Int), e15 = .returned (.agg #[.slice r48p r48l r48c, .int .u64 r49, .int .u64 r50, .int .u64 r51, .int .u64 r52, .int .u64 r53, .int .u64 r54, .int .u64 r55, .int .u64 r56, .int .u64 r57, .int .u64 r58, .int .u64 r59, .int .u64 r60, .int .u64 r61, .int .u64 r62, .int .u64 r63, .int .u64 r64]) ∧
  St_tidemarkref9_Heap w57 (⟨b2, 0, none⟩) r48p r48l r48c r49 r50 r51 r52 r53 r54 r55 r56 r57 r58 r59 r60 r61 r62 r63 r64 fun w58 =>
  Ld_tidemarkref9_Heap w58 (⟨b2, 0, none⟩) fun s57p s57l s57c n747 n748 n749 n750 n751 n752 n753 n754 n755 n756 n757 n758 n759 n760 n761 n762 =>
  R (.returned (.tuple #[.agg #[.slice s57p s57l s57c, .int .u64 n747, .int .u64 n748, .int .u64 n749, .int .u64 n750, .int .u64 n751, .int .u64 n752, .int .u64 n753, .int .u64 n754, .int .u64 n755, .int .u64 n756, .int .u64 n757, .int .u64 n758, .int .u64 n759, .int .u64 n760, .int .u64 n761, .int .u64 n762], .slice told0p told0l told0c, .bool (r46 == 0)])) w58
def S_law9_Play_j1 (told0p : Option Addr) (told0l : Nat) (told0c : Nat) (R : Ending → World → Prop) (b0 : Nat) (b1 : Nat) (b2 : Nat) (r1 : Int) (r83 : Int) (w78 : World) : Prop :=
  LdI .i64 w78 (Addr.add (⟨b1, 0, none⟩) 3) fun n1018 =>
  IdxF 16 n1018
  (StC w78 (Addr.add (Addr.add (⟨b0, 0, none⟩) 1) (Int.toNat n1018 * 1)) (.int .u64 r1) fun w79 =>
  Ld_tidemarkref9_Heap w79 (⟨b0, 0, none⟩) fun s82p s82l s82c n1019 n1020 n1021 n1022 n1023 n1024 n1025 n1026 n1027 n1028 n1029 n1030 n1031 n1032 n1033 n1034 =>
  St_tidemarkref9_Heap w79 (⟨b2, 0, none⟩) s82p s82l s82c n1019 n1020 n1021 n1022 n1023 n1024 n1025 n1026 n1027 n1028 n1029 n1030 n1031 n1032 n1033 n1034 fun w80 =>
  Ld_tidemarkref9_Heap w80 (⟨b2, 0, none⟩) fun s83p s83l s83c n1035 n1036 n1037 n1038 n1039 n1040 n1041 n1042 n1043 n1044 n1045 n1046 n1047 n1048 n1049 n1050 =>
  R (.returned (.tuple #[.agg #[.slice s83p s83l s83c, .int .u64 n1035, .int .u64 n1036, .int .u64 n1037, .int .u64 n1038, .int .u64 n1039, .int .u64 n1040, .int .u64 n1041, .int .u64 n1042, .int .u64 n1043, .int .u64 n1044, .int .u64 n1045, .int .u64 n1046, .int .u64 n1047, .int .u64 n1048, .int .u64 n1049, .int .u64 n1050], .slice told0p told0l told0c, .bool (r83 == 0)])) w80)
set_option maxRecDepth 100000 in
def S_law9_Play (h0 : Option Addr) (m0p : Option Addr) (m0l : Nat) (m0c : Nat) (m1 : Int) (m2 : Int) (m3 : Int) (m4 : Int) (m5 : Int) (m6 : Int) (m7 : Int) (m8 : Int) (m9 : Int) (m10 : Int) (m11 : Int) (m12 : Int) (m13 : Int) (m14 : Int) (m15 : Int) (m16 : Int) (told0p : Option Addr) (told0l : Nat) (told0c : Nat) (d0 : Int) (d1 : Int) (d2 : Int) (d3 : Int) (d4 : Int) (d5 : Int) (w : World) (R : Ending → World → Prop) : Prop :=
  NewC (.cells #[.slice m0p m0l m0c, .int .u64 m1, .int .u64 m2, .int .u64 m3, .int .u64 m4, .int .u64 m5, .int .u64 m6, .int .u64 m7, .int .u64 m8, .int .u64 m9, .int .u64 m10, .int .u64 m11, .int .u64 m12, .int .u64 m13, .int .u64 m14, .int .u64 m15, .int .u64 m16] 44 (0, 0)) w fun b0 w0 =>
  NewC (.cells #[.int .i64 d0, .int .i64 d1, .int .i64 d2, .int .i64 d3, .int .i64 d4, .int .u64 d5] 68 (0, 0)) w0 fun b1 w1 =>
  NewC (.cells #[.slice none 0 0, .int .u64 0, .int .u64 0, .int .u64 0, .int .u64 0, .int .u64 0, .int .u64 0, .int .u64 0, .int .u64 0, .int .u64 0, .int .u64 0, .int .u64 0, .int .u64 0, .int .u64 0, .int .u64 0, .int .u64 0, .int .u64 0] 44 (0, 0)) w1 fun b2 w2 =>
  LdI .i64 w2 (Addr.add (⟨b1, 0, none⟩) 1) fun n0 =>
  Calls Try.prog 80 #[.slice told0p told0l told0c, .int .i64 n0] w2 fun e0 w3 =>
  ∃ (r0 : Int), e0 = .returned (.int .u64 r0) ∧
  LdI .i64 w3 (Addr.add (⟨b1, 0, none⟩) 2) fun n1 =>
  Calls Try.prog 80 #[.slice told0p told0l told0c, .int .i64 n1] w3 fun e1 w4 =>
  ∃ (r1 : Int), e1 = .returned (.int .u64 r1) ∧
  Ld_tidemarkref9_Heap w4 (⟨b0, 0, none⟩) fun s0p s0l s0c n2 n3 n4 n5 n6 n7 n8 n9 n10 n11 n12 n13 n14 n15 n16 n17 =>
  Calls Try.prog 43 #[.agg #[.slice s0p s0l s0c, .int .u64 n2, .int .u64 n3, .int .u64 n4, .int .u64 n5, .int .u64 n6, .int .u64 n7, .int .u64 n8, .int .u64 n9, .int .u64 n10, .int .u64 n11, .int .u64 n12, .int .u64 n13, .int .u64 n14, .int .u64 n15, .int .u64 n16, .int .u64 n17], .int .u64 r0] w4 fun e2 w5 =>
  ∃ (r2 : Int), e2 = .returned (.int .i64 r2) ∧
  LdI .i64 w5 (⟨b1, 0, none⟩) fun n18 =>
  cond (decide (n18 ≤ 2))
  (LdI .i64 w5 (Addr.add (⟨b1, 0, none⟩) 3) fun n19 =>
  LdI .i64 w5 (Addr.add (⟨b1, 0, none⟩) 4) fun n20 =>
  LdI .i64 w5 (Addr.add (⟨b1, 0, none⟩) 2) fun n21 =>
  Calls Try.prog 28 #[.pointer h0, .int .i64 n19, .int .i64 n20, .int .i64 n21] w5 fun e3 w6 =>
  ∃ (r3 : Int), ∃ (r4 : Int), e3 = .returned (.tuple #[.int .u64 r3, .int .i64 r4]) ∧
  LdI .i64 w6 (Addr.add (⟨b1, 0, none⟩) 3) fun n22 =>
  cond (decide (n22 < 1))
  (Ld_tidemarkref9_Heap w6 (⟨b0, 0, none⟩) fun s1p s1l s1c n23 n24 n25 n26 n27 n28 n29 n30 n31 n32 n33 n34 n35 n36 n37 n38 =>
  cond (r4 == 1)
  (St_tidemarkref9_Heap w6 (⟨b2, 0, none⟩) s1p s1l s1c n23 n24 n25 n26 n27 n28 n29 n30 n31 n32 n33 n34 n35 n36 n37 n38 fun w7 =>
  Ld_tidemarkref9_Heap w7 (⟨b2, 0, none⟩) fun s2p s2l s2c n39 n40 n41 n42 n43 n44 n45 n46 n47 n48 n49 n50 n51 n52 n53 n54 =>
  R (.returned (.tuple #[.agg #[.slice s2p s2l s2c, .int .u64 n39, .int .u64 n40, .int .u64 n41, .int .u64 n42, .int .u64 n43, .int .u64 n44, .int .u64 n45, .int .u64 n46, .int .u64 n47, .int .u64 n48, .int .u64 n49, .int .u64 n50, .int .u64 n51, .int .u64 n52, .int .u64 n53, .int .u64 n54], .slice told0p told0l told0c, .bool (r3 == 0)])) w7)
  (St_tidemarkref9_Heap w6 (⟨b2, 0, none⟩) s1p s1l s1c n23 n24 n25 n26 n27 n28 n29 n30 n31 n32 n33 n34 n35 n36 n37 n38 fun w8 =>
  Ld_tidemarkref9_Heap w8 (⟨b2, 0, none⟩) fun s3p s3l s3c n55 n56 n57 n58 n59 n60 n61 n62 n63 n64 n65 n66 n67 n68 n69 n70 =>
  R (.returned (.tuple #[.agg #[.slice s3p s3l s3c, .int .u64 n55, .int .u64 n56, .int .u64 n57, .int .u64 n58, .int .u64 n59, .int .u64 n60, .int .u64 n61, .int .u64 n62, .int .u64 n63, .int .u64 n64, .int .u64 n65, .int .u64 n66, .int .u64 n67, .int .u64 n68, .int .u64 n69, .int .u64 n70], .slice told0p told0l told0c, .bool false])) w8))
  (LdI .i64 w6 (Addr.add (⟨b1, 0, none⟩) 3) fun n71 =>
  cond (decide (n71 > 255))
  (Ld_tidemarkref9_Heap w6 (⟨b0, 0, none⟩) fun s4p s4l s4c n72 n73 n74 n75 n76 n77 n78 n79 n80 n81 n82 n83 n84 n85 n86 n87 =>
  cond (r4 == 1)
  (St_tidemarkref9_Heap w6 (⟨b2, 0, none⟩) s4p s4l s4c n72 n73 n74 n75 n76 n77 n78 n79 n80 n81 n82 n83 n84 n85 n86 n87 fun w9 =>
  Ld_tidemarkref9_Heap w9 (⟨b2, 0, none⟩) fun s5p s5l s5c n88 n89 n90 n91 n92 n93 n94 n95 n96 n97 n98 n99 n100 n101 n102 n103 =>
  R (.returned (.tuple #[.agg #[.slice s5p s5l s5c, .int .u64 n88, .int .u64 n89, .int .u64 n90, .int .u64 n91, .int .u64 n92, .int .u64 n93, .int .u64 n94, .int .u64 n95, .int .u64 n96, .int .u64 n97, .int .u64 n98, .int .u64 n99, .int .u64 n100, .int .u64 n101, .int .u64 n102, .int .u64 n103], .slice told0p told0l told0c, .bool (r3 == 0)])) w9)
  (St_tidemarkref9_Heap w6 (⟨b2, 0, none⟩) s4p s4l s4c n72 n73 n74 n75 n76 n77 n78 n79 n80 n81 n82 n83 n84 n85 n86 n87 fun w10 =>
  Ld_tidemarkref9_Heap w10 (⟨b2, 0, none⟩) fun s6p s6l s6c n104 n105 n106 n107 n108 n109 n110 n111 n112 n113 n114 n115 n116 n117 n118 n119 =>
  R (.returned (.tuple #[.agg #[.slice s6p s6l s6c, .int .u64 n104, .int .u64 n105, .int .u64 n106, .int .u64 n107, .int .u64 n108, .int .u64 n109, .int .u64 n110, .int .u64 n111, .int .u64 n112, .int .u64 n113, .int .u64 n114, .int .u64 n115, .int .u64 n116, .int .u64 n117, .int .u64 n118, .int .u64 n119], .slice told0p told0l told0c, .bool false])) w10))
  (LdI .i64 w6 (Addr.add (⟨b1, 0, none⟩) 2) fun n120 =>
  cond (decide (n120 < 0))
  (Ld_tidemarkref9_Heap w6 (⟨b0, 0, none⟩) fun s7p s7l s7c n121 n122 n123 n124 n125 n126 n127 n128 n129 n130 n131 n132 n133 n134 n135 n136 =>
  cond (r4 == 1)
  (St_tidemarkref9_Heap w6 (⟨b2, 0, none⟩) s7p s7l s7c n121 n122 n123 n124 n125 n126 n127 n128 n129 n130 n131 n132 n133 n134 n135 n136 fun w11 =>
  Ld_tidemarkref9_Heap w11 (⟨b2, 0, none⟩) fun s8p s8l s8c n137 n138 n139 n140 n141 n142 n143 n144 n145 n146 n147 n148 n149 n150 n151 n152 =>
  R (.returned (.tuple #[.agg #[.slice s8p s8l s8c, .int .u64 n137, .int .u64 n138, .int .u64 n139, .int .u64 n140, .int .u64 n141, .int .u64 n142, .int .u64 n143, .int .u64 n144, .int .u64 n145, .int .u64 n146, .int .u64 n147, .int .u64 n148, .int .u64 n149, .int .u64 n150, .int .u64 n151, .int .u64 n152], .slice told0p told0l told0c, .bool (r3 == 0)])) w11)
  (St_tidemarkref9_Heap w6 (⟨b2, 0, none⟩) s7p s7l s7c n121 n122 n123 n124 n125 n126 n127 n128 n129 n130 n131 n132 n133 n134 n135 n136 fun w12 =>
  Ld_tidemarkref9_Heap w12 (⟨b2, 0, none⟩) fun s9p s9l s9c n153 n154 n155 n156 n157 n158 n159 n160 n161 n162 n163 n164 n165 n166 n167 n168 =>
  R (.returned (.tuple #[.agg #[.slice s9p s9l s9c, .int .u64 n153, .int .u64 n154, .int .u64 n155, .int .u64 n156, .int .u64 n157, .int .u64 n158, .int .u64 n159, .int .u64 n160, .int .u64 n161, .int .u64 n162, .int .u64 n163, .int .u64 n164, .int .u64 n165, .int .u64 n166, .int .u64 n167, .int .u64 n168], .slice told0p told0l told0c, .bool false])) w12))
  (LdI .i64 w6 (Addr.add (⟨b1, 0, none⟩) 2) fun n169 =>
  cond (decide (n169 > 4096))
  (Ld_tidemarkref9_Heap w6 (⟨b0, 0, none⟩) fun s10p s10l s10c n170 n171 n172 n173 n174 n175 n176 n177 n178 n179 n180 n181 n182 n183 n184 n185 =>
  cond (r4 == 1)
  (St_tidemarkref9_Heap w6 (⟨b2, 0, none⟩) s10p s10l s10c n170 n171 n172 n173 n174 n175 n176 n177 n178 n179 n180 n181 n182 n183 n184 n185 fun w13 =>
  Ld_tidemarkref9_Heap w13 (⟨b2, 0, none⟩) fun s11p s11l s11c n186 n187 n188 n189 n190 n191 n192 n193 n194 n195 n196 n197 n198 n199 n200 n201 =>
  R (.returned (.tuple #[.agg #[.slice s11p s11l s11c, .int .u64 n186, .int .u64 n187, .int .u64 n188, .int .u64 n189, .int .u64 n190, .int .u64 n191, .int .u64 n192, .int .u64 n193, .int .u64 n194, .int .u64 n195, .int .u64 n196, .int .u64 n197, .int .u64 n198, .int .u64 n199, .int .u64 n200, .int .u64 n201], .slice told0p told0l told0c, .bool (r3 == 0)])) w13)
  (St_tidemarkref9_Heap w6 (⟨b2, 0, none⟩) s10p s10l s10c n170 n171 n172 n173 n174 n175 n176 n177 n178 n179 n180 n181 n182 n183 n184 n185 fun w14 =>
  Ld_tidemarkref9_Heap w14 (⟨b2, 0, none⟩) fun s12p s12l s12c n202 n203 n204 n205 n206 n207 n208 n209 n210 n211 n212 n213 n214 n215 n216 n217 =>
  R (.returned (.tuple #[.agg #[.slice s12p s12l s12c, .int .u64 n202, .int .u64 n203, .int .u64 n204, .int .u64 n205, .int .u64 n206, .int .u64 n207, .int .u64 n208, .int .u64 n209, .int .u64 n210, .int .u64 n211, .int .u64 n212, .int .u64 n213, .int .u64 n214, .int .u64 n215, .int .u64 n216, .int .u64 n217], .slice told0p told0l told0c, .bool false])) w14))
  (LdI .i64 w6 (Addr.add (⟨b1, 0, none⟩) 4) fun n218 =>
  cond (decide (n218 < 0))
  (Ld_tidemarkref9_Heap w6 (⟨b0, 0, none⟩) fun s13p s13l s13c n219 n220 n221 n222 n223 n224 n225 n226 n227 n228 n229 n230 n231 n232 n233 n234 =>
  cond (r4 == 1)
  (St_tidemarkref9_Heap w6 (⟨b2, 0, none⟩) s13p s13l s13c n219 n220 n221 n222 n223 n224 n225 n226 n227 n228 n229 n230 n231 n232 n233 n234 fun w15 =>
  Ld_tidemarkref9_Heap w15 (⟨b2, 0, none⟩) fun s14p s14l s14c n235 n236 n237 n238 n239 n240 n241 n242 n243 n244 n245 n246 n247 n248 n249 n250 =>
  R (.returned (.tuple #[.agg #[.slice s14p s14l s14c, .int .u64 n235, .int .u64 n236, .int .u64 n237, .int .u64 n238, .int .u64 n239, .int .u64 n240, .int .u64 n241, .int .u64 n242, .int .u64 n243, .int .u64 n244, .int .u64 n245, .int .u64 n246, .int .u64 n247, .int .u64 n248, .int .u64 n249, .int .u64 n250], .slice told0p told0l told0c, .bool (r3 == 0)])) w15)
  (St_tidemarkref9_Heap w6 (⟨b2, 0, none⟩) s13p s13l s13c n219 n220 n221 n222 n223 n224 n225 n226 n227 n228 n229 n230 n231 n232 n233 n234 fun w16 =>
  Ld_tidemarkref9_Heap w16 (⟨b2, 0, none⟩) fun s15p s15l s15c n251 n252 n253 n254 n255 n256 n257 n258 n259 n260 n261 n262 n263 n264 n265 n266 =>
  R (.returned (.tuple #[.agg #[.slice s15p s15l s15c, .int .u64 n251, .int .u64 n252, .int .u64 n253, .int .u64 n254, .int .u64 n255, .int .u64 n256, .int .u64 n257, .int .u64 n258, .int .u64 n259, .int .u64 n260, .int .u64 n261, .int .u64 n262, .int .u64 n263, .int .u64 n264, .int .u64 n265, .int .u64 n266], .slice told0p told0l told0c, .bool false])) w16))
  (LdI .i64 w6 (Addr.add (⟨b1, 0, none⟩) 4) fun n267 =>
  LdI .i64 w6 (Addr.add (⟨b1, 0, none⟩) 2) fun n268 =>
  cond (decide (n267 > n268))
  (Ld_tidemarkref9_Heap w6 (⟨b0, 0, none⟩) fun s16p s16l s16c n269 n270 n271 n272 n273 n274 n275 n276 n277 n278 n279 n280 n281 n282 n283 n284 =>
  cond (r4 == 1)
  (St_tidemarkref9_Heap w6 (⟨b2, 0, none⟩) s16p s16l s16c n269 n270 n271 n272 n273 n274 n275 n276 n277 n278 n279 n280 n281 n282 n283 n284 fun w17 =>
  Ld_tidemarkref9_Heap w17 (⟨b2, 0, none⟩) fun s17p s17l s17c n285 n286 n287 n288 n289 n290 n291 n292 n293 n294 n295 n296 n297 n298 n299 n300 =>
  R (.returned (.tuple #[.agg #[.slice s17p s17l s17c, .int .u64 n285, .int .u64 n286, .int .u64 n287, .int .u64 n288, .int .u64 n289, .int .u64 n290, .int .u64 n291, .int .u64 n292, .int .u64 n293, .int .u64 n294, .int .u64 n295, .int .u64 n296, .int .u64 n297, .int .u64 n298, .int .u64 n299, .int .u64 n300], .slice told0p told0l told0c, .bool (r3 == 0)])) w17)
  (St_tidemarkref9_Heap w6 (⟨b2, 0, none⟩) s16p s16l s16c n269 n270 n271 n272 n273 n274 n275 n276 n277 n278 n279 n280 n281 n282 n283 n284 fun w18 =>
  Ld_tidemarkref9_Heap w18 (⟨b2, 0, none⟩) fun s18p s18l s18c n301 n302 n303 n304 n305 n306 n307 n308 n309 n310 n311 n312 n313 n314 n315 n316 =>
  R (.returned (.tuple #[.agg #[.slice s18p s18l s18c, .int .u64 n301, .int .u64 n302, .int .u64 n303, .int .u64 n304, .int .u64 n305, .int .u64 n306, .int .u64 n307, .int .u64 n308, .int .u64 n309, .int .u64 n310, .int .u64 n311, .int .u64 n312, .int .u64 n313, .int .u64 n314, .int .u64 n315, .int .u64 n316], .slice told0p told0l told0c, .bool false])) w18))
  (cond (r4 == 5)
  (∃ C0 : World → Prop, C0 (World.drew w6) ∧
  ∃ (s19p : Option Addr), ∃ (s19l : Nat), ∃ (s19c : Nat), ∃ (n317 : Int), ∃ (n318 : Int), ∃ (n319 : Int), ∃ (n320 : Int), ∃ (n321 : Int), ∃ (n322 : Int), ∃ (n323 : Int), ∃ (n324 : Int), ∃ (n325 : Int), ∃ (n326 : Int), ∃ (n327 : Int), ∃ (n328 : Int), ∃ (n329 : Int), ∃ (n330 : Int), ∃ (n331 : Int), ∃ (n332 : Int), (∀ (w19 : World), C0 w19 →
  Ld_tidemarkref9_Heap w19 (⟨b0, 0, none⟩) fun s20p s20l s20c n333 n334 n335 n336 n337 n338 n339 n340 n341 n342 n343 n344 n345 n346 n347 n348 =>
  Value.agg #[.slice s20p s20l s20c, .int .u64 n333, .int .u64 n334, .int .u64 n335, .int .u64 n336, .int .u64 n337, .int .u64 n338, .int .u64 n339, .int .u64 n340, .int .u64 n341, .int .u64 n342, .int .u64 n343, .int .u64 n344, .int .u64 n345, .int .u64 n346, .int .u64 n347, .int .u64 n348] = .agg #[.slice s19p s19l s19c, .int .u64 n317, .int .u64 n318, .int .u64 n319, .int .u64 n320, .int .u64 n321, .int .u64 n322, .int .u64 n323, .int .u64 n324, .int .u64 n325, .int .u64 n326, .int .u64 n327, .int .u64 n328, .int .u64 n329, .int .u64 n330, .int .u64 n331, .int .u64 n332]) ∧
  cond (r3 == 0)
  (LdIQ .i64 C0 (Addr.add (⟨b1, 0, none⟩) 2) fun n349 =>
  Calls Try.prog 24 #[.pointer h0] (World.drew w6) fun e4 w20 =>
  ∃ (r5 : Option Addr), e4 = .returned (.pointer r5) ∧
  C0 w20 ∧
  Calls Try.prog 42 #[.pointer r5] w20 fun e5 w21 =>
  ∃ (r6 : Int), e5 = .returned (.int .i64 r6) ∧
  C0 w21 ∧
  cond (decide (r6 < (IntKind.wrap .i64 (n349 + 1))))
  (St_tidemarkref9_Heap w21 (⟨b2, 0, none⟩) s19p s19l s19c n317 n318 n319 n320 n321 n322 n323 n324 n325 n326 n327 n328 n329 n330 n331 n332 fun w22 =>
  Ld_tidemarkref9_Heap w22 (⟨b2, 0, none⟩) fun s21p s21l s21c n350 n351 n352 n353 n354 n355 n356 n357 n358 n359 n360 n361 n362 n363 n364 n365 =>
  R (.returned (.tuple #[.agg #[.slice s21p s21l s21c, .int .u64 n350, .int .u64 n351, .int .u64 n352, .int .u64 n353, .int .u64 n354, .int .u64 n355, .int .u64 n356, .int .u64 n357, .int .u64 n358, .int .u64 n359, .int .u64 n360, .int .u64 n361, .int .u64 n362, .int .u64 n363, .int .u64 n364, .int .u64 n365], .slice told0p told0l told0c, .bool true])) w22)
  (Calls Try.prog 16 #[.pointer h0] w21 fun e6 w23 =>
  ∃ (r7 : Option Addr), e6 = .returned (.pointer r7) ∧
  C0 w23 ∧
  Calls Try.prog 64 #[.pointer r7] w23 fun e7 w24 =>
  ∃ (r8 : Int), e7 = .returned (.int .i64 r8) ∧
  C0 w24 ∧
  Calls Try.prog 16 #[.pointer h0] w24 fun e8 w25 =>
  ∃ (r9 : Option Addr), e8 = .returned (.pointer r9) ∧
  C0 w25 ∧
  Calls Try.prog 65 #[.pointer r9] w25 fun e9 w26 =>
  ∃ (r10 : Int), e9 = .returned (.int .i64 r10) ∧
  C0 w26 ∧
  St_tidemarkref9_Heap w26 (⟨b2, 0, none⟩) s19p s19l s19c n317 n318 n319 n320 n321 n322 n323 n324 n325 n326 n327 n328 n329 n330 n331 n332 fun w27 =>
  Ld_tidemarkref9_Heap w27 (⟨b2, 0, none⟩) fun s22p s22l s22c n366 n367 n368 n369 n370 n371 n372 n373 n374 n375 n376 n377 n378 n379 n380 n381 =>
  R (.returned (.tuple #[.agg #[.slice s22p s22l s22c, .int .u64 n366, .int .u64 n367, .int .u64 n368, .int .u64 n369, .int .u64 n370, .int .u64 n371, .int .u64 n372, .int .u64 n373, .int .u64 n374, .int .u64 n375, .int .u64 n376, .int .u64 n377, .int .u64 n378, .int .u64 n379, .int .u64 n380, .int .u64 n381], .slice told0p told0l told0c, .bool (r8 == r10)])) w27))
  (St_tidemarkref9_Heap (World.drew w6) (⟨b2, 0, none⟩) s19p s19l s19c n317 n318 n319 n320 n321 n322 n323 n324 n325 n326 n327 n328 n329 n330 n331 n332 fun w28 =>
  Ld_tidemarkref9_Heap w28 (⟨b2, 0, none⟩) fun s23p s23l s23c n382 n383 n384 n385 n386 n387 n388 n389 n390 n391 n392 n393 n394 n395 n396 n397 =>
  R (.returned (.tuple #[.agg #[.slice s23p s23l s23c, .int .u64 n382, .int .u64 n383, .int .u64 n384, .int .u64 n385, .int .u64 n386, .int .u64 n387, .int .u64 n388, .int .u64 n389, .int .u64 n390, .int .u64 n391, .int .u64 n392, .int .u64 n393, .int .u64 n394, .int .u64 n395, .int .u64 n396, .int .u64 n397], .slice told0p told0l told0c, .bool false])) w28))
  (cond (r4 != 0)
  (Ld_tidemarkref9_Heap w6 (⟨b0, 0, none⟩) fun s24p s24l s24c n398 n399 n400 n401 n402 n403 n404 n405 n406 n407 n408 n409 n410 n411 n412 n413 =>
  St_tidemarkref9_Heap w6 (⟨b2, 0, none⟩) s24p s24l s24c n398 n399 n400 n401 n402 n403 n404 n405 n406 n407 n408 n409 n410 n411 n412 n413 fun w29 =>
  Ld_tidemarkref9_Heap w29 (⟨b2, 0, none⟩) fun s25p s25l s25c n414 n415 n416 n417 n418 n419 n420 n421 n422 n423 n424 n425 n426 n427 n428 n429 =>
  R (.returned (.tuple #[.agg #[.slice s25p s25l s25c, .int .u64 n414, .int .u64 n415, .int .u64 n416, .int .u64 n417, .int .u64 n418, .int .u64 n419, .int .u64 n420, .int .u64 n421, .int .u64 n422, .int .u64 n423, .int .u64 n424, .int .u64 n425, .int .u64 n426, .int .u64 n427, .int .u64 n428, .int .u64 n429], .slice told0p told0l told0c, .bool false])) w29)
  (cond (r3 == 0)
  (Ld_tidemarkref9_Heap w6 (⟨b0, 0, none⟩) fun s26p s26l s26c n430 n431 n432 n433 n434 n435 n436 n437 n438 n439 n440 n441 n442 n443 n444 n445 =>
  St_tidemarkref9_Heap w6 (⟨b2, 0, none⟩) s26p s26l s26c n430 n431 n432 n433 n434 n435 n436 n437 n438 n439 n440 n441 n442 n443 n444 n445 fun w30 =>
  Ld_tidemarkref9_Heap w30 (⟨b2, 0, none⟩) fun s27p s27l s27c n446 n447 n448 n449 n450 n451 n452 n453 n454 n455 n456 n457 n458 n459 n460 n461 =>
  R (.returned (.tuple #[.agg #[.slice s27p s27l s27c, .int .u64 n446, .int .u64 n447, .int .u64 n448, .int .u64 n449, .int .u64 n450, .int .u64 n451, .int .u64 n452, .int .u64 n453, .int .u64 n454, .int .u64 n455, .int .u64 n456, .int .u64 n457, .int .u64 n458, .int .u64 n459, .int .u64 n460, .int .u64 n461], .slice told0p told0l told0c, .bool false])) w30)
  (Ld_tidemarkref9_Heap w6 (⟨b0, 0, none⟩) fun s28p s28l s28c n462 n463 n464 n465 n466 n467 n468 n469 n470 n471 n472 n473 n474 n475 n476 n477 =>
  Calls Try.prog 43 #[.agg #[.slice s28p s28l s28c, .int .u64 n462, .int .u64 n463, .int .u64 n464, .int .u64 n465, .int .u64 n466, .int .u64 n467, .int .u64 n468, .int .u64 n469, .int .u64 n470, .int .u64 n471, .int .u64 n472, .int .u64 n473, .int .u64 n474, .int .u64 n475, .int .u64 n476, .int .u64 n477], .int .u64 r3] w6 fun e10 w31 =>
  ∃ (r11 : Int), e10 = .returned (.int .i64 r11) ∧
  cond (decide (r11 ≥ 0))
  (Ld_tidemarkref9_Heap w31 (⟨b0, 0, none⟩) fun s29p s29l s29c n478 n479 n480 n481 n482 n483 n484 n485 n486 n487 n488 n489 n490 n491 n492 n493 =>
  St_tidemarkref9_Heap w31 (⟨b2, 0, none⟩) s29p s29l s29c n478 n479 n480 n481 n482 n483 n484 n485 n486 n487 n488 n489 n490 n491 n492 n493 fun w32 =>
  Ld_tidemarkref9_Heap w32 (⟨b2, 0, none⟩) fun s30p s30l s30c n494 n495 n496 n497 n498 n499 n500 n501 n502 n503 n504 n505 n506 n507 n508 n509 =>
  R (.returned (.tuple #[.agg #[.slice s30p s30l s30c, .int .u64 n494, .int .u64 n495, .int .u64 n496, .int .u64 n497, .int .u64 n498, .int .u64 n499, .int .u64 n500, .int .u64 n501, .int .u64 n502, .int .u64 n503, .int .u64 n504, .int .u64 n505, .int .u64 n506, .int .u64 n507, .int .u64 n508, .int .u64 n509], .slice told0p told0l told0c, .bool false])) w32)
  (∃ C1 : World → Prop, C1 (World.drew w31) ∧
  ∃ (s31p : Option Addr), ∃ (s31l : Nat), ∃ (s31c : Nat), ∃ (n510 : Int), ∃ (n511 : Int), ∃ (n512 : Int), ∃ (n513 : Int), ∃ (n514 : Int), ∃ (n515 : Int), ∃ (n516 : Int), ∃ (n517 : Int), ∃ (n518 : Int), ∃ (n519 : Int), ∃ (n520 : Int), ∃ (n521 : Int), ∃ (n522 : Int), ∃ (n523 : Int), ∃ (n524 : Int), ∃ (n525 : Int), (∀ (w33 : World), C1 w33 →
  Ld_tidemarkref9_Heap w33 (⟨b0, 0, none⟩) fun s32p s32l s32c n526 n527 n528 n529 n530 n531 n532 n533 n534 n535 n536 n537 n538 n539 n540 n541 =>
  Value.agg #[.slice s32p s32l s32c, .int .u64 n526, .int .u64 n527, .int .u64 n528, .int .u64 n529, .int .u64 n530, .int .u64 n531, .int .u64 n532, .int .u64 n533, .int .u64 n534, .int .u64 n535, .int .u64 n536, .int .u64 n537, .int .u64 n538, .int .u64 n539, .int .u64 n540, .int .u64 n541] = .agg #[.slice s31p s31l s31c, .int .u64 n510, .int .u64 n511, .int .u64 n512, .int .u64 n513, .int .u64 n514, .int .u64 n515, .int .u64 n516, .int .u64 n517, .int .u64 n518, .int .u64 n519, .int .u64 n520, .int .u64 n521, .int .u64 n522, .int .u64 n523, .int .u64 n524, .int .u64 n525]) ∧
  LdIQ .i64 C1 (Addr.add (⟨b1, 0, none⟩) 3) fun n542 =>
  LdIQ .i64 C1 (Addr.add (⟨b1, 0, none⟩) 4) fun n543 =>
  LdIQ .i64 C1 (Addr.add (⟨b1, 0, none⟩) 2) fun n544 =>
  LdIQ .i64 C1 (Addr.add (⟨b1, 0, none⟩) 4) fun n545 =>
  SlC told0p told0c 0 (Nat.cast told0l : Int) (Nat.cast told0l : Int) 1 fun s33p s33l s33c =>
  (Calls Try.prog 81 #[.agg #[.slice s31p s31l s31c, .int .u64 n510, .int .u64 n511, .int .u64 n512, .int .u64 n513, .int .u64 n514, .int .u64 n515, .int .u64 n516, .int .u64 n517, .int .u64 n518, .int .u64 n519, .int .u64 n520, .int .u64 n521, .int .u64 n522, .int .u64 n523, .int .u64 n524, .int .u64 n525], .int .u64 r3, .int .i64 n542, .int .i64 n543, .int .i64 (IntKind.wrap .i64 (n544 - n545))] (World.drew w31) fun e11 w34 =>
  ∃ (r12p : Option Addr), ∃ (r12l : Nat), ∃ (r12c : Nat), ∃ (r13 : Int), ∃ (r14 : Int), ∃ (r15 : Int), ∃ (r16 : Int), ∃ (r17 : Int), ∃ (r18 : Int), ∃ (r19 : Int), ∃ (r20 : Int), ∃ (r21 : Int), ∃ (r22 : Int), ∃ (r23 : Int), ∃ (r24 : Int), ∃ (r25 : Int), ∃ (r26 : Int), ∃ (r27 : Int), ∃ (r28 : Int), e11 = .returned (.agg #[.slice r12p r12l r12c, .int .u64 r13, .int .u64 r14, .int .u64 r15, .int .u64 r16, .int .u64 r17, .int .u64 r18, .int .u64 r19, .int .u64 r20, .int .u64 r21, .int .u64 r22, .int .u64 r23, .int .u64 r24, .int .u64 r25, .int .u64 r26, .int .u64 r27, .int .u64 r28]) ∧
  NewC (.cells #[.int .u64 r3] 24 (0, 0)) w34 fun b3 w35 =>
  RunS Try.prog (Builtin.append_ #[45, 45] 45 #[.slice s33p s33l s33c, .slice (some (⟨b3, 0, none⟩)) 1 1]) w35 fun s34p s34l s34c w36 =>
  St_tidemarkref9_Heap w36 (⟨b2, 0, none⟩) r12p r12l r12c r13 r14 r15 r16 r17 r18 r19 r20 r21 r22 r23 r24 r25 r26 r27 r28 fun w37 =>
  Ld_tidemarkref9_Heap w37 (⟨b2, 0, none⟩) fun s35p s35l s35c n546 n547 n548 n549 n550 n551 n552 n553 n554 n555 n556 n557 n558 n559 n560 n561 =>
  R (.returned (.tuple #[.agg #[.slice s35p s35l s35c, .int .u64 n546, .int .u64 n547, .int .u64 n548, .int .u64 n549, .int .u64 n550, .int .u64 n551, .int .u64 n552, .int .u64 n553, .int .u64 n554, .int .u64 n555, .int .u64 n556, .int .u64 n557, .int .u64 n558, .int .u64 n559, .int .u64 n560, .int .u64 n561], .slice s34p s34l s34c, .bool true])) w37) ∧
  (NewC (.cells #[.int .u64 r3] 24 (0, 0)) (World.drew w31) fun b4 w38 =>
  C1 w38 ∧
  Calls Try.prog 81 #[.agg #[.slice s31p s31l s31c, .int .u64 n510, .int .u64 n511, .int .u64 n512, .int .u64 n513, .int .u64 n514, .int .u64 n515, .int .u64 n516, .int .u64 n517, .int .u64 n518, .int .u64 n519, .int .u64 n520, .int .u64 n521, .int .u64 n522, .int .u64 n523, .int .u64 n524, .int .u64 n525], .int .u64 r3, .int .i64 n542, .int .i64 n543, .int .i64 (IntKind.wrap .i64 (n544 - n545))] w38 fun e12 w39 =>
  ∃ (r29p : Option Addr), ∃ (r29l : Nat), ∃ (r29c : Nat), ∃ (r30 : Int), ∃ (r31 : Int), ∃ (r32 : Int), ∃ (r33 : Int), ∃ (r34 : Int), ∃ (r35 : Int), ∃ (r36 : Int), ∃ (r37 : Int), ∃ (r38 : Int), ∃ (r39 : Int), ∃ (r40 : Int), ∃ (r41 : Int), ∃ (r42 : Int), ∃ (r43 : Int), ∃ (r44 : Int), ∃ (r45 : Int), e12 = .returned (.agg #[.slice r29p r29l r29c, .int .u64 r30, .int .u64 r31, .int .u64 r32, .int .u64 r33, .int .u64 r34, .int .u64 r35, .int .u64 r36, .int .u64 r37, .int .u64 r38, .int .u64 r39, .int .u64 r40, .int .u64 r41, .int .u64 r42, .int .u64 r43, .int .u64 r44, .int .u64 r45]) ∧
  RunS Try.prog (Builtin.append_ #[45, 45] 45 #[.slice s33p s33l s33c, .slice (some (⟨b4, 0, none⟩)) 1 1]) w39 fun s36p s36l s36c w40 =>
  St_tidemarkref9_Heap w40 (⟨b2, 0, none⟩) r29p r29l r29c r30 r31 r32 r33 r34 r35 r36 r37 r38 r39 r40 r41 r42 r43 r44 r45 fun w41 =>
  Ld_tidemarkref9_Heap w41 (⟨b2, 0, none⟩) fun s37p s37l s37c n562 n563 n564 n565 n566 n567 n568 n569 n570 n571 n572 n573 n574 n575 n576 n577 =>
  R (.returned (.tuple #[.agg #[.slice s37p s37l s37c, .int .u64 n562, .int .u64 n563, .int .u64 n564, .int .u64 n565, .int .u64 n566, .int .u64 n567, .int .u64 n568, .int .u64 n569, .int .u64 n570, .int .u64 n571, .int .u64 n572, .int .u64 n573, .int .u64 n574, .int .u64 n575, .int .u64 n576, .int .u64 n577], .slice s36p s36l s36c, .bool true])) w41))))))))))))
  (LdI .i64 w5 (⟨b1, 0, none⟩) fun n578 =>
  cond (decide (n578 ≤ 4))
  (LdI .i64 w5 (Addr.add (⟨b1, 0, none⟩) 3) fun n579 =>
  Calls Try.prog 31 #[.pointer h0, .int .u64 r0, .int .i64 n579, .int .u64 r1] w5 fun e13 w42 =>
  ∃ (r46 : Int), e13 = .returned (.int .i64 r46) ∧
  cond (decide (r2 < 0))
  (Ld_tidemarkref9_Heap w42 (⟨b0, 0, none⟩) fun s38p s38l s38c n580 n581 n582 n583 n584 n585 n586 n587 n588 n589 n590 n591 n592 n593 n594 n595 =>
  St_tidemarkref9_Heap w42 (⟨b2, 0, none⟩) s38p s38l s38c n580 n581 n582 n583 n584 n585 n586 n587 n588 n589 n590 n591 n592 n593 n594 n595 fun w43 =>
  Ld_tidemarkref9_Heap w43 (⟨b2, 0, none⟩) fun s39p s39l s39c n596 n597 n598 n599 n600 n601 n602 n603 n604 n605 n606 n607 n608 n609 n610 n611 =>
  R (.returned (.tuple #[.agg #[.slice s39p s39l s39c, .int .u64 n596, .int .u64 n597, .int .u64 n598, .int .u64 n599, .int .u64 n600, .int .u64 n601, .int .u64 n602, .int .u64 n603, .int .u64 n604, .int .u64 n605, .int .u64 n606, .int .u64 n607, .int .u64 n608, .int .u64 n609, .int .u64 n610, .int .u64 n611], .slice told0p told0l told0c, .bool (r46 == 6)])) w43)
  (LdS w42 (⟨b0, 0, none⟩) fun s40p s40l _ =>
  IdxC s40p s40l r2 4 fun a0 =>
  LdI .u64 w42 a0 fun n612 =>
  LdI .i64 w42 (Addr.add a0 1) fun n613 =>
  LdS w42 (Addr.add a0 2) fun s41p s41l s41c =>
  LdS w42 (Addr.add a0 3) fun s42p s42l s42c =>
  NewC (.cells #[.int .u64 0, .int .i64 0, .slice none 0 0, .slice none 0 0] 133 (0, 0)) w42 fun b5 w44 =>
  StC w44 (⟨b5, 0, none⟩) (.int .u64 n612) fun w45 =>
  StC w45 (Addr.add (⟨b5, 0, none⟩) 1) (.int .i64 n613) fun w46 =>
  StC w46 (Addr.add (⟨b5, 0, none⟩) 2) (.slice s41p s41l s41c) fun w47 =>
  StC w47 (Addr.add (⟨b5, 0, none⟩) 3) (.slice s42p s42l s42c) fun w48 =>
  LdI .i64 w48 (Addr.add (⟨b1, 0, none⟩) 3) fun n614 =>
  cond (decide (n614 < 0))
  (Ld_tidemarkref9_Heap w48 (⟨b0, 0, none⟩) fun s43p s43l s43c n615 n616 n617 n618 n619 n620 n621 n622 n623 n624 n625 n626 n627 n628 n629 n630 =>
  St_tidemarkref9_Heap w48 (⟨b2, 0, none⟩) s43p s43l s43c n615 n616 n617 n618 n619 n620 n621 n622 n623 n624 n625 n626 n627 n628 n629 n630 fun w49 =>
  Ld_tidemarkref9_Heap w49 (⟨b2, 0, none⟩) fun s44p s44l s44c n631 n632 n633 n634 n635 n636 n637 n638 n639 n640 n641 n642 n643 n644 n645 n646 =>
  R (.returned (.tuple #[.agg #[.slice s44p s44l s44c, .int .u64 n631, .int .u64 n632, .int .u64 n633, .int .u64 n634, .int .u64 n635, .int .u64 n636, .int .u64 n637, .int .u64 n638, .int .u64 n639, .int .u64 n640, .int .u64 n641, .int .u64 n642, .int .u64 n643, .int .u64 n644, .int .u64 n645, .int .u64 n646], .slice told0p told0l told0c, .bool (r46 == 1)])) w49)
  (LdI .i64 w48 (Addr.add (⟨b1, 0, none⟩) 3) fun n647 =>
  LdS w48 (Addr.add (⟨b5, 0, none⟩) 2) fun _ s45l _ =>
  cond (decide (n647 ≥ (Nat.cast s45l : Int)))
  (Ld_tidemarkref9_Heap w48 (⟨b0, 0, none⟩) fun s46p s46l s46c n648 n649 n650 n651 n652 n653 n654 n655 n656 n657 n658 n659 n660 n661 n662 n663 =>
  St_tidemarkref9_Heap w48 (⟨b2, 0, none⟩) s46p s46l s46c n648 n649 n650 n651 n652 n653 n654 n655 n656 n657 n658 n659 n660 n661 n662 n663 fun w50 =>
  Ld_tidemarkref9_Heap w50 (⟨b2, 0, none⟩) fun s47p s47l s47c n664 n665 n666 n667 n668 n669 n670 n671 n672 n673 n674 n675 n676 n677 n678 n679 =>
  R (.returned (.tuple #[.agg #[.slice s47p s47l s47c, .int .u64 n664, .int .u64 n665, .int .u64 n666, .int .u64 n667, .int .u64 n668, .int .u64 n669, .int .u64 n670, .int .u64 n671, .int .u64 n672, .int .u64 n673, .int .u64 n674, .int .u64 n675, .int .u64 n676, .int .u64 n677, .int .u64 n678, .int .u64 n679], .slice told0p told0l told0c, .bool (r46 == 1)])) w50)
  (∀ k0 : World → Prop,
  (∀ (w53 : World), S_law9_Play_j0 told0p told0l told0c R b0 b1 b2 r1 r2 r46 b5 w53 → k0 w53) →
  cond (r1 != 0)
  (Ld_tidemarkref9_Heap w48 (⟨b0, 0, none⟩) fun s48p s48l s48c n680 n681 n682 n683 n684 n685 n686 n687 n688 n689 n690 n691 n692 n693 n694 n695 =>
  Calls Try.prog 43 #[.agg #[.slice s48p s48l s48c, .int .u64 n680, .int .u64 n681, .int .u64 n682, .int .u64 n683, .int .u64 n684, .int .u64 n685, .int .u64 n686, .int .u64 n687, .int .u64 n688, .int .u64 n689, .int .u64 n690, .int .u64 n691, .int .u64 n692, .int .u64 n693, .int .u64 n694, .int .u64 n695], .int .u64 r1] w48 fun e14 w51 =>
  ∃ (r47 : Int), e14 = .returned (.int .i64 r47) ∧
  cond (decide (r47 < 0))
  (Ld_tidemarkref9_Heap w51 (⟨b0, 0, none⟩) fun s49p s49l s49c n696 n697 n698 n699 n700 n701 n702 n703 n704 n705 n706 n707 n708 n709 n710 n711 =>
  St_tidemarkref9_Heap w51 (⟨b2, 0, none⟩) s49p s49l s49c n696 n697 n698 n699 n700 n701 n702 n703 n704 n705 n706 n707 n708 n709 n710 n711 fun w52 =>
  Ld_tidemarkref9_Heap w52 (⟨b2, 0, none⟩) fun s50p s50l s50c n712 n713 n714 n715 n716 n717 n718 n719 n720 n721 n722 n723 n724 n725 n726 n727 =>
  R (.returned (.tuple #[.agg #[.slice s50p s50l s50c, .int .u64 n712, .int .u64 n713, .int .u64 n714, .int .u64 n715, .int .u64 n716, .int .u64 n717, .int .u64 n718, .int .u64 n719, .int .u64 n720, .int .u64 n721, .int .u64 n722, .int .u64 n723, .int .u64 n724, .int .u64 n725, .int .u64 n726, .int .u64 n727], .slice told0p told0l told0c, .bool (r46 == 6)])) w52)
  (k0 w51))
  (k0 w48)))))
  (LdI .i64 w5 (⟨b1, 0, none⟩) fun n763 =>
  cond (n763 == 5)
  (LdI .i64 w5 (Addr.add (⟨b1, 0, none⟩) 3) fun n764 =>
  LdI .u64 w5 (Addr.add (⟨b1, 0, none⟩) 5) fun n765 =>
  Calls Try.prog 30 #[.pointer h0, .int .u64 r0, .int .i64 n764, .int .u64 n765] w5 fun e16 w59 =>
  ∃ (r65 : Int), e16 = .returned (.int .i64 r65) ∧
  cond (decide (r2 < 0))
  (Ld_tidemarkref9_Heap w59 (⟨b0, 0, none⟩) fun s58p s58l s58c n766 n767 n768 n769 n770 n771 n772 n773 n774 n775 n776 n777 n778 n779 n780 n781 =>
  St_tidemarkref9_Heap w59 (⟨b2, 0, none⟩) s58p s58l s58c n766 n767 n768 n769 n770 n771 n772 n773 n774 n775 n776 n777 n778 n779 n780 n781 fun w60 =>
  Ld_tidemarkref9_Heap w60 (⟨b2, 0, none⟩) fun s59p s59l s59c n782 n783 n784 n785 n786 n787 n788 n789 n790 n791 n792 n793 n794 n795 n796 n797 =>
  R (.returned (.tuple #[.agg #[.slice s59p s59l s59c, .int .u64 n782, .int .u64 n783, .int .u64 n784, .int .u64 n785, .int .u64 n786, .int .u64 n787, .int .u64 n788, .int .u64 n789, .int .u64 n790, .int .u64 n791, .int .u64 n792, .int .u64 n793, .int .u64 n794, .int .u64 n795, .int .u64 n796, .int .u64 n797], .slice told0p told0l told0c, .bool (r65 == 6)])) w60)
  (LdS w59 (⟨b0, 0, none⟩) fun s60p s60l _ =>
  IdxC s60p s60l r2 4 fun a2 =>
  LdI .u64 w59 a2 fun n798 =>
  LdI .i64 w59 (Addr.add a2 1) fun n799 =>
  LdS w59 (Addr.add a2 2) fun s61p s61l s61c =>
  LdS w59 (Addr.add a2 3) fun s62p s62l s62c =>
  NewC (.cells #[.int .u64 0, .int .i64 0, .slice none 0 0, .slice none 0 0] 133 (0, 0)) w59 fun b6 w61 =>
  StC w61 (⟨b6, 0, none⟩) (.int .u64 n798) fun w62 =>
  StC w62 (Addr.add (⟨b6, 0, none⟩) 1) (.int .i64 n799) fun w63 =>
  StC w63 (Addr.add (⟨b6, 0, none⟩) 2) (.slice s61p s61l s61c) fun w64 =>
  StC w64 (Addr.add (⟨b6, 0, none⟩) 3) (.slice s62p s62l s62c) fun w65 =>
  LdI .i64 w65 (Addr.add (⟨b1, 0, none⟩) 3) fun n800 =>
  cond (decide (n800 < 0))
  (Ld_tidemarkref9_Heap w65 (⟨b0, 0, none⟩) fun s63p s63l s63c n801 n802 n803 n804 n805 n806 n807 n808 n809 n810 n811 n812 n813 n814 n815 n816 =>
  St_tidemarkref9_Heap w65 (⟨b2, 0, none⟩) s63p s63l s63c n801 n802 n803 n804 n805 n806 n807 n808 n809 n810 n811 n812 n813 n814 n815 n816 fun w66 =>
  Ld_tidemarkref9_Heap w66 (⟨b2, 0, none⟩) fun s64p s64l s64c n817 n818 n819 n820 n821 n822 n823 n824 n825 n826 n827 n828 n829 n830 n831 n832 =>
  R (.returned (.tuple #[.agg #[.slice s64p s64l s64c, .int .u64 n817, .int .u64 n818, .int .u64 n819, .int .u64 n820, .int .u64 n821, .int .u64 n822, .int .u64 n823, .int .u64 n824, .int .u64 n825, .int .u64 n826, .int .u64 n827, .int .u64 n828, .int .u64 n829, .int .u64 n830, .int .u64 n831, .int .u64 n832], .slice told0p told0l told0c, .bool (r65 == 1)])) w66)
  (LdI .i64 w65 (Addr.add (⟨b1, 0, none⟩) 3) fun n833 =>
  LdS w65 (Addr.add (⟨b6, 0, none⟩) 3) fun _ s65l _ =>
  cond (decide (n833 ≥ (Nat.cast s65l : Int)))
  (Ld_tidemarkref9_Heap w65 (⟨b0, 0, none⟩) fun s66p s66l s66c n834 n835 n836 n837 n838 n839 n840 n841 n842 n843 n844 n845 n846 n847 n848 n849 =>
  St_tidemarkref9_Heap w65 (⟨b2, 0, none⟩) s66p s66l s66c n834 n835 n836 n837 n838 n839 n840 n841 n842 n843 n844 n845 n846 n847 n848 n849 fun w67 =>
  Ld_tidemarkref9_Heap w67 (⟨b2, 0, none⟩) fun s67p s67l s67c n850 n851 n852 n853 n854 n855 n856 n857 n858 n859 n860 n861 n862 n863 n864 n865 =>
  R (.returned (.tuple #[.agg #[.slice s67p s67l s67c, .int .u64 n850, .int .u64 n851, .int .u64 n852, .int .u64 n853, .int .u64 n854, .int .u64 n855, .int .u64 n856, .int .u64 n857, .int .u64 n858, .int .u64 n859, .int .u64 n860, .int .u64 n861, .int .u64 n862, .int .u64 n863, .int .u64 n864, .int .u64 n865], .slice told0p told0l told0c, .bool (r65 == 1)])) w67)
  (LdS w65 (Addr.add (⟨b6, 0, none⟩) 3) fun s68p s68l s68c =>
  RunS Try.prog (Builtin.append_ #[45, 45] 45 #[.slice none 0 0, .slice s68p s68l s68c]) w65 fun s69p s69l s69c w68 =>
  StC w68 (Addr.add (⟨b6, 0, none⟩) 3) (.slice s69p s69l s69c) fun w69 =>
  LdS w69 (Addr.add (⟨b6, 0, none⟩) 3) fun s70p s70l _ =>
  LdI .i64 w69 (Addr.add (⟨b1, 0, none⟩) 3) fun n866 =>
  LdI .u64 w69 (Addr.add (⟨b1, 0, none⟩) 5) fun n867 =>
  IdxC s70p s70l n866 1 fun a3 =>
  StC w69 a3 (.int .u64 n867) fun w70 =>
  Ld_tidemarkref9_Heap w70 (⟨b0, 0, none⟩) fun s71p s71l s71c n868 n869 n870 n871 n872 n873 n874 n875 n876 n877 n878 n879 n880 n881 n882 n883 =>
  LdI .u64 w70 (⟨b6, 0, none⟩) fun n884 =>
  LdI .i64 w70 (Addr.add (⟨b6, 0, none⟩) 1) fun n885 =>
  LdS w70 (Addr.add (⟨b6, 0, none⟩) 2) fun s72p s72l s72c =>
  LdS w70 (Addr.add (⟨b6, 0, none⟩) 3) fun s73p s73l s73c =>
  Calls Try.prog 82 #[.agg #[.slice s71p s71l s71c, .int .u64 n868, .int .u64 n869, .int .u64 n870, .int .u64 n871, .int .u64 n872, .int .u64 n873, .int .u64 n874, .int .u64 n875, .int .u64 n876, .int .u64 n877, .int .u64 n878, .int .u64 n879, .int .u64 n880, .int .u64 n881, .int .u64 n882, .int .u64 n883], .int .i64 r2, .agg #[.int .u64 n884, .int .i64 n885, .slice s72p s72l s72c, .slice s73p s73l s73c]] w70 fun e17 w71 =>
  ∃ (r66p : Option Addr), ∃ (r66l : Nat), ∃ (r66c : Nat), ∃ (r67 : Int), ∃ (r68 : Int), ∃ (r69 : Int), ∃ (r70 : Int), ∃ (r71 : Int), ∃ (r72 : Int), ∃ (r73 : Int), ∃ (r74 : Int), ∃ (r75 : Int), ∃ (r76 : Int), ∃ (r77 : Int), ∃ (r78 : Int), ∃ (r79 : Int), ∃ (r80 : Int), ∃ (r81 : Int), ∃ (r82 : Int), e17 = .returned (.agg #[.slice r66p r66l r66c, .int .u64 r67, .int .u64 r68, .int .u64 r69, .int .u64 r70, .int .u64 r71, .int .u64 r72, .int .u64 r73, .int .u64 r74, .int .u64 r75, .int .u64 r76, .int .u64 r77, .int .u64 r78, .int .u64 r79, .int .u64 r80, .int .u64 r81, .int .u64 r82]) ∧
  St_tidemarkref9_Heap w71 (⟨b2, 0, none⟩) r66p r66l r66c r67 r68 r69 r70 r71 r72 r73 r74 r75 r76 r77 r78 r79 r80 r81 r82 fun w72 =>
  Ld_tidemarkref9_Heap w72 (⟨b2, 0, none⟩) fun s74p s74l s74c n886 n887 n888 n889 n890 n891 n892 n893 n894 n895 n896 n897 n898 n899 n900 n901 =>
  R (.returned (.tuple #[.agg #[.slice s74p s74l s74c, .int .u64 n886, .int .u64 n887, .int .u64 n888, .int .u64 n889, .int .u64 n890, .int .u64 n891, .int .u64 n892, .int .u64 n893, .int .u64 n894, .int .u64 n895, .int .u64 n896, .int .u64 n897, .int .u64 n898, .int .u64 n899, .int .u64 n900, .int .u64 n901], .slice told0p told0l told0c, .bool (r65 == 0)])) w72))))
  (LdI .i64 w5 (⟨b1, 0, none⟩) fun n902 =>
  cond (decide (n902 ≤ 7))
  (LdI .i64 w5 (Addr.add (⟨b1, 0, none⟩) 3) fun n903 =>
  Calls Try.prog 29 #[.pointer h0, .int .i64 n903, .int .u64 r1] w5 fun e18 w73 =>
  ∃ (r83 : Int), e18 = .returned (.int .i64 r83) ∧
  LdI .i64 w73 (Addr.add (⟨b1, 0, none⟩) 3) fun n904 =>
  cond (decide (n904 < 0))
  (Ld_tidemarkref9_Heap w73 (⟨b0, 0, none⟩) fun s75p s75l s75c n905 n906 n907 n908 n909 n910 n911 n912 n913 n914 n915 n916 n917 n918 n919 n920 =>
  St_tidemarkref9_Heap w73 (⟨b2, 0, none⟩) s75p s75l s75c n905 n906 n907 n908 n909 n910 n911 n912 n913 n914 n915 n916 n917 n918 n919 n920 fun w74 =>
  Ld_tidemarkref9_Heap w74 (⟨b2, 0, none⟩) fun s76p s76l s76c n921 n922 n923 n924 n925 n926 n927 n928 n929 n930 n931 n932 n933 n934 n935 n936 =>
  R (.returned (.tuple #[.agg #[.slice s76p s76l s76c, .int .u64 n921, .int .u64 n922, .int .u64 n923, .int .u64 n924, .int .u64 n925, .int .u64 n926, .int .u64 n927, .int .u64 n928, .int .u64 n929, .int .u64 n930, .int .u64 n931, .int .u64 n932, .int .u64 n933, .int .u64 n934, .int .u64 n935, .int .u64 n936], .slice told0p told0l told0c, .bool (r83 == 1)])) w74)
  (LdI .i64 w73 (Addr.add (⟨b1, 0, none⟩) 3) fun n937 =>
  cond (decide (n937 > 15))
  (Ld_tidemarkref9_Heap w73 (⟨b0, 0, none⟩) fun s77p s77l s77c n938 n939 n940 n941 n942 n943 n944 n945 n946 n947 n948 n949 n950 n951 n952 n953 =>
  St_tidemarkref9_Heap w73 (⟨b2, 0, none⟩) s77p s77l s77c n938 n939 n940 n941 n942 n943 n944 n945 n946 n947 n948 n949 n950 n951 n952 n953 fun w75 =>
  Ld_tidemarkref9_Heap w75 (⟨b2, 0, none⟩) fun s78p s78l s78c n954 n955 n956 n957 n958 n959 n960 n961 n962 n963 n964 n965 n966 n967 n968 n969 =>
  R (.returned (.tuple #[.agg #[.slice s78p s78l s78c, .int .u64 n954, .int .u64 n955, .int .u64 n956, .int .u64 n957, .int .u64 n958, .int .u64 n959, .int .u64 n960, .int .u64 n961, .int .u64 n962, .int .u64 n963, .int .u64 n964, .int .u64 n965, .int .u64 n966, .int .u64 n967, .int .u64 n968, .int .u64 n969], .slice told0p told0l told0c, .bool (r83 == 1)])) w75)
  (∀ k1 : World → Prop,
  (∀ (w78 : World), S_law9_Play_j1 told0p told0l told0c R b0 b1 b2 r1 r83 w78 → k1 w78) →
  cond (r1 != 0)
  (Ld_tidemarkref9_Heap w73 (⟨b0, 0, none⟩) fun s79p s79l s79c n970 n971 n972 n973 n974 n975 n976 n977 n978 n979 n980 n981 n982 n983 n984 n985 =>
  Calls Try.prog 43 #[.agg #[.slice s79p s79l s79c, .int .u64 n970, .int .u64 n971, .int .u64 n972, .int .u64 n973, .int .u64 n974, .int .u64 n975, .int .u64 n976, .int .u64 n977, .int .u64 n978, .int .u64 n979, .int .u64 n980, .int .u64 n981, .int .u64 n982, .int .u64 n983, .int .u64 n984, .int .u64 n985], .int .u64 r1] w73 fun e19 w76 =>
  ∃ (r84 : Int), e19 = .returned (.int .i64 r84) ∧
  cond (decide (r84 < 0))
  (Ld_tidemarkref9_Heap w76 (⟨b0, 0, none⟩) fun s80p s80l s80c n986 n987 n988 n989 n990 n991 n992 n993 n994 n995 n996 n997 n998 n999 n1000 n1001 =>
  St_tidemarkref9_Heap w76 (⟨b2, 0, none⟩) s80p s80l s80c n986 n987 n988 n989 n990 n991 n992 n993 n994 n995 n996 n997 n998 n999 n1000 n1001 fun w77 =>
  Ld_tidemarkref9_Heap w77 (⟨b2, 0, none⟩) fun s81p s81l s81c n1002 n1003 n1004 n1005 n1006 n1007 n1008 n1009 n1010 n1011 n1012 n1013 n1014 n1015 n1016 n1017 =>
  R (.returned (.tuple #[.agg #[.slice s81p s81l s81c, .int .u64 n1002, .int .u64 n1003, .int .u64 n1004, .int .u64 n1005, .int .u64 n1006, .int .u64 n1007, .int .u64 n1008, .int .u64 n1009, .int .u64 n1010, .int .u64 n1011, .int .u64 n1012, .int .u64 n1013, .int .u64 n1014, .int .u64 n1015, .int .u64 n1016, .int .u64 n1017], .slice told0p told0l told0c, .bool (r83 == 6)])) w77)
  (k1 w76))
  (k1 w73))))
  (∃ C2 : World → Prop, C2 (World.drew w5) ∧
  ∃ (s84p : Option Addr), ∃ (s84l : Nat), ∃ (s84c : Nat), ∃ (n1051 : Int), ∃ (n1052 : Int), ∃ (n1053 : Int), ∃ (n1054 : Int), ∃ (n1055 : Int), ∃ (n1056 : Int), ∃ (n1057 : Int), ∃ (n1058 : Int), ∃ (n1059 : Int), ∃ (n1060 : Int), ∃ (n1061 : Int), ∃ (n1062 : Int), ∃ (n1063 : Int), ∃ (n1064 : Int), ∃ (n1065 : Int), ∃ (n1066 : Int), (∀ (w81 : World), C2 w81 →
  Ld_tidemarkref9_Heap w81 (⟨b0, 0, none⟩) fun s85p s85l s85c n1067 n1068 n1069 n1070 n1071 n1072 n1073 n1074 n1075 n1076 n1077 n1078 n1079 n1080 n1081 n1082 =>
  Value.agg #[.slice s85p s85l s85c, .int .u64 n1067, .int .u64 n1068, .int .u64 n1069, .int .u64 n1070, .int .u64 n1071, .int .u64 n1072, .int .u64 n1073, .int .u64 n1074, .int .u64 n1075, .int .u64 n1076, .int .u64 n1077, .int .u64 n1078, .int .u64 n1079, .int .u64 n1080, .int .u64 n1081, .int .u64 n1082] = .agg #[.slice s84p s84l s84c, .int .u64 n1051, .int .u64 n1052, .int .u64 n1053, .int .u64 n1054, .int .u64 n1055, .int .u64 n1056, .int .u64 n1057, .int .u64 n1058, .int .u64 n1059, .int .u64 n1060, .int .u64 n1061, .int .u64 n1062, .int .u64 n1063, .int .u64 n1064, .int .u64 n1065, .int .u64 n1066]) ∧
  ∃ (s86p : Option Addr), ∃ (s86l : Nat), ∃ (s86c : Nat), ∃ (n1083 : Int), ∃ (n1084 : Int), ∃ (n1085 : Int), ∃ (n1086 : Int), ∃ (n1087 : Int), ∃ (n1088 : Int), ∃ (n1089 : Int), ∃ (n1090 : Int), ∃ (n1091 : Int), ∃ (n1092 : Int), ∃ (n1093 : Int), ∃ (n1094 : Int), ∃ (n1095 : Int), ∃ (n1096 : Int), ∃ (n1097 : Int), ∃ (n1098 : Int), (∀ (w82 : World), C2 w82 →
  Ld_tidemarkref9_Heap w82 (⟨b0, 0, none⟩) fun s87p s87l s87c n1099 n1100 n1101 n1102 n1103 n1104 n1105 n1106 n1107 n1108 n1109 n1110 n1111 n1112 n1113 n1114 =>
  Value.agg #[.slice s87p s87l s87c, .int .u64 n1099, .int .u64 n1100, .int .u64 n1101, .int .u64 n1102, .int .u64 n1103, .int .u64 n1104, .int .u64 n1105, .int .u64 n1106, .int .u64 n1107, .int .u64 n1108, .int .u64 n1109, .int .u64 n1110, .int .u64 n1111, .int .u64 n1112, .int .u64 n1113, .int .u64 n1114] = .agg #[.slice s86p s86l s86c, .int .u64 n1083, .int .u64 n1084, .int .u64 n1085, .int .u64 n1086, .int .u64 n1087, .int .u64 n1088, .int .u64 n1089, .int .u64 n1090, .int .u64 n1091, .int .u64 n1092, .int .u64 n1093, .int .u64 n1094, .int .u64 n1095, .int .u64 n1096, .int .u64 n1097, .int .u64 n1098]) ∧
  LdIQ .i64 C2 (Addr.add (⟨b1, 0, none⟩) 3) fun n1115 =>
  Calls Try.prog 83 #[.pointer h0, .agg #[.slice s86p s86l s86c, .int .u64 n1083, .int .u64 n1084, .int .u64 n1085, .int .u64 n1086, .int .u64 n1087, .int .u64 n1088, .int .u64 n1089, .int .u64 n1090, .int .u64 n1091, .int .u64 n1092, .int .u64 n1093, .int .u64 n1094, .int .u64 n1095, .int .u64 n1096, .int .u64 n1097, .int .u64 n1098], .int .u64 r0, .int .i64 n1115] (World.drew w5) fun e20 w83 =>
  ∃ (r85 : Bool), e20 = .returned (.bool r85) ∧
  C2 w83 ∧
  St_tidemarkref9_Heap w83 (⟨b2, 0, none⟩) s84p s84l s84c n1051 n1052 n1053 n1054 n1055 n1056 n1057 n1058 n1059 n1060 n1061 n1062 n1063 n1064 n1065 n1066 fun w84 =>
  Ld_tidemarkref9_Heap w84 (⟨b2, 0, none⟩) fun s88p s88l s88c n1116 n1117 n1118 n1119 n1120 n1121 n1122 n1123 n1124 n1125 n1126 n1127 n1128 n1129 n1130 n1131 =>
  R (.returned (.tuple #[.agg #[.slice s88p s88l s88c, .int .u64 n1116, .int .u64 n1117, .int .u64 n1118, .int .u64 n1119, .int .u64 n1120, .int .u64 n1121, .int .u64 n1122, .int .u64 n1123, .int .u64 n1124, .int .u64 n1125, .int .u64 n1126, .int .u64 n1127, .int .u64 n1128, .int .u64 n1129, .int .u64 n1130, .int .u64 n1131], .slice told0p told0l told0c, .bool r85])) w84))))
def S_law9_Play_ann : Ann := (.seq .leaf (.seq .leaf (.seq .leaf (.seq .leaf (.seq (.block (.seq .leaf (.cond (.seq .leaf (.seq .leaf (.seq (.seq .leaf (.cond (.seq .anyt .leaf) .leaf)) (.seq .leaf (.seq .anyt .leaf))))) (.seq .leaf (.cond (.seq .leaf (.seq .leaf (.seq .leaf (.seq .leaf (.join [2, 5, 7, 8, 12, 13, 16, 17] [] .leaf .leaf))))) (.seq .leaf (.cond .leaf (.seq .leaf (.cond (.seq .leaf (.seq .leaf (.join [2, 5, 7, 8, 12, 22] [] .leaf .leaf))) .leaf))))))))) (.seq .anyt .leaf))))))
theorem S_law9_Play_eq (h0 : Option Addr) (m0p : Option Addr) (m0l : Nat) (m0c : Nat) (m1 : Int) (m2 : Int) (m3 : Int) (m4 : Int) (m5 : Int) (m6 : Int) (m7 : Int) (m8 : Int) (m9 : Int) (m10 : Int) (m11 : Int) (m12 : Int) (m13 : Int) (m14 : Int) (m15 : Int) (m16 : Int) (told0p : Option Addr) (told0l : Nat) (told0c : Nat) (d0 : Int) (d1 : Int) (d2 : Int) (d3 : Int) (d4 : Int) (d5 : Int) (w : World) (R : Ending → World → Prop) : X Try.prog Try.f39.ntmps (bodyOf Try.f39) S_law9_Play_ann (argEnv 0 [.pointer h0, .agg #[.slice m0p m0l m0c, .int .u64 m1, .int .u64 m2, .int .u64 m3, .int .u64 m4, .int .u64 m5, .int .u64 m6, .int .u64 m7, .int .u64 m8, .int .u64 m9, .int .u64 m10, .int .u64 m11, .int .u64 m12, .int .u64 m13, .int .u64 m14, .int .u64 m15, .int .u64 m16], .slice told0p told0l told0c, .agg #[.int .i64 d0, .int .i64 d1, .int .i64 d2, .int .i64 d3, .int .i64 d4, .int .u64 d5]]) w (fun e w' => resK Try.prog Try.f39.results.toList e w' [] fun vs => R (.returned (pack vs)) w') (fun e w' => resK Try.prog Try.f39.results.toList e w' [] fun vs => R (.returned (pack vs)) w') (fun _ _ _ => False) = S_law9_Play h0 m0p m0l m0c m1 m2 m3 m4 m5 m6 m7 m8 m9 m10 m11 m12 m13 m14 m15 m16 told0p told0l told0c d0 d1 d2 d3 d4 d5 w R := by kernel_rfl
theorem S_law9_Play_ok (h0 : Option Addr) (m0p : Option Addr) (m0l : Nat) (m0c : Nat) (m1 : Int) (m2 : Int) (m3 : Int) (m4 : Int) (m5 : Int) (m6 : Int) (m7 : Int) (m8 : Int) (m9 : Int) (m10 : Int) (m11 : Int) (m12 : Int) (m13 : Int) (m14 : Int) (m15 : Int) (m16 : Int) (told0p : Option Addr) (told0l : Nat) (told0c : Nat) (d0 : Int) (d1 : Int) (d2 : Int) (d3 : Int) (d4 : Int) (d5 : Int) (w : World) (R : Ending → World → Prop) (h : S_law9_Play h0 m0p m0l m0c m1 m2 m3 m4 m5 m6 m7 m8 m9 m10 m11 m12 m13 m14 m15 m16 told0p told0l told0c d0 d1 d2 d3 d4 d5 w R) : Calls Try.prog 39 #[.pointer h0, .agg #[.slice m0p m0l m0c, .int .u64 m1, .int .u64 m2, .int .u64 m3, .int .u64 m4, .int .u64 m5, .int .u64 m6, .int .u64 m7, .int .u64 m8, .int .u64 m9, .int .u64 m10, .int .u64 m11, .int .u64 m12, .int .u64 m13, .int .u64 m14, .int .u64 m15, .int .u64 m16], .slice told0p told0l told0c, .agg #[.int .i64 d0, .int .i64 d1, .int .i64 d2, .int .i64 d3, .int .i64 d4, .int .u64 d5]] w R :=
  calls_of_X (an := S_law9_Play_ann) wide_ok Try.func39 (by kernel_rfl) (by kernel_rfl) (by rw [S_law9_Play_eq]; exact h)

def S_law11_gone_j0 (l0p : Option Addr) (l0l : Nat) (l0c : Nat) (i0 : Int) (w2 : World) (I0 : Option Addr → Nat → Nat → Int → World → Prop) (M0 : Option Addr → Nat → Nat → Int → World → Nat) (l1p : Option Addr) (l1l : Nat) (l1c : Nat) (w7 : World) : Prop :=
  I0 l1p l1l l1c (IntKind.wrap .i64 (i0 + 1)) w7 ∧ M0 l1p l1l l1c (IntKind.wrap .i64 (i0 + 1)) w7 < M0 l0p l0l l0c i0 w2
def S_law11_gone_l0 (h0 : Option Addr) (R : Ending → World → Prop) (b0 : Nat) (b1 : Nat) (l0p : Option Addr) (l0l : Nat) (l0c : Nat) (i0 : Int) (w2 : World) (I0 : Option Addr → Nat → Nat → Int → World → Prop) (M0 : Option Addr → Nat → Nat → Int → World → Nat) : Prop :=
  LdS w2 (⟨b0, 0, none⟩) fun _ s0l _ =>
  cond (decide (i0 < (Nat.cast s0l : Int)))
  (∀ k0 : Option Addr → Nat → Nat → World → Prop,
  (∀ (l1p : Option Addr) (l1l : Nat) (l1c : Nat) (w7 : World), S_law11_gone_j0 l0p l0l l0c i0 w2 I0 M0 l1p l1l l1c w7 → k0 l1p l1l l1c w7) →
  ∃ C0 : World → Prop, C0 (World.drew w2) ∧
  LdSQ C0 (⟨b0, 0, none⟩) fun s1p s1l _ =>
  IdxC s1p s1l i0 4 fun a0 =>
  LdIQ .u64 C0 a0 fun n0 =>
  Calls Try.prog 16 #[.pointer h0] (World.drew w2) fun e0 w3 =>
  ∃ (r0 : Option Addr), e0 = .returned (.pointer r0) ∧
  C0 w3 ∧
  Calls Try.prog 17 #[.pointer r0, .int .u64 n0] w3 fun e1 w4 =>
  ∃ (r1 : Int), ∃ (r2 : Int), e1 = .returned (.tuple #[.int .i64 r1, .int .i64 r2]) ∧
  cond (r2 == 0)
  (LdS w4 (⟨b0, 0, none⟩) fun s2p s2l _ =>
  IdxC s2p s2l i0 4 fun a1 =>
  LdI .u64 w4 a1 fun n1 =>
  LdI .i64 w4 (Addr.add a1 1) fun n2 =>
  LdS w4 (Addr.add a1 2) fun s3p s3l s3c =>
  LdS w4 (Addr.add a1 3) fun s4p s4l s4c =>
  NewC (.cells #[.int .u64 n1, .int .i64 n2, .slice s3p s3l s3c, .slice s4p s4l s4c] 133 (0, 0)) w4 fun b2 w5 =>
  RunS Try.prog (Builtin.append_ #[41, 41] 41 #[.slice l0p l0l l0c, .slice (some (⟨b2, 0, none⟩)) 1 1]) w5 fun s5p s5l s5c w6 =>
  k0 s5p s5l s5c w6)
  (k0 l0p l0l l0c w4))
  (StC w2 (⟨b0, 0, none⟩) (.slice l0p l0l l0c) fun w8 =>
  Ld_tidemarkref9_Heap w8 (⟨b0, 0, none⟩) fun s6p s6l s6c n3 n4 n5 n6 n7 n8 n9 n10 n11 n12 n13 n14 n15 n16 n17 n18 =>
  St_tidemarkref9_Heap w8 (⟨b1, 0, none⟩) s6p s6l s6c n3 n4 n5 n6 n7 n8 n9 n10 n11 n12 n13 n14 n15 n16 n17 n18 fun w9 =>
  Ld_tidemarkref9_Heap w9 (⟨b1, 0, none⟩) fun s7p s7l s7c n19 n20 n21 n22 n23 n24 n25 n26 n27 n28 n29 n30 n31 n32 n33 n34 =>
  R (.returned (.agg #[.slice s7p s7l s7c, .int .u64 n19, .int .u64 n20, .int .u64 n21, .int .u64 n22, .int .u64 n23, .int .u64 n24, .int .u64 n25, .int .u64 n26, .int .u64 n27, .int .u64 n28, .int .u64 n29, .int .u64 n30, .int .u64 n31, .int .u64 n32, .int .u64 n33, .int .u64 n34])) w9)
def S_law11_gone (h0 : Option Addr) (m0p : Option Addr) (m0l : Nat) (m0c : Nat) (m1 : Int) (m2 : Int) (m3 : Int) (m4 : Int) (m5 : Int) (m6 : Int) (m7 : Int) (m8 : Int) (m9 : Int) (m10 : Int) (m11 : Int) (m12 : Int) (m13 : Int) (m14 : Int) (m15 : Int) (m16 : Int) (w : World) (R : Ending → World → Prop) : Prop :=
  NewC (.cells #[.slice m0p m0l m0c, .int .u64 m1, .int .u64 m2, .int .u64 m3, .int .u64 m4, .int .u64 m5, .int .u64 m6, .int .u64 m7, .int .u64 m8, .int .u64 m9, .int .u64 m10, .int .u64 m11, .int .u64 m12, .int .u64 m13, .int .u64 m14, .int .u64 m15, .int .u64 m16] 44 (0, 0)) w fun b0 w0 =>
  NewC (.cells #[.slice none 0 0, .int .u64 0, .int .u64 0, .int .u64 0, .int .u64 0, .int .u64 0, .int .u64 0, .int .u64 0, .int .u64 0, .int .u64 0, .int .u64 0, .int .u64 0, .int .u64 0, .int .u64 0, .int .u64 0, .int .u64 0, .int .u64 0] 44 (0, 0)) w0 fun b1 w1 =>
  ∃ (I0 : Option Addr → Nat → Nat → Int → World → Prop) (M0 : Option Addr → Nat → Nat → Int → World → Nat), I0 none 0 0 0 w1 ∧
  ∀ (l0p : Option Addr) (l0l : Nat) (l0c : Nat) (i0 : Int) (w2 : World), I0 l0p l0l l0c i0 w2 →
  S_law11_gone_l0 h0 R b0 b1 l0p l0l l0c i0 w2 I0 M0
def S_law11_gone_ann : Ann := (.seq .leaf (.seq .leaf (.seq (.seq .leaf (.block (.loop [0, 3, 4] [(5, .slice), (6, (.int .i64))] (.seq .leaf (.seq (.jblock [0, 3, 4, 6] [(5, .slice)] (.seq .anyt .leaf) .leaf) .leaf))))) .leaf)))
theorem S_law11_gone_eq (h0 : Option Addr) (m0p : Option Addr) (m0l : Nat) (m0c : Nat) (m1 : Int) (m2 : Int) (m3 : Int) (m4 : Int) (m5 : Int) (m6 : Int) (m7 : Int) (m8 : Int) (m9 : Int) (m10 : Int) (m11 : Int) (m12 : Int) (m13 : Int) (m14 : Int) (m15 : Int) (m16 : Int) (w : World) (R : Ending → World → Prop) : X Try.prog Try.f40.ntmps (bodyOf Try.f40) S_law11_gone_ann (argEnv 0 [.pointer h0, .agg #[.slice m0p m0l m0c, .int .u64 m1, .int .u64 m2, .int .u64 m3, .int .u64 m4, .int .u64 m5, .int .u64 m6, .int .u64 m7, .int .u64 m8, .int .u64 m9, .int .u64 m10, .int .u64 m11, .int .u64 m12, .int .u64 m13, .int .u64 m14, .int .u64 m15, .int .u64 m16]]) w (fun e w' => resK Try.prog Try.f40.results.toList e w' [] fun vs => R (.returned (pack vs)) w') (fun e w' => resK Try.prog Try.f40.results.toList e w' [] fun vs => R (.returned (pack vs)) w') (fun _ _ _ => False) = S_law11_gone h0 m0p m0l m0c m1 m2 m3 m4 m5 m6 m7 m8 m9 m10 m11 m12 m13 m14 m15 m16 w R := by kernel_rfl
theorem S_law11_gone_ok (h0 : Option Addr) (m0p : Option Addr) (m0l : Nat) (m0c : Nat) (m1 : Int) (m2 : Int) (m3 : Int) (m4 : Int) (m5 : Int) (m6 : Int) (m7 : Int) (m8 : Int) (m9 : Int) (m10 : Int) (m11 : Int) (m12 : Int) (m13 : Int) (m14 : Int) (m15 : Int) (m16 : Int) (w : World) (R : Ending → World → Prop) (h : S_law11_gone h0 m0p m0l m0c m1 m2 m3 m4 m5 m6 m7 m8 m9 m10 m11 m12 m13 m14 m15 m16 w R) : Calls Try.prog 40 #[.pointer h0, .agg #[.slice m0p m0l m0c, .int .u64 m1, .int .u64 m2, .int .u64 m3, .int .u64 m4, .int .u64 m5, .int .u64 m6, .int .u64 m7, .int .u64 m8, .int .u64 m9, .int .u64 m10, .int .u64 m11, .int .u64 m12, .int .u64 m13, .int .u64 m14, .int .u64 m15, .int .u64 m16]] w R :=
  calls_of_X (an := S_law11_gone_ann) wide_ok Try.func40 (by kernel_rfl) (by kernel_rfl) (by rw [S_law11_gone_eq]; exact h)

def S_ref9_Live_j0 (n16 : Int) (i0 : Int) (w2 : World) (I0 : Int → Int → World → Prop) (M0 : Int → Int → World → Nat) (o0 : Addr) (w18 : World) : Prop :=
  LdS w18 (Addr.add o0 2) fun _ s12l _ =>
  LdS w18 (Addr.add o0 3) fun _ s13l _ =>
  I0 (IntKind.wrap .i64 ((IntKind.wrap .i64 ((IntKind.wrap .i64 (n16 + 1)) + (Nat.cast s12l : Int))) + (Nat.cast s13l : Int))) (IntKind.wrap .i64 (i0 + 1)) w18 ∧ M0 (IntKind.wrap .i64 ((IntKind.wrap .i64 ((IntKind.wrap .i64 (n16 + 1)) + (Nat.cast s12l : Int))) + (Nat.cast s13l : Int))) (IntKind.wrap .i64 (i0 + 1)) w18 < M0 n16 i0 w2
def S_ref9_Live_l0 (R : Ending → World → Prop) (b0 : Nat) (r0p : Option Addr) (r0l : Nat) (n16 : Int) (i0 : Int) (w2 : World) (I0 : Int → Int → World → Prop) (M0 : Int → Int → World → Nat) : Prop :=
  cond (decide (i0 < (Nat.cast r0l : Int)))
  (∀ k0 : Addr → World → Prop,
  (∀ (o0 : Addr) (w18 : World), S_ref9_Live_j0 n16 i0 w2 I0 M0 o0 w18 → k0 o0 w18) →
  ∃ C0 : World → Prop, C0 (World.drew w2) ∧
  LdSQ C0 (⟨b0, 0, none⟩) fun s1p s1l _ =>
  ∃ (s2p : Option Addr), ∃ (s2l : Nat), ∃ (s2c : Nat), ∃ (n17 : Int), ∃ (n18 : Int), ∃ (n19 : Int), ∃ (n20 : Int), ∃ (n21 : Int), ∃ (n22 : Int), ∃ (n23 : Int), ∃ (n24 : Int), ∃ (n25 : Int), ∃ (n26 : Int), ∃ (n27 : Int), ∃ (n28 : Int), ∃ (n29 : Int), ∃ (n30 : Int), ∃ (n31 : Int), ∃ (n32 : Int), (∀ (w3 : World), C0 w3 →
  Ld_tidemarkref9_Heap w3 (⟨b0, 0, none⟩) fun s3p s3l s3c n33 n34 n35 n36 n37 n38 n39 n40 n41 n42 n43 n44 n45 n46 n47 n48 =>
  Value.agg #[.slice s3p s3l s3c, .int .u64 n33, .int .u64 n34, .int .u64 n35, .int .u64 n36, .int .u64 n37, .int .u64 n38, .int .u64 n39, .int .u64 n40, .int .u64 n41, .int .u64 n42, .int .u64 n43, .int .u64 n44, .int .u64 n45, .int .u64 n46, .int .u64 n47, .int .u64 n48] = .agg #[.slice s2p s2l s2c, .int .u64 n17, .int .u64 n18, .int .u64 n19, .int .u64 n20, .int .u64 n21, .int .u64 n22, .int .u64 n23, .int .u64 n24, .int .u64 n25, .int .u64 n26, .int .u64 n27, .int .u64 n28, .int .u64 n29, .int .u64 n30, .int .u64 n31, .int .u64 n32]) ∧
  IdxC r0p r0l i0 1 fun a0 =>
  LdIQ .u64 C0 a0 fun n49 =>
  (Calls Try.prog 43 #[.agg #[.slice s2p s2l s2c, .int .u64 n17, .int .u64 n18, .int .u64 n19, .int .u64 n20, .int .u64 n21, .int .u64 n22, .int .u64 n23, .int .u64 n24, .int .u64 n25, .int .u64 n26, .int .u64 n27, .int .u64 n28, .int .u64 n29, .int .u64 n30, .int .u64 n31, .int .u64 n32], .int .u64 n49] (World.drew w2) fun e1 w4 =>
  ∃ (r1 : Int), e1 = .returned (.int .i64 r1) ∧
  C0 w4 ∧
  IdxC s1p s1l r1 4 fun a1 =>
  ∃ (n50 : Int), ∃ (n51 : Int), ∃ (s4p : Option Addr), ∃ (s4l : Nat), ∃ (s4c : Nat), ∃ (s5p : Option Addr), ∃ (s5l : Nat), ∃ (s5c : Nat), (∀ (w5 : World), C0 w5 →
  LdI .u64 w5 a1 fun n52 =>
  LdI .i64 w5 (Addr.add a1 1) fun n53 =>
  LdS w5 (Addr.add a1 2) fun s6p s6l s6c =>
  LdS w5 (Addr.add a1 3) fun s7p s7l s7c =>
  Value.agg #[.int .u64 n52, .int .i64 n53, .slice s6p s6l s6c, .slice s7p s7l s7c] = .agg #[.int .u64 n50, .int .i64 n51, .slice s4p s4l s4c, .slice s5p s5l s5c]) ∧
  NewC (.cells #[.int .u64 0, .int .i64 0, .slice none 0 0, .slice none 0 0] 133 (0, 0)) w4 fun b1 w6 =>
  C0 w6 ∧
  StC w6 (⟨b1, 0, none⟩) (.int .u64 n50) fun w7 =>
  StC w7 (Addr.add (⟨b1, 0, none⟩) 1) (.int .i64 n51) fun w8 =>
  StC w8 (Addr.add (⟨b1, 0, none⟩) 2) (.slice s4p s4l s4c) fun w9 =>
  StC w9 (Addr.add (⟨b1, 0, none⟩) 3) (.slice s5p s5l s5c) fun w10 =>
  k0 (⟨b1, 0, none⟩) w10) ∧
  (NewC (.cells #[.int .u64 0, .int .i64 0, .slice none 0 0, .slice none 0 0] 133 (0, 0)) (World.drew w2) fun b2 w11 =>
  C0 w11 ∧
  Calls Try.prog 43 #[.agg #[.slice s2p s2l s2c, .int .u64 n17, .int .u64 n18, .int .u64 n19, .int .u64 n20, .int .u64 n21, .int .u64 n22, .int .u64 n23, .int .u64 n24, .int .u64 n25, .int .u64 n26, .int .u64 n27, .int .u64 n28, .int .u64 n29, .int .u64 n30, .int .u64 n31, .int .u64 n32], .int .u64 n49] w11 fun e2 w12 =>
  ∃ (r2 : Int), e2 = .returned (.int .i64 r2) ∧
  C0 w12 ∧
  IdxC s1p s1l r2 4 fun a2 =>
  ∃ (n54 : Int), ∃ (n55 : Int), ∃ (s8p : Option Addr), ∃ (s8l : Nat), ∃ (s8c : Nat), ∃ (s9p : Option Addr), ∃ (s9l : Nat), ∃ (s9c : Nat), (∀ (w13 : World), C0 w13 →
  LdI .u64 w13 a2 fun n56 =>
  LdI .i64 w13 (Addr.add a2 1) fun n57 =>
  LdS w13 (Addr.add a2 2) fun s10p s10l s10c =>
  LdS w13 (Addr.add a2 3) fun s11p s11l s11c =>
  Value.agg #[.int .u64 n56, .int .i64 n57, .slice s10p s10l s10c, .slice s11p s11l s11c] = .agg #[.int .u64 n54, .int .i64 n55, .slice s8p s8l s8c, .slice s9p s9l s9c]) ∧
  StC w12 (⟨b2, 0, none⟩) (.int .u64 n54) fun w14 =>
  StC w14 (Addr.add (⟨b2, 0, none⟩) 1) (.int .i64 n55) fun w15 =>
  StC w15 (Addr.add (⟨b2, 0, none⟩) 2) (.slice s8p s8l s8c) fun w16 =>
  StC w16 (Addr.add (⟨b2, 0, none⟩) 3) (.slice s9p s9l s9c) fun w17 =>
  k0 (⟨b2, 0, none⟩) w17))
  (R (.returned (.tuple #[.int .i64 (Nat.cast r0l : Int), .int .i64 n16])) w2)
def S_ref9_Live (h0p : Option Addr) (h0l : Nat) (h0c : Nat) (h1 : Int) (h2 : Int) (h3 : Int) (h4 : Int) (h5 : Int) (h6 : Int) (h7 : Int) (h8 : Int) (h9 : Int) (h10 : Int) (h11 : Int) (h12 : Int) (h13 : Int) (h14 : Int) (h15 : Int) (h16 : Int) (w : World) (R : Ending → World → Prop) : Prop :=
  NewC (.cells #[.slice h0p h0l h0c, .int .u64 h1, .int .u64 h2, .int .u64 h3, .int .u64 h4, .int .u64 h5, .int .u64 h6, .int .u64 h7, .int .u64 h8, .int .u64 h9, .int .u64 h10, .int .u64 h11, .int .u64 h12, .int .u64 h13, .int .u64 h14, .int .u64 h15, .int .u64 h16] 44 (0, 0)) w fun b0 w0 =>
  Ld_tidemarkref9_Heap w0 (⟨b0, 0, none⟩) fun s0p s0l s0c n0 n1 n2 n3 n4 n5 n6 n7 n8 n9 n10 n11 n12 n13 n14 n15 =>
  Calls Try.prog 61 #[.agg #[.slice s0p s0l s0c, .int .u64 n0, .int .u64 n1, .int .u64 n2, .int .u64 n3, .int .u64 n4, .int .u64 n5, .int .u64 n6, .int .u64 n7, .int .u64 n8, .int .u64 n9, .int .u64 n10, .int .u64 n11, .int .u64 n12, .int .u64 n13, .int .u64 n14, .int .u64 n15]] w0 fun e0 w1 =>
  ∃ (r0p : Option Addr), ∃ (r0l : Nat), ∃ (r0c : Nat), e0 = .returned (.slice r0p r0l r0c) ∧
  ∃ (I0 : Int → Int → World → Prop) (M0 : Int → Int → World → Nat), I0 0 0 w1 ∧
  ∀ (n16 : Int) (i0 : Int) (w2 : World), I0 n16 i0 w2 →
  S_ref9_Live_l0 R b0 r0p r0l n16 i0 w2 I0 M0
def S_ref9_Live_ann : Ann := (.seq .leaf (.seq .leaf (.seq .leaf (.seq (.seq .leaf (.block (.loop [1, 4] [(5, (.int .i64)), (6, (.int .i64))] (.seq .leaf (.seq (.block (.join [1, 4, 5, 6] [(7, .addr)] .anyt .leaf)) .leaf))))) .leaf))))
theorem S_ref9_Live_eq (h0p : Option Addr) (h0l : Nat) (h0c : Nat) (h1 : Int) (h2 : Int) (h3 : Int) (h4 : Int) (h5 : Int) (h6 : Int) (h7 : Int) (h8 : Int) (h9 : Int) (h10 : Int) (h11 : Int) (h12 : Int) (h13 : Int) (h14 : Int) (h15 : Int) (h16 : Int) (w : World) (R : Ending → World → Prop) : X Try.prog Try.f41.ntmps (bodyOf Try.f41) S_ref9_Live_ann (argEnv 0 [.agg #[.slice h0p h0l h0c, .int .u64 h1, .int .u64 h2, .int .u64 h3, .int .u64 h4, .int .u64 h5, .int .u64 h6, .int .u64 h7, .int .u64 h8, .int .u64 h9, .int .u64 h10, .int .u64 h11, .int .u64 h12, .int .u64 h13, .int .u64 h14, .int .u64 h15, .int .u64 h16]]) w (fun e w' => resK Try.prog Try.f41.results.toList e w' [] fun vs => R (.returned (pack vs)) w') (fun e w' => resK Try.prog Try.f41.results.toList e w' [] fun vs => R (.returned (pack vs)) w') (fun _ _ _ => False) = S_ref9_Live h0p h0l h0c h1 h2 h3 h4 h5 h6 h7 h8 h9 h10 h11 h12 h13 h14 h15 h16 w R := by kernel_rfl
theorem S_ref9_Live_ok (h0p : Option Addr) (h0l : Nat) (h0c : Nat) (h1 : Int) (h2 : Int) (h3 : Int) (h4 : Int) (h5 : Int) (h6 : Int) (h7 : Int) (h8 : Int) (h9 : Int) (h10 : Int) (h11 : Int) (h12 : Int) (h13 : Int) (h14 : Int) (h15 : Int) (h16 : Int) (w : World) (R : Ending → World → Prop) (h : S_ref9_Live h0p h0l h0c h1 h2 h3 h4 h5 h6 h7 h8 h9 h10 h11 h12 h13 h14 h15 h16 w R) : Calls Try.prog 41 #[.agg #[.slice h0p h0l h0c, .int .u64 h1, .int .u64 h2, .int .u64 h3, .int .u64 h4, .int .u64 h5, .int .u64 h6, .int .u64 h7, .int .u64 h8, .int .u64 h9, .int .u64 h10, .int .u64 h11, .int .u64 h12, .int .u64 h13, .int .u64 h14, .int .u64 h15, .int .u64 h16]] w R :=
  calls_of_X (an := S_ref9_Live_ann) wide_ok Try.func41 (by kernel_rfl) (by kernel_rfl) (by rw [S_ref9_Live_eq]; exact h)

def S_ref9_At_l0 (x0 : Int) (R : Ending → World → Prop) (b0 : Nat) (i0 : Int) (w1 : World) (I0 : Int → World → Prop) (M0 : Int → World → Nat) : Prop :=
  LdS w1 (⟨b0, 0, none⟩) fun _ s0l _ =>
  cond (decide (i0 < (Nat.cast s0l : Int)))
  (LdS w1 (⟨b0, 0, none⟩) fun s1p s1l _ =>
  IdxC s1p s1l i0 4 fun a0 =>
  LdI .u64 w1 a0 fun n0 =>
  cond (n0 == x0)
  (R (.returned (.int .i64 i0)) w1)
  (I0 (IntKind.wrap .i64 (i0 + 1)) w1 ∧ M0 (IntKind.wrap .i64 (i0 + 1)) w1 < M0 i0 w1))
  (R (.returned (.int .i64 (-1))) w1)
def S_ref9_At (h0p : Option Addr) (h0l : Nat) (h0c : Nat) (h1 : Int) (h2 : Int) (h3 : Int) (h4 : Int) (h5 : Int) (h6 : Int) (h7 : Int) (h8 : Int) (h9 : Int) (h10 : Int) (h11 : Int) (h12 : Int) (h13 : Int) (h14 : Int) (h15 : Int) (h16 : Int) (x0 : Int) (w : World) (R : Ending → World → Prop) : Prop :=
  NewC (.cells #[.slice h0p h0l h0c, .int .u64 h1, .int .u64 h2, .int .u64 h3, .int .u64 h4, .int .u64 h5, .int .u64 h6, .int .u64 h7, .int .u64 h8, .int .u64 h9, .int .u64 h10, .int .u64 h11, .int .u64 h12, .int .u64 h13, .int .u64 h14, .int .u64 h15, .int .u64 h16] 44 (0, 0)) w fun b0 w0 =>
  ∃ (I0 : Int → World → Prop) (M0 : Int → World → Nat), I0 0 w0 ∧
  ∀ (i0 : Int) (w1 : World), I0 i0 w1 →
  S_ref9_At_l0 x0 R b0 i0 w1 I0 M0
def S_ref9_At_ann : Ann := (.seq .leaf (.seq (.seq .leaf (.block (.loop [1, 2] [(5, (.int .i64))] .leaf))) .leaf))
theorem S_ref9_At_eq (h0p : Option Addr) (h0l : Nat) (h0c : Nat) (h1 : Int) (h2 : Int) (h3 : Int) (h4 : Int) (h5 : Int) (h6 : Int) (h7 : Int) (h8 : Int) (h9 : Int) (h10 : Int) (h11 : Int) (h12 : Int) (h13 : Int) (h14 : Int) (h15 : Int) (h16 : Int) (x0 : Int) (w : World) (R : Ending → World → Prop) : X Try.prog Try.f43.ntmps (bodyOf Try.f43) S_ref9_At_ann (argEnv 0 [.agg #[.slice h0p h0l h0c, .int .u64 h1, .int .u64 h2, .int .u64 h3, .int .u64 h4, .int .u64 h5, .int .u64 h6, .int .u64 h7, .int .u64 h8, .int .u64 h9, .int .u64 h10, .int .u64 h11, .int .u64 h12, .int .u64 h13, .int .u64 h14, .int .u64 h15, .int .u64 h16], .int .u64 x0]) w (fun e w' => resK Try.prog Try.f43.results.toList e w' [] fun vs => R (.returned (pack vs)) w') (fun e w' => resK Try.prog Try.f43.results.toList e w' [] fun vs => R (.returned (pack vs)) w') (fun _ _ _ => False) = S_ref9_At h0p h0l h0c h1 h2 h3 h4 h5 h6 h7 h8 h9 h10 h11 h12 h13 h14 h15 h16 x0 w R := by kernel_rfl
theorem S_ref9_At_ok (h0p : Option Addr) (h0l : Nat) (h0c : Nat) (h1 : Int) (h2 : Int) (h3 : Int) (h4 : Int) (h5 : Int) (h6 : Int) (h7 : Int) (h8 : Int) (h9 : Int) (h10 : Int) (h11 : Int) (h12 : Int) (h13 : Int) (h14 : Int) (h15 : Int) (h16 : Int) (x0 : Int) (w : World) (R : Ending → World → Prop) (h : S_ref9_At h0p h0l h0c h1 h2 h3 h4 h5 h6 h7 h8 h9 h10 h11 h12 h13 h14 h15 h16 x0 w R) : Calls Try.prog 43 #[.agg #[.slice h0p h0l h0c, .int .u64 h1, .int .u64 h2, .int .u64 h3, .int .u64 h4, .int .u64 h5, .int .u64 h6, .int .u64 h7, .int .u64 h8, .int .u64 h9, .int .u64 h10, .int .u64 h11, .int .u64 h12, .int .u64 h13, .int .u64 h14, .int .u64 h15, .int .u64 h16], .int .u64 x0] w R :=
  calls_of_X (an := S_ref9_At_ann) wide_ok Try.func43 (by kernel_rfl) (by kernel_rfl) (by rw [S_ref9_At_eq]; exact h)

def S_law11_order_l0 (h0 : Option Addr) (want0p : Option Addr) (want0l : Nat) (R : Ending → World → Prop) (at0 : Int) (i0 : Int) (w3 : World) (I0 : Int → Int → World → Prop) (M0 : Int → Int → World → Nat) : Prop :=
  cond (decide (i0 < (Nat.cast want0l : Int)))
  (∃ C0 : World → Prop, C0 (World.drew w3) ∧
  IdxC want0p want0l i0 1 fun a0 =>
  LdIQ .u64 C0 a0 fun n0 =>
  Calls Try.prog 16 #[.pointer h0] (World.drew w3) fun e2 w4 =>
  ∃ (r2 : Option Addr), e2 = .returned (.pointer r2) ∧
  C0 w4 ∧
  Calls Try.prog 17 #[.pointer r2, .int .u64 n0] w4 fun e3 w5 =>
  ∃ (r3 : Int), ∃ (r4 : Int), e3 = .returned (.tuple #[.int .i64 r3, .int .i64 r4]) ∧
  cond (r4 != 0)
  (R (.returned (.bool false)) w5)
  (cond (r3 != at0)
  (R (.returned (.bool false)) w5)
  (Calls Try.prog 24 #[.pointer h0] w5 fun e4 w6 =>
  ∃ (r5 : Option Addr), e4 = .returned (.pointer r5) ∧
  Calls Try.prog 79 #[.pointer r5, .int .i64 at0] w6 fun e5 w7 =>
  ∃ (r6 : Int), ∃ (r7 : Int), e5 = .returned (.tuple #[.int .i64 r6, .int .i64 r7]) ∧
  cond (r7 != 0)
  (R (.returned (.bool false)) w7)
  (I0 r6 (IntKind.wrap .i64 (i0 + 1)) w7 ∧ M0 r6 (IntKind.wrap .i64 (i0 + 1)) w7 < M0 at0 i0 w3))))
  (Calls Try.prog 24 #[.pointer h0] w3 fun e6 w8 =>
  ∃ (r8 : Option Addr), e6 = .returned (.pointer r8) ∧
  Calls Try.prog 25 #[.pointer r8] w8 fun e7 w9 =>
  ∃ (r9 : Int), e7 = .returned (.int .i64 r9) ∧
  cond (at0 == r9)
  (Calls Try.prog 16 #[.pointer h0] w9 fun e8 w10 =>
  ∃ (r10 : Option Addr), e8 = .returned (.pointer r10) ∧
  Calls Try.prog 64 #[.pointer r10] w10 fun e9 w11 =>
  ∃ (r11 : Int), e9 = .returned (.int .i64 r11) ∧
  R (.returned (.bool (r11 == (Nat.cast want0l : Int)))) w11)
  (R (.returned (.bool false)) w9))
def S_law11_order_j0 (h0 : Option Addr) (want0p : Option Addr) (want0l : Nat) (R : Ending → World → Prop) (r1 : Int) (w2 : World) : Prop :=
  ∃ (I0 : Int → Int → World → Prop) (M0 : Int → Int → World → Nat), I0 r1 0 w2 ∧
  ∀ (at0 : Int) (i0 : Int) (w3 : World), I0 at0 i0 w3 →
  S_law11_order_l0 h0 want0p want0l R at0 i0 w3 I0 M0
def S_law11_order (h0 : Option Addr) (want0p : Option Addr) (want0l : Nat) (want0c : Nat) (w : World) (R : Ending → World → Prop) : Prop :=
  Calls Try.prog 24 #[.pointer h0] w fun e0 w0 =>
  ∃ (r0 : Option Addr), e0 = .returned (.pointer r0) ∧
  Calls Try.prog 76 #[.pointer r0] w0 fun e1 w1 =>
  ∃ (r1 : Int), e1 = .returned (.int .i64 r1) ∧
  ∀ k0 : World → Prop,
  (∀ (w2 : World), S_law11_order_j0 h0 want0p want0l R r1 w2 → k0 w2) →
  cond (decide ((Nat.cast want0l : Int) > 0))
  (cond (r1 != 0)
  (R (.returned (.bool false)) w1)
  (k0 w1))
  (k0 w1)
def S_law11_order_ann : Ann := (.seq .leaf (.seq .leaf (.join [0, 1, 5] [] .leaf (.seq (.seq .leaf (.block (.loop [0, 1] [(5, (.int .i64)), (6, (.int .i64))] (.seq .leaf (.seq (.block (.seq .anyt .leaf)) .leaf))))) .leaf))))
theorem S_law11_order_eq (h0 : Option Addr) (want0p : Option Addr) (want0l : Nat) (want0c : Nat) (w : World) (R : Ending → World → Prop) : X Try.prog Try.f44.ntmps (bodyOf Try.f44) S_law11_order_ann (argEnv 0 [.pointer h0, .slice want0p want0l want0c]) w (fun e w' => resK Try.prog Try.f44.results.toList e w' [] fun vs => R (.returned (pack vs)) w') (fun e w' => resK Try.prog Try.f44.results.toList e w' [] fun vs => R (.returned (pack vs)) w') (fun _ _ _ => False) = S_law11_order h0 want0p want0l want0c w R := by kernel_rfl
theorem S_law11_order_ok (h0 : Option Addr) (want0p : Option Addr) (want0l : Nat) (want0c : Nat) (w : World) (R : Ending → World → Prop) (h : S_law11_order h0 want0p want0l want0c w R) : Calls Try.prog 44 #[.pointer h0, .slice want0p want0l want0c] w R :=
  calls_of_X (an := S_law11_order_ann) wide_ok Try.func44 (by kernel_rfl) (by kernel_rfl) (by rw [S_law11_order_eq]; exact h)

def S_ref9_Graph_l0 (r0p : Option Addr) (r0l : Nat) (r0c : Nat) (out0p : Option Addr) (out0l : Nat) (out0c : Nat) (i1 : Int) (w6 : World) (I1 : Option Addr → Nat → Nat → Int → World → Prop) (M1 : Option Addr → Nat → Nat → Int → World → Nat) (o0 : Addr) (b4 : Nat) (k1 : Int) (w29 : World) (I2 : Int → World → Prop) (M2 : Int → World → Nat) : Prop :=
  LdS w29 (Addr.add o0 2) fun _ s16l _ =>
  cond (decide (k1 < (Nat.cast s16l : Int)))
  (∃ C1 : World → Prop, C1 (World.drew w29) ∧
  LdSQ C1 (Addr.add (⟨b4, 0, none⟩) 1) fun s17p s17l s17c =>
  LdSQ C1 (Addr.add o0 2) fun s18p s18l _ =>
  IdxC s18p s18l k1 1 fun a3 =>
  LdIQ .u64 C1 a3 fun n59 =>
  Calls Try.prog 60 #[.slice r0p r0l r0c, .int .u64 n59] (World.drew w29) fun e4 w30 =>
  ∃ (r4 : Int), e4 = .returned (.int .i64 r4) ∧
  C1 w30 ∧
  NewC (.cells #[.int .i64 r4] 3 (0, 0)) w30 fun b5 w31 =>
  C1 w31 ∧
  RunS Try.prog (Builtin.append_ #[40, 40] 40 #[.slice s17p s17l s17c, .slice (some (⟨b5, 0, none⟩)) 1 1]) w31 fun s19p s19l s19c w32 =>
  StC w32 (Addr.add (⟨b4, 0, none⟩) 1) (.slice s19p s19l s19c) fun w33 =>
  I2 (IntKind.wrap .i64 (k1 + 1)) w33 ∧ M2 (IntKind.wrap .i64 (k1 + 1)) w33 < M2 k1 w29)
  (LdI .i64 w29 (⟨b4, 0, none⟩) fun n60 =>
  LdS w29 (Addr.add (⟨b4, 0, none⟩) 1) fun s20p s20l s20c =>
  LdS w29 (Addr.add (⟨b4, 0, none⟩) 2) fun s21p s21l s21c =>
  NewC (.cells #[.int .i64 n60, .slice s20p s20l s20c, .slice s21p s21l s21c] 101 (0, 0)) w29 fun b6 w34 =>
  RunS Try.prog (Builtin.append_ #[95, 95] 95 #[.slice out0p out0l out0c, .slice (some (⟨b6, 0, none⟩)) 1 1]) w34 fun s22p s22l s22c w35 =>
  I1 s22p s22l s22c (IntKind.wrap .i64 (i1 + 1)) w35 ∧ M1 s22p s22l s22c (IntKind.wrap .i64 (i1 + 1)) w35 < M1 out0p out0l out0c i1 w6)
def S_ref9_Graph_j0 (r0p : Option Addr) (r0l : Nat) (r0c : Nat) (out0p : Option Addr) (out0l : Nat) (out0c : Nat) (i1 : Int) (w6 : World) (I1 : Option Addr → Nat → Nat → Int → World → Prop) (M1 : Option Addr → Nat → Nat → Int → World → Nat) (o0 : Addr) (w22 : World) : Prop :=
  LdI .i64 w22 (Addr.add o0 1) fun n58 =>
  NewC (.cells #[.int .i64 0, .slice none 0 0, .slice none 0 0] 101 (0, 0)) w22 fun b4 w23 =>
  StC w23 (⟨b4, 0, none⟩) (.int .i64 n58) fun w24 =>
  StC w24 (Addr.add (⟨b4, 0, none⟩) 1) (.slice none 0 0) fun w25 =>
  StC w25 (Addr.add (⟨b4, 0, none⟩) 2) (.slice none 0 0) fun w26 =>
  LdS w26 (Addr.add (⟨b4, 0, none⟩) 2) fun s13p s13l s13c =>
  LdS w26 (Addr.add o0 3) fun s14p s14l s14c =>
  RunS Try.prog (Builtin.append_ #[45, 45] 45 #[.slice s13p s13l s13c, .slice s14p s14l s14c]) w26 fun s15p s15l s15c w27 =>
  StC w27 (Addr.add (⟨b4, 0, none⟩) 2) (.slice s15p s15l s15c) fun w28 =>
  ∃ (I2 : Int → World → Prop) (M2 : Int → World → Nat), I2 0 w28 ∧
  ∀ (k1 : Int) (w29 : World), I2 k1 w29 →
  S_ref9_Graph_l0 r0p r0l r0c out0p out0l out0c i1 w6 I1 M1 o0 b4 k1 w29 I2 M2
def S_ref9_Graph_l1 (R : Ending → World → Prop) (b0 : Nat) (r0p : Option Addr) (r0l : Nat) (r0c : Nat) (roots0p : Option Addr) (roots0l : Nat) (roots0c : Nat) (out0p : Option Addr) (out0l : Nat) (out0c : Nat) (i1 : Int) (w6 : World) (I1 : Option Addr → Nat → Nat → Int → World → Prop) (M1 : Option Addr → Nat → Nat → Int → World → Nat) : Prop :=
  cond (decide (i1 < (Nat.cast r0l : Int)))
  (∀ k0 : Addr → World → Prop,
  (∀ (o0 : Addr) (w22 : World), S_ref9_Graph_j0 r0p r0l r0c out0p out0l out0c i1 w6 I1 M1 o0 w22 → k0 o0 w22) →
  ∃ C0 : World → Prop, C0 (World.drew w6) ∧
  LdSQ C0 (⟨b0, 0, none⟩) fun s2p s2l _ =>
  ∃ (s3p : Option Addr), ∃ (s3l : Nat), ∃ (s3c : Nat), ∃ (n17 : Int), ∃ (n18 : Int), ∃ (n19 : Int), ∃ (n20 : Int), ∃ (n21 : Int), ∃ (n22 : Int), ∃ (n23 : Int), ∃ (n24 : Int), ∃ (n25 : Int), ∃ (n26 : Int), ∃ (n27 : Int), ∃ (n28 : Int), ∃ (n29 : Int), ∃ (n30 : Int), ∃ (n31 : Int), ∃ (n32 : Int), (∀ (w7 : World), C0 w7 →
  Ld_tidemarkref9_Heap w7 (⟨b0, 0, none⟩) fun s4p s4l s4c n33 n34 n35 n36 n37 n38 n39 n40 n41 n42 n43 n44 n45 n46 n47 n48 =>
  Value.agg #[.slice s4p s4l s4c, .int .u64 n33, .int .u64 n34, .int .u64 n35, .int .u64 n36, .int .u64 n37, .int .u64 n38, .int .u64 n39, .int .u64 n40, .int .u64 n41, .int .u64 n42, .int .u64 n43, .int .u64 n44, .int .u64 n45, .int .u64 n46, .int .u64 n47, .int .u64 n48] = .agg #[.slice s3p s3l s3c, .int .u64 n17, .int .u64 n18, .int .u64 n19, .int .u64 n20, .int .u64 n21, .int .u64 n22, .int .u64 n23, .int .u64 n24, .int .u64 n25, .int .u64 n26, .int .u64 n27, .int .u64 n28, .int .u64 n29, .int .u64 n30, .int .u64 n31, .int .u64 n32]) ∧
  IdxC r0p r0l i1 1 fun a0 =>
  LdIQ .u64 C0 a0 fun n49 =>
  (Calls Try.prog 43 #[.agg #[.slice s3p s3l s3c, .int .u64 n17, .int .u64 n18, .int .u64 n19, .int .u64 n20, .int .u64 n21, .int .u64 n22, .int .u64 n23, .int .u64 n24, .int .u64 n25, .int .u64 n26, .int .u64 n27, .int .u64 n28, .int .u64 n29, .int .u64 n30, .int .u64 n31, .int .u64 n32], .int .u64 n49] (World.drew w6) fun e2 w8 =>
  ∃ (r2 : Int), e2 = .returned (.int .i64 r2) ∧
  C0 w8 ∧
  IdxC s2p s2l r2 4 fun a1 =>
  ∃ (n50 : Int), ∃ (n51 : Int), ∃ (s5p : Option Addr), ∃ (s5l : Nat), ∃ (s5c : Nat), ∃ (s6p : Option Addr), ∃ (s6l : Nat), ∃ (s6c : Nat), (∀ (w9 : World), C0 w9 →
  LdI .u64 w9 a1 fun n52 =>
  LdI .i64 w9 (Addr.add a1 1) fun n53 =>
  LdS w9 (Addr.add a1 2) fun s7p s7l s7c =>
  LdS w9 (Addr.add a1 3) fun s8p s8l s8c =>
  Value.agg #[.int .u64 n52, .int .i64 n53, .slice s7p s7l s7c, .slice s8p s8l s8c] = .agg #[.int .u64 n50, .int .i64 n51, .slice s5p s5l s5c, .slice s6p s6l s6c]) ∧
  NewC (.cells #[.int .u64 0, .int .i64 0, .slice none 0 0, .slice none 0 0] 133 (0, 0)) w8 fun b2 w10 =>
  C0 w10 ∧
  StC w10 (⟨b2, 0, none⟩) (.int .u64 n50) fun w11 =>
  StC w11 (Addr.add (⟨b2, 0, none⟩) 1) (.int .i64 n51) fun w12 =>
  StC w12 (Addr.add (⟨b2, 0, none⟩) 2) (.slice s5p s5l s5c) fun w13 =>
  StC w13 (Addr.add (⟨b2, 0, none⟩) 3) (.slice s6p s6l s6c) fun w14 =>
  k0 (⟨b2, 0, none⟩) w14) ∧
  (NewC (.cells #[.int .u64 0, .int .i64 0, .slice none 0 0, .slice none 0 0] 133 (0, 0)) (World.drew w6) fun b3 w15 =>
  C0 w15 ∧
  Calls Try.prog 43 #[.agg #[.slice s3p s3l s3c, .int .u64 n17, .int .u64 n18, .int .u64 n19, .int .u64 n20, .int .u64 n21, .int .u64 n22, .int .u64 n23, .int .u64 n24, .int .u64 n25, .int .u64 n26, .int .u64 n27, .int .u64 n28, .int .u64 n29, .int .u64 n30, .int .u64 n31, .int .u64 n32], .int .u64 n49] w15 fun e3 w16 =>
  ∃ (r3 : Int), e3 = .returned (.int .i64 r3) ∧
  C0 w16 ∧
  IdxC s2p s2l r3 4 fun a2 =>
  ∃ (n54 : Int), ∃ (n55 : Int), ∃ (s9p : Option Addr), ∃ (s9l : Nat), ∃ (s9c : Nat), ∃ (s10p : Option Addr), ∃ (s10l : Nat), ∃ (s10c : Nat), (∀ (w17 : World), C0 w17 →
  LdI .u64 w17 a2 fun n56 =>
  LdI .i64 w17 (Addr.add a2 1) fun n57 =>
  LdS w17 (Addr.add a2 2) fun s11p s11l s11c =>
  LdS w17 (Addr.add a2 3) fun s12p s12l s12c =>
  Value.agg #[.int .u64 n56, .int .i64 n57, .slice s11p s11l s11c, .slice s12p s12l s12c] = .agg #[.int .u64 n54, .int .i64 n55, .slice s9p s9l s9c, .slice s10p s10l s10c]) ∧
  StC w16 (⟨b3, 0, none⟩) (.int .u64 n54) fun w18 =>
  StC w18 (Addr.add (⟨b3, 0, none⟩) 1) (.int .i64 n55) fun w19 =>
  StC w19 (Addr.add (⟨b3, 0, none⟩) 2) (.slice s9p s9l s9c) fun w20 =>
  StC w20 (Addr.add (⟨b3, 0, none⟩) 3) (.slice s10p s10l s10c) fun w21 =>
  k0 (⟨b3, 0, none⟩) w21))
  (R (.returned (.tuple #[.slice roots0p roots0l roots0c, .slice out0p out0l out0c])) w6)
def S_ref9_Graph_l2 (R : Ending → World → Prop) (b0 : Nat) (r0p : Option Addr) (r0l : Nat) (r0c : Nat) (roots0p : Option Addr) (roots0l : Nat) (roots0c : Nat) (i0 : Int) (w2 : World) (I0 : Option Addr → Nat → Nat → Int → World → Prop) (M0 : Option Addr → Nat → Nat → Int → World → Nat) : Prop :=
  cond (decide (i0 < 16))
  (IdxF 16 i0
  (LdI .u64 w2 (Addr.add (Addr.add (⟨b0, 0, none⟩) 1) (Int.toNat i0 * 1)) fun n16 =>
  Calls Try.prog 60 #[.slice r0p r0l r0c, .int .u64 n16] w2 fun e1 w3 =>
  ∃ (r1 : Int), e1 = .returned (.int .i64 r1) ∧
  NewC (.cells #[.int .i64 r1] 3 (0, 0)) w3 fun b1 w4 =>
  RunS Try.prog (Builtin.append_ #[40, 40] 40 #[.slice roots0p roots0l roots0c, .slice (some (⟨b1, 0, none⟩)) 1 1]) w4 fun s1p s1l s1c w5 =>
  I0 s1p s1l s1c (IntKind.wrap .i64 (i0 + 1)) w5 ∧ M0 s1p s1l s1c (IntKind.wrap .i64 (i0 + 1)) w5 < M0 roots0p roots0l roots0c i0 w2))
  (∃ (I1 : Option Addr → Nat → Nat → Int → World → Prop) (M1 : Option Addr → Nat → Nat → Int → World → Nat), I1 none 0 0 0 w2 ∧
  ∀ (out0p : Option Addr) (out0l : Nat) (out0c : Nat) (i1 : Int) (w6 : World), I1 out0p out0l out0c i1 w6 →
  S_ref9_Graph_l1 R b0 r0p r0l r0c roots0p roots0l roots0c out0p out0l out0c i1 w6 I1 M1)
def S_ref9_Graph (h0p : Option Addr) (h0l : Nat) (h0c : Nat) (h1 : Int) (h2 : Int) (h3 : Int) (h4 : Int) (h5 : Int) (h6 : Int) (h7 : Int) (h8 : Int) (h9 : Int) (h10 : Int) (h11 : Int) (h12 : Int) (h13 : Int) (h14 : Int) (h15 : Int) (h16 : Int) (w : World) (R : Ending → World → Prop) : Prop :=
  NewC (.cells #[.slice h0p h0l h0c, .int .u64 h1, .int .u64 h2, .int .u64 h3, .int .u64 h4, .int .u64 h5, .int .u64 h6, .int .u64 h7, .int .u64 h8, .int .u64 h9, .int .u64 h10, .int .u64 h11, .int .u64 h12, .int .u64 h13, .int .u64 h14, .int .u64 h15, .int .u64 h16] 44 (0, 0)) w fun b0 w0 =>
  Ld_tidemarkref9_Heap w0 (⟨b0, 0, none⟩) fun s0p s0l s0c n0 n1 n2 n3 n4 n5 n6 n7 n8 n9 n10 n11 n12 n13 n14 n15 =>
  Calls Try.prog 61 #[.agg #[.slice s0p s0l s0c, .int .u64 n0, .int .u64 n1, .int .u64 n2, .int .u64 n3, .int .u64 n4, .int .u64 n5, .int .u64 n6, .int .u64 n7, .int .u64 n8, .int .u64 n9, .int .u64 n10, .int .u64 n11, .int .u64 n12, .int .u64 n13, .int .u64 n14, .int .u64 n15]] w0 fun e0 w1 =>
  ∃ (r0p : Option Addr), ∃ (r0l : Nat), ∃ (r0c : Nat), e0 = .returned (.slice r0p r0l r0c) ∧
  ∃ (I0 : Option Addr → Nat → Nat → Int → World → Prop) (M0 : Option Addr → Nat → Nat → Int → World → Nat), I0 none 0 0 0 w1 ∧
  ∀ (roots0p : Option Addr) (roots0l : Nat) (roots0c : Nat) (i0 : Int) (w2 : World), I0 roots0p roots0l roots0c i0 w2 →
  S_ref9_Graph_l2 R b0 r0p r0l r0c roots0p roots0l roots0c i0 w2 I0 M0
def S_ref9_Graph_ann : Ann := (.seq .leaf (.seq .leaf (.seq .leaf (.seq (.seq .leaf (.block (.loop [1, 4] [(5, .slice), (6, (.int .i64))] .leaf))) (.seq .leaf (.seq (.seq .leaf (.block (.loop [1, 4, 5] [(7, .slice), (8, (.int .i64))] (.seq .leaf (.seq (.block (.join [1, 4, 5, 7, 8] [(9, .addr)] .anyt (.seq .leaf (.seq .leaf (.seq (.seq .leaf (.block (.loop [1, 4, 5, 7, 8, 9, 10] [(11, (.int .i64))] (.seq .leaf (.seq (.block .anyt) .leaf))))) .leaf))))) .leaf))))) .leaf))))))
theorem S_ref9_Graph_eq (h0p : Option Addr) (h0l : Nat) (h0c : Nat) (h1 : Int) (h2 : Int) (h3 : Int) (h4 : Int) (h5 : Int) (h6 : Int) (h7 : Int) (h8 : Int) (h9 : Int) (h10 : Int) (h11 : Int) (h12 : Int) (h13 : Int) (h14 : Int) (h15 : Int) (h16 : Int) (w : World) (R : Ending → World → Prop) : X Try.prog Try.f55.ntmps (bodyOf Try.f55) S_ref9_Graph_ann (argEnv 0 [.agg #[.slice h0p h0l h0c, .int .u64 h1, .int .u64 h2, .int .u64 h3, .int .u64 h4, .int .u64 h5, .int .u64 h6, .int .u64 h7, .int .u64 h8, .int .u64 h9, .int .u64 h10, .int .u64 h11, .int .u64 h12, .int .u64 h13, .int .u64 h14, .int .u64 h15, .int .u64 h16]]) w (fun e w' => resK Try.prog Try.f55.results.toList e w' [] fun vs => R (.returned (pack vs)) w') (fun e w' => resK Try.prog Try.f55.results.toList e w' [] fun vs => R (.returned (pack vs)) w') (fun _ _ _ => False) = S_ref9_Graph h0p h0l h0c h1 h2 h3 h4 h5 h6 h7 h8 h9 h10 h11 h12 h13 h14 h15 h16 w R := by kernel_rfl
theorem S_ref9_Graph_ok (h0p : Option Addr) (h0l : Nat) (h0c : Nat) (h1 : Int) (h2 : Int) (h3 : Int) (h4 : Int) (h5 : Int) (h6 : Int) (h7 : Int) (h8 : Int) (h9 : Int) (h10 : Int) (h11 : Int) (h12 : Int) (h13 : Int) (h14 : Int) (h15 : Int) (h16 : Int) (w : World) (R : Ending → World → Prop) (h : S_ref9_Graph h0p h0l h0c h1 h2 h3 h4 h5 h6 h7 h8 h9 h10 h11 h12 h13 h14 h15 h16 w R) : Calls Try.prog 55 #[.agg #[.slice h0p h0l h0c, .int .u64 h1, .int .u64 h2, .int .u64 h3, .int .u64 h4, .int .u64 h5, .int .u64 h6, .int .u64 h7, .int .u64 h8, .int .u64 h9, .int .u64 h10, .int .u64 h11, .int .u64 h12, .int .u64 h13, .int .u64 h14, .int .u64 h15, .int .u64 h16]] w R :=
  calls_of_X (an := S_ref9_Graph_ann) wide_ok Try.func55 (by kernel_rfl) (by kernel_rfl) (by rw [S_ref9_Graph_eq]; exact h)

def S_law9_node_l0 (R : Ending → World → Prop) (b3 : Nat) (b4 : Nat) (i1 : Int) (w3 : World) (I1 : Int → World → Prop) (M1 : Int → World → Nat) : Prop :=
  LdS w3 (Addr.add (⟨b3, 0, none⟩) 2) fun _ s7l _ =>
  cond (decide (i1 < (Nat.cast s7l : Int)))
  (LdS (World.drew w3) (Addr.add (⟨b3, 0, none⟩) 2) fun s8p s8l _ =>
  IdxC s8p s8l i1 1 fun a5 =>
  LdI .u64 (World.drew w3) a5 fun n4 =>
  LdS (World.drew w3) (Addr.add (⟨b4, 0, none⟩) 2) fun s9p s9l _ =>
  IdxC s9p s9l i1 1 fun a6 =>
  LdI .u64 (World.drew w3) a6 fun n5 =>
  cond (n4 != n5)
  (R (.returned (.bool false)) (World.drew w3))
  (I1 (IntKind.wrap .i64 (i1 + 1)) (World.drew w3) ∧ M1 (IntKind.wrap .i64 (i1 + 1)) (World.drew w3) < M1 i1 w3))
  (R (.returned (.bool true)) w3)
def S_law9_node_l1 (R : Ending → World → Prop) (b3 : Nat) (b4 : Nat) (i0 : Int) (w2 : World) (I0 : Int → World → Prop) (M0 : Int → World → Nat) : Prop :=
  LdS w2 (Addr.add (⟨b3, 0, none⟩) 1) fun _ s4l _ =>
  cond (decide (i0 < (Nat.cast s4l : Int)))
  (LdS (World.drew w2) (Addr.add (⟨b3, 0, none⟩) 1) fun s5p s5l _ =>
  IdxC s5p s5l i0 1 fun a3 =>
  LdI .i64 (World.drew w2) a3 fun n2 =>
  LdS (World.drew w2) (Addr.add (⟨b4, 0, none⟩) 1) fun s6p s6l _ =>
  IdxC s6p s6l i0 1 fun a4 =>
  LdI .i64 (World.drew w2) a4 fun n3 =>
  cond (n2 != n3)
  (R (.returned (.bool false)) (World.drew w2))
  (I0 (IntKind.wrap .i64 (i0 + 1)) (World.drew w2) ∧ M0 (IntKind.wrap .i64 (i0 + 1)) (World.drew w2) < M0 i0 w2))
  (∃ (I1 : Int → World → Prop) (M1 : Int → World → Nat), I1 0 w2 ∧
  ∀ (i1 : Int) (w3 : World), I1 i1 w3 →
  S_law9_node_l0 R b3 b4 i1 w3 I1 M1)
def S_law9_node (a0 : Int) (a1p : Option Addr) (a1l : Nat) (a1c : Nat) (a2p : Option Addr) (a2l : Nat) (a2c : Nat) (b0 : Int) (b1p : Option Addr) (b1l : Nat) (b1c : Nat) (b2p : Option Addr) (b2l : Nat) (b2c : Nat) (w : World) (R : Ending → World → Prop) : Prop :=
  NewC (.cells #[.int .i64 a0, .slice a1p a1l a1c, .slice a2p a2l a2c] 100 (0, 0)) w fun b3 w0 =>
  NewC (.cells #[.int .i64 b0, .slice b1p b1l b1c, .slice b2p b2l b2c] 101 (0, 0)) w0 fun b4 w1 =>
  LdI .i64 w1 (⟨b3, 0, none⟩) fun n0 =>
  LdI .i64 w1 (⟨b4, 0, none⟩) fun n1 =>
  cond (n0 != n1)
  (R (.returned (.bool false)) w1)
  (LdS w1 (Addr.add (⟨b3, 0, none⟩) 1) fun _ s0l _ =>
  LdS w1 (Addr.add (⟨b4, 0, none⟩) 1) fun _ s1l _ =>
  cond ((Nat.cast s0l : Int) != (Nat.cast s1l : Int))
  (R (.returned (.bool false)) w1)
  (LdS w1 (Addr.add (⟨b3, 0, none⟩) 2) fun _ s2l _ =>
  LdS w1 (Addr.add (⟨b4, 0, none⟩) 2) fun _ s3l _ =>
  cond ((Nat.cast s2l : Int) != (Nat.cast s3l : Int))
  (R (.returned (.bool false)) w1)
  (∃ (I0 : Int → World → Prop) (M0 : Int → World → Nat), I0 0 w1 ∧
  ∀ (i0 : Int) (w2 : World), I0 i0 w2 →
  S_law9_node_l1 R b3 b4 i0 w2 I0 M0)))
def S_law9_node_ann : Ann := (.seq .leaf (.seq .leaf (.seq (.seq .leaf (.block (.loop [2, 3] [(5, (.int .i64))] (.seq .leaf (.seq (.block (.seq (.draw 11) .leaf)) .leaf))))) (.seq (.seq .leaf (.block (.loop [2, 3] [(6, (.int .i64))] (.seq .leaf (.seq (.block (.seq (.draw 11) .leaf)) .leaf))))) .leaf))))
theorem S_law9_node_eq (a0 : Int) (a1p : Option Addr) (a1l : Nat) (a1c : Nat) (a2p : Option Addr) (a2l : Nat) (a2c : Nat) (b0 : Int) (b1p : Option Addr) (b1l : Nat) (b1c : Nat) (b2p : Option Addr) (b2l : Nat) (b2c : Nat) (w : World) (R : Ending → World → Prop) : X Try.prog Try.f56.ntmps (bodyOf Try.f56) S_law9_node_ann (argEnv 0 [.agg #[.int .i64 a0, .slice a1p a1l a1c, .slice a2p a2l a2c], .agg #[.int .i64 b0, .slice b1p b1l b1c, .slice b2p b2l b2c]]) w (fun e w' => resK Try.prog Try.f56.results.toList e w' [] fun vs => R (.returned (pack vs)) w') (fun e w' => resK Try.prog Try.f56.results.toList e w' [] fun vs => R (.returned (pack vs)) w') (fun _ _ _ => False) = S_law9_node a0 a1p a1l a1c a2p a2l a2c b0 b1p b1l b1c b2p b2l b2c w R := by kernel_rfl
theorem S_law9_node_ok (a0 : Int) (a1p : Option Addr) (a1l : Nat) (a1c : Nat) (a2p : Option Addr) (a2l : Nat) (a2c : Nat) (b0 : Int) (b1p : Option Addr) (b1l : Nat) (b1c : Nat) (b2p : Option Addr) (b2l : Nat) (b2c : Nat) (w : World) (R : Ending → World → Prop) (h : S_law9_node a0 a1p a1l a1c a2p a2l a2c b0 b1p b1l b1c b2p b2l b2c w R) : Calls Try.prog 56 #[.agg #[.int .i64 a0, .slice a1p a1l a1c, .slice a2p a2l a2c], .agg #[.int .i64 b0, .slice b1p b1l b1c, .slice b2p b2l b2c]] w R :=
  calls_of_X (an := S_law9_node_ann) wide_ok Try.func56 (by kernel_rfl) (by kernel_rfl) (by rw [S_law9_node_eq]; exact h)

def S_ref9_number_l0 (l0p : Option Addr) (l0l : Nat) (x0 : Int) (R : Ending → World → Prop) (i0 : Int) (w0 : World) (I0 : Int → World → Prop) (M0 : Int → World → Nat) : Prop :=
  cond (decide (i0 < (Nat.cast l0l : Int)))
  (IdxC l0p l0l i0 1 fun a0 =>
  LdI .u64 w0 a0 fun n0 =>
  cond (n0 == x0)
  (R (.returned (.int .i64 i0)) w0)
  (I0 (IntKind.wrap .i64 (i0 + 1)) w0 ∧ M0 (IntKind.wrap .i64 (i0 + 1)) w0 < M0 i0 w0))
  (R (.returned (.int .i64 (-1))) w0)
def S_ref9_number (l0p : Option Addr) (l0l : Nat) (l0c : Nat) (x0 : Int) (w : World) (R : Ending → World → Prop) : Prop :=
  ∃ (I0 : Int → World → Prop) (M0 : Int → World → Nat), I0 0 w ∧
  ∀ (i0 : Int) (w0 : World), I0 i0 w0 →
  S_ref9_number_l0 l0p l0l x0 R i0 w0 I0 M0
def S_ref9_number_ann : Ann := (.seq .leaf (.seq (.seq .leaf (.block (.loop [0, 1] [(5, (.int .i64))] .leaf))) .leaf))
theorem S_ref9_number_eq (l0p : Option Addr) (l0l : Nat) (l0c : Nat) (x0 : Int) (w : World) (R : Ending → World → Prop) : X Try.prog Try.f60.ntmps (bodyOf Try.f60) S_ref9_number_ann (argEnv 0 [.slice l0p l0l l0c, .int .u64 x0]) w (fun e w' => resK Try.prog Try.f60.results.toList e w' [] fun vs => R (.returned (pack vs)) w') (fun e w' => resK Try.prog Try.f60.results.toList e w' [] fun vs => R (.returned (pack vs)) w') (fun _ _ _ => False) = S_ref9_number l0p l0l l0c x0 w R := by kernel_rfl
theorem S_ref9_number_ok (l0p : Option Addr) (l0l : Nat) (l0c : Nat) (x0 : Int) (w : World) (R : Ending → World → Prop) (h : S_ref9_number l0p l0l l0c x0 w R) : Calls Try.prog 60 #[.slice l0p l0l l0c, .int .u64 x0] w R :=
  calls_of_X (an := S_ref9_number_ann) wide_ok Try.func60 (by kernel_rfl) (by kernel_rfl) (by rw [S_ref9_number_eq]; exact h)

def S_ref9_order_l0 (R : Ending → World → Prop) (b0 : Nat) (out0p : Option Addr) (out0l : Nat) (out0c : Nat) (i0 : Int) (w2 : World) (I0 : Option Addr → Nat → Nat → Int → World → Prop) (M0 : Option Addr → Nat → Nat → Int → World → Nat) : Prop :=
  cond (decide (i0 < (Nat.cast out0l : Int)))
  (∃ C0 : World → Prop, C0 (World.drew w2) ∧
  ∃ (s1p : Option Addr), ∃ (s1l : Nat), ∃ (s1c : Nat), ∃ (n16 : Int), ∃ (n17 : Int), ∃ (n18 : Int), ∃ (n19 : Int), ∃ (n20 : Int), ∃ (n21 : Int), ∃ (n22 : Int), ∃ (n23 : Int), ∃ (n24 : Int), ∃ (n25 : Int), ∃ (n26 : Int), ∃ (n27 : Int), ∃ (n28 : Int), ∃ (n29 : Int), ∃ (n30 : Int), ∃ (n31 : Int), (∀ (w3 : World), C0 w3 →
  Ld_tidemarkref9_Heap w3 (⟨b0, 0, none⟩) fun s2p s2l s2c n32 n33 n34 n35 n36 n37 n38 n39 n40 n41 n42 n43 n44 n45 n46 n47 =>
  Value.agg #[.slice s2p s2l s2c, .int .u64 n32, .int .u64 n33, .int .u64 n34, .int .u64 n35, .int .u64 n36, .int .u64 n37, .int .u64 n38, .int .u64 n39, .int .u64 n40, .int .u64 n41, .int .u64 n42, .int .u64 n43, .int .u64 n44, .int .u64 n45, .int .u64 n46, .int .u64 n47] = .agg #[.slice s1p s1l s1c, .int .u64 n16, .int .u64 n17, .int .u64 n18, .int .u64 n19, .int .u64 n20, .int .u64 n21, .int .u64 n22, .int .u64 n23, .int .u64 n24, .int .u64 n25, .int .u64 n26, .int .u64 n27, .int .u64 n28, .int .u64 n29, .int .u64 n30, .int .u64 n31]) ∧
  LdSQ C0 (⟨b0, 0, none⟩) fun s3p s3l _ =>
  ∃ (s4p : Option Addr), ∃ (s4l : Nat), ∃ (s4c : Nat), ∃ (n48 : Int), ∃ (n49 : Int), ∃ (n50 : Int), ∃ (n51 : Int), ∃ (n52 : Int), ∃ (n53 : Int), ∃ (n54 : Int), ∃ (n55 : Int), ∃ (n56 : Int), ∃ (n57 : Int), ∃ (n58 : Int), ∃ (n59 : Int), ∃ (n60 : Int), ∃ (n61 : Int), ∃ (n62 : Int), ∃ (n63 : Int), (∀ (w4 : World), C0 w4 →
  Ld_tidemarkref9_Heap w4 (⟨b0, 0, none⟩) fun s5p s5l s5c n64 n65 n66 n67 n68 n69 n70 n71 n72 n73 n74 n75 n76 n77 n78 n79 =>
  Value.agg #[.slice s5p s5l s5c, .int .u64 n64, .int .u64 n65, .int .u64 n66, .int .u64 n67, .int .u64 n68, .int .u64 n69, .int .u64 n70, .int .u64 n71, .int .u64 n72, .int .u64 n73, .int .u64 n74, .int .u64 n75, .int .u64 n76, .int .u64 n77, .int .u64 n78, .int .u64 n79] = .agg #[.slice s4p s4l s4c, .int .u64 n48, .int .u64 n49, .int .u64 n50, .int .u64 n51, .int .u64 n52, .int .u64 n53, .int .u64 n54, .int .u64 n55, .int .u64 n56, .int .u64 n57, .int .u64 n58, .int .u64 n59, .int .u64 n60, .int .u64 n61, .int .u64 n62, .int .u64 n63]) ∧
  IdxC out0p out0l i0 1 fun a0 =>
  LdIQ .u64 C0 a0 fun n80 =>
  Calls Try.prog 43 #[.agg #[.slice s4p s4l s4c, .int .u64 n48, .int .u64 n49, .int .u64 n50, .int .u64 n51, .int .u64 n52, .int .u64 n53, .int .u64 n54, .int .u64 n55, .int .u64 n56, .int .u64 n57, .int .u64 n58, .int .u64 n59, .int .u64 n60, .int .u64 n61, .int .u64 n62, .int .u64 n63], .int .u64 n80] (World.drew w2) fun e1 w5 =>
  ∃ (r1 : Int), e1 = .returned (.int .i64 r1) ∧
  C0 w5 ∧
  IdxC s3p s3l r1 4 fun a1 =>
  LdSQ C0 (Addr.add a1 2) fun s6p s6l s6c =>
  Calls Try.prog 95 #[.agg #[.slice s1p s1l s1c, .int .u64 n16, .int .u64 n17, .int .u64 n18, .int .u64 n19, .int .u64 n20, .int .u64 n21, .int .u64 n22, .int .u64 n23, .int .u64 n24, .int .u64 n25, .int .u64 n26, .int .u64 n27, .int .u64 n28, .int .u64 n29, .int .u64 n30, .int .u64 n31], .slice out0p out0l out0c, .slice s6p s6l s6c] w5 fun e2 w6 =>
  ∃ (r2p : Option Addr), ∃ (r2l : Nat), ∃ (r2c : Nat), e2 = .returned (.slice r2p r2l r2c) ∧
  I0 r2p r2l r2c (IntKind.wrap .i64 (i0 + 1)) w6 ∧ M0 r2p r2l r2c (IntKind.wrap .i64 (i0 + 1)) w6 < M0 out0p out0l out0c i0 w2)
  (R (.returned (.slice out0p out0l out0c)) w2)
def S_ref9_order (h0p : Option Addr) (h0l : Nat) (h0c : Nat) (h1 : Int) (h2 : Int) (h3 : Int) (h4 : Int) (h5 : Int) (h6 : Int) (h7 : Int) (h8 : Int) (h9 : Int) (h10 : Int) (h11 : Int) (h12 : Int) (h13 : Int) (h14 : Int) (h15 : Int) (h16 : Int) (w : World) (R : Ending → World → Prop) : Prop :=
  NewC (.cells #[.slice h0p h0l h0c, .int .u64 h1, .int .u64 h2, .int .u64 h3, .int .u64 h4, .int .u64 h5, .int .u64 h6, .int .u64 h7, .int .u64 h8, .int .u64 h9, .int .u64 h10, .int .u64 h11, .int .u64 h12, .int .u64 h13, .int .u64 h14, .int .u64 h15, .int .u64 h16] 44 (0, 0)) w fun b0 w0 =>
  Ld_tidemarkref9_Heap (World.drew w0) (⟨b0, 0, none⟩) fun s0p s0l s0c n0 n1 n2 n3 n4 n5 n6 n7 n8 n9 n10 n11 n12 n13 n14 n15 =>
  Calls Try.prog 95 #[.agg #[.slice s0p s0l s0c, .int .u64 n0, .int .u64 n1, .int .u64 n2, .int .u64 n3, .int .u64 n4, .int .u64 n5, .int .u64 n6, .int .u64 n7, .int .u64 n8, .int .u64 n9, .int .u64 n10, .int .u64 n11, .int .u64 n12, .int .u64 n13, .int .u64 n14, .int .u64 n15], .slice none 0 0, .slice (some (Addr.add (⟨b0, 0, none⟩) 1)) 16 16] (World.drew w0) fun e0 w1 =>
  ∃ (r0p : Option Addr), ∃ (r0l : Nat), ∃ (r0c : Nat), e0 = .returned (.slice r0p r0l r0c) ∧
  ∃ (I0 : Option Addr → Nat → Nat → Int → World → Prop) (M0 : Option Addr → Nat → Nat → Int → World → Nat), I0 r0p r0l r0c 0 w1 ∧
  ∀ (out0p : Option Addr) (out0l : Nat) (out0c : Nat) (i0 : Int) (w2 : World), I0 out0p out0l out0c i0 w2 →
  S_ref9_order_l0 R b0 out0p out0l out0c i0 w2 I0 M0
def S_ref9_order_ann : Ann := (.seq .leaf (.seq .leaf (.seq (.draw 4) (.seq (.seq .leaf (.block (.loop [1] [(3, .slice), (4, (.int .i64))] (.seq .leaf (.seq (.block .anyt) .leaf))))) .leaf))))
theorem S_ref9_order_eq (h0p : Option Addr) (h0l : Nat) (h0c : Nat) (h1 : Int) (h2 : Int) (h3 : Int) (h4 : Int) (h5 : Int) (h6 : Int) (h7 : Int) (h8 : Int) (h9 : Int) (h10 : Int) (h11 : Int) (h12 : Int) (h13 : Int) (h14 : Int) (h15 : Int) (h16 : Int) (w : World) (R : Ending → World → Prop) : X Try.prog Try.f61.ntmps (bodyOf Try.f61) S_ref9_order_ann (argEnv 0 [.agg #[.slice h0p h0l h0c, .int .u64 h1, .int .u64 h2, .int .u64 h3, .int .u64 h4, .int .u64 h5, .int .u64 h6, .int .u64 h7, .int .u64 h8, .int .u64 h9, .int .u64 h10, .int .u64 h11, .int .u64 h12, .int .u64 h13, .int .u64 h14, .int .u64 h15, .int .u64 h16]]) w (fun e w' => resK Try.prog Try.f61.results.toList e w' [] fun vs => R (.returned (pack vs)) w') (fun e w' => resK Try.prog Try.f61.results.toList e w' [] fun vs => R (.returned (pack vs)) w') (fun _ _ _ => False) = S_ref9_order h0p h0l h0c h1 h2 h3 h4 h5 h6 h7 h8 h9 h10 h11 h12 h13 h14 h15 h16 w R := by kernel_rfl
theorem S_ref9_order_ok (h0p : Option Addr) (h0l : Nat) (h0c : Nat) (h1 : Int) (h2 : Int) (h3 : Int) (h4 : Int) (h5 : Int) (h6 : Int) (h7 : Int) (h8 : Int) (h9 : Int) (h10 : Int) (h11 : Int) (h12 : Int) (h13 : Int) (h14 : Int) (h15 : Int) (h16 : Int) (w : World) (R : Ending → World → Prop) (h : S_ref9_order h0p h0l h0c h1 h2 h3 h4 h5 h6 h7 h8 h9 h10 h11 h12 h13 h14 h15 h16 w R) : Calls Try.prog 61 #[.agg #[.slice h0p h0l h0c, .int .u64 h1, .int .u64 h2, .int .u64 h3, .int .u64 h4, .int .u64 h5, .int .u64 h6, .int .u64 h7, .int .u64 h8, .int .u64 h9, .int .u64 h10, .int .u64 h11, .int .u64 h12, .int .u64 h13, .int .u64 h14, .int .u64 h15, .int .u64 h16]] w R :=
  calls_of_X (an := S_ref9_order_ann) wide_ok Try.func61 (by kernel_rfl) (by kernel_rfl) (by rw [S_ref9_order_eq]; exact h)

def S_law9_pick (l0p : Option Addr) (l0l : Nat) (l0c : Nat) (i0 : Int) (w : World) (R : Ending → World → Prop) : Prop :=
  cond (decide (i0 < 0))
  (R (.returned (.int .u64 0)) w)
  (cond ((Nat.cast l0l : Int) == 0)
  (R (.returned (.int .u64 0)) w)
  (DivC (Nat.cast l0l : Int)
  (IdxC l0p l0l (Int.tmod i0 (Nat.cast l0l : Int)) 1 fun a0 =>
  LdI .u64 w a0 fun n0 =>
  R (.returned (.int .u64 n0)) w)))
def S_law9_pick_ann : Ann := .leaf
theorem S_law9_pick_eq (l0p : Option Addr) (l0l : Nat) (l0c : Nat) (i0 : Int) (w : World) (R : Ending → World → Prop) : X Try.prog Try.f80.ntmps (bodyOf Try.f80) S_law9_pick_ann (argEnv 0 [.slice l0p l0l l0c, .int .i64 i0]) w (fun e w' => resK Try.prog Try.f80.results.toList e w' [] fun vs => R (.returned (pack vs)) w') (fun e w' => resK Try.prog Try.f80.results.toList e w' [] fun vs => R (.returned (pack vs)) w') (fun _ _ _ => False) = S_law9_pick l0p l0l l0c i0 w R := by kernel_rfl
theorem S_law9_pick_ok (l0p : Option Addr) (l0l : Nat) (l0c : Nat) (i0 : Int) (w : World) (R : Ending → World → Prop) (h : S_law9_pick l0p l0l l0c i0 w R) : Calls Try.prog 80 #[.slice l0p l0l l0c, .int .i64 i0] w R :=
  calls_of_X (an := S_law9_pick_ann) wide_ok Try.func80 (by kernel_rfl) (by kernel_rfl) (by rw [S_law9_pick_eq]; exact h)

set_option maxRecDepth 100000 in
def S_ref9_Make (h0p : Option Addr) (h0l : Nat) (h0c : Nat) (h1 : Int) (h2 : Int) (h3 : Int) (h4 : Int) (h5 : Int) (h6 : Int) (h7 : Int) (h8 : Int) (h9 : Int) (h10 : Int) (h11 : Int) (h12 : Int) (h13 : Int) (h14 : Int) (h15 : Int) (h16 : Int) (x0 : Int) (tag0 : Int) (refs0 : Int) (words0 : Int) (w : World) (R : Ending → World → Prop) : Prop :=
  NewC (.cells #[.slice h0p h0l h0c, .int .u64 h1, .int .u64 h2, .int .u64 h3, .int .u64 h4, .int .u64 h5, .int .u64 h6, .int .u64 h7, .int .u64 h8, .int .u64 h9, .int .u64 h10, .int .u64 h11, .int .u64 h12, .int .u64 h13, .int .u64 h14, .int .u64 h15, .int .u64 h16] 44 (0, 0)) w fun b0 w0 =>
  NewC (.cells #[.slice none 0 0, .int .u64 0, .int .u64 0, .int .u64 0, .int .u64 0, .int .u64 0, .int .u64 0, .int .u64 0, .int .u64 0, .int .u64 0, .int .u64 0, .int .u64 0, .int .u64 0, .int .u64 0, .int .u64 0, .int .u64 0, .int .u64 0] 44 (0, 0)) w0 fun b1 w1 =>
  ∃ C0 : World → Prop, C0 (World.drew w1) ∧
  LdSQ C0 (⟨b0, 0, none⟩) fun s0p s0l s0c =>
  (RunS Try.prog (Builtin.append_ #[41, 41] 41 #[.slice none 0 0, .slice s0p s0l s0c]) (World.drew w1) fun s1p s1l s1c w2 =>
  (RunS Try.prog (Instr.makeSlice 45 (.int .i64 refs0) (.int .i64 refs0)) w2 fun s2p s2l s2c w3 =>
  RunS Try.prog (Instr.makeSlice 45 (.int .i64 words0) (.int .i64 words0)) w3 fun s3p s3l s3c w4 =>
  NewC (.cells #[.int .u64 x0, .int .i64 tag0, .slice s2p s2l s2c, .slice s3p s3l s3c] 133 (0, 0)) w4 fun b2 w5 =>
  RunS Try.prog (Builtin.append_ #[41, 41] 41 #[.slice s1p s1l s1c, .slice (some (⟨b2, 0, none⟩)) 1 1]) w5 fun s4p s4l s4c w6 =>
  StC w6 (⟨b0, 0, none⟩) (.slice s4p s4l s4c) fun w7 =>
  Ld_tidemarkref9_Heap w7 (⟨b0, 0, none⟩) fun s5p s5l s5c n0 n1 n2 n3 n4 n5 n6 n7 n8 n9 n10 n11 n12 n13 n14 n15 =>
  St_tidemarkref9_Heap w7 (⟨b1, 0, none⟩) s5p s5l s5c n0 n1 n2 n3 n4 n5 n6 n7 n8 n9 n10 n11 n12 n13 n14 n15 fun w8 =>
  Ld_tidemarkref9_Heap w8 (⟨b1, 0, none⟩) fun s6p s6l s6c n16 n17 n18 n19 n20 n21 n22 n23 n24 n25 n26 n27 n28 n29 n30 n31 =>
  R (.returned (.agg #[.slice s6p s6l s6c, .int .u64 n16, .int .u64 n17, .int .u64 n18, .int .u64 n19, .int .u64 n20, .int .u64 n21, .int .u64 n22, .int .u64 n23, .int .u64 n24, .int .u64 n25, .int .u64 n26, .int .u64 n27, .int .u64 n28, .int .u64 n29, .int .u64 n30, .int .u64 n31])) w8) ∧
  (RunS Try.prog (Instr.makeSlice 45 (.int .i64 words0) (.int .i64 words0)) w2 fun s7p s7l s7c w9 =>
  RunS Try.prog (Instr.makeSlice 45 (.int .i64 refs0) (.int .i64 refs0)) w9 fun s8p s8l s8c w10 =>
  NewC (.cells #[.int .u64 x0, .int .i64 tag0, .slice s8p s8l s8c, .slice s7p s7l s7c] 133 (0, 0)) w10 fun b3 w11 =>
  RunS Try.prog (Builtin.append_ #[41, 41] 41 #[.slice s1p s1l s1c, .slice (some (⟨b3, 0, none⟩)) 1 1]) w11 fun s9p s9l s9c w12 =>
  StC w12 (⟨b0, 0, none⟩) (.slice s9p s9l s9c) fun w13 =>
  Ld_tidemarkref9_Heap w13 (⟨b0, 0, none⟩) fun s10p s10l s10c n32 n33 n34 n35 n36 n37 n38 n39 n40 n41 n42 n43 n44 n45 n46 n47 =>
  St_tidemarkref9_Heap w13 (⟨b1, 0, none⟩) s10p s10l s10c n32 n33 n34 n35 n36 n37 n38 n39 n40 n41 n42 n43 n44 n45 n46 n47 fun w14 =>
  Ld_tidemarkref9_Heap w14 (⟨b1, 0, none⟩) fun s11p s11l s11c n48 n49 n50 n51 n52 n53 n54 n55 n56 n57 n58 n59 n60 n61 n62 n63 =>
  R (.returned (.agg #[.slice s11p s11l s11c, .int .u64 n48, .int .u64 n49, .int .u64 n50, .int .u64 n51, .int .u64 n52, .int .u64 n53, .int .u64 n54, .int .u64 n55, .int .u64 n56, .int .u64 n57, .int .u64 n58, .int .u64 n59, .int .u64 n60, .int .u64 n61, .int .u64 n62, .int .u64 n63])) w14)) ∧
  ((RunS Try.prog (Instr.makeSlice 45 (.int .i64 refs0) (.int .i64 refs0)) (World.drew w1) fun s12p s12l s12c w15 =>
  C0 w15 ∧
  (RunS Try.prog (Builtin.append_ #[41, 41] 41 #[.slice none 0 0, .slice s0p s0l s0c]) w15 fun s13p s13l s13c w16 =>
  RunS Try.prog (Instr.makeSlice 45 (.int .i64 words0) (.int .i64 words0)) w16 fun s14p s14l s14c w17 =>
  NewC (.cells #[.int .u64 x0, .int .i64 tag0, .slice s12p s12l s12c, .slice s14p s14l s14c] 133 (0, 0)) w17 fun b4 w18 =>
  RunS Try.prog (Builtin.append_ #[41, 41] 41 #[.slice s13p s13l s13c, .slice (some (⟨b4, 0, none⟩)) 1 1]) w18 fun s15p s15l s15c w19 =>
  StC w19 (⟨b0, 0, none⟩) (.slice s15p s15l s15c) fun w20 =>
  Ld_tidemarkref9_Heap w20 (⟨b0, 0, none⟩) fun s16p s16l s16c n64 n65 n66 n67 n68 n69 n70 n71 n72 n73 n74 n75 n76 n77 n78 n79 =>
  St_tidemarkref9_Heap w20 (⟨b1, 0, none⟩) s16p s16l s16c n64 n65 n66 n67 n68 n69 n70 n71 n72 n73 n74 n75 n76 n77 n78 n79 fun w21 =>
  Ld_tidemarkref9_Heap w21 (⟨b1, 0, none⟩) fun s17p s17l s17c n80 n81 n82 n83 n84 n85 n86 n87 n88 n89 n90 n91 n92 n93 n94 n95 =>
  R (.returned (.agg #[.slice s17p s17l s17c, .int .u64 n80, .int .u64 n81, .int .u64 n82, .int .u64 n83, .int .u64 n84, .int .u64 n85, .int .u64 n86, .int .u64 n87, .int .u64 n88, .int .u64 n89, .int .u64 n90, .int .u64 n91, .int .u64 n92, .int .u64 n93, .int .u64 n94, .int .u64 n95])) w21) ∧
  (RunS Try.prog (Instr.makeSlice 45 (.int .i64 words0) (.int .i64 words0)) w15 fun s18p s18l s18c w22 =>
  C0 w22 ∧
  (RunS Try.prog (Builtin.append_ #[41, 41] 41 #[.slice none 0 0, .slice s0p s0l s0c]) w22 fun s19p s19l s19c w23 =>
  NewC (.cells #[.int .u64 x0, .int .i64 tag0, .slice s12p s12l s12c, .slice s18p s18l s18c] 133 (0, 0)) w23 fun b5 w24 =>
  RunS Try.prog (Builtin.append_ #[41, 41] 41 #[.slice s19p s19l s19c, .slice (some (⟨b5, 0, none⟩)) 1 1]) w24 fun s20p s20l s20c w25 =>
  StC w25 (⟨b0, 0, none⟩) (.slice s20p s20l s20c) fun w26 =>
  Ld_tidemarkref9_Heap w26 (⟨b0, 0, none⟩) fun s21p s21l s21c n96 n97 n98 n99 n100 n101 n102 n103 n104 n105 n106 n107 n108 n109 n110 n111 =>
  St_tidemarkref9_Heap w26 (⟨b1, 0, none⟩) s21p s21l s21c n96 n97 n98 n99 n100 n101 n102 n103 n104 n105 n106 n107 n108 n109 n110 n111 fun w27 =>
  Ld_tidemarkref9_Heap w27 (⟨b1, 0, none⟩) fun s22p s22l s22c n112 n113 n114 n115 n116 n117 n118 n119 n120 n121 n122 n123 n124 n125 n126 n127 =>
  R (.returned (.agg #[.slice s22p s22l s22c, .int .u64 n112, .int .u64 n113, .int .u64 n114, .int .u64 n115, .int .u64 n116, .int .u64 n117, .int .u64 n118, .int .u64 n119, .int .u64 n120, .int .u64 n121, .int .u64 n122, .int .u64 n123, .int .u64 n124, .int .u64 n125, .int .u64 n126, .int .u64 n127])) w27) ∧
  (NewC (.cells #[.int .u64 x0, .int .i64 tag0, .slice s12p s12l s12c, .slice s18p s18l s18c] 133 (0, 0)) w22 fun b6 w28 =>
  C0 w28 ∧
  RunS Try.prog (Builtin.append_ #[41, 41] 41 #[.slice none 0 0, .slice s0p s0l s0c]) w28 fun s23p s23l s23c w29 =>
  RunS Try.prog (Builtin.append_ #[41, 41] 41 #[.slice s23p s23l s23c, .slice (some (⟨b6, 0, none⟩)) 1 1]) w29 fun s24p s24l s24c w30 =>
  StC w30 (⟨b0, 0, none⟩) (.slice s24p s24l s24c) fun w31 =>
  Ld_tidemarkref9_Heap w31 (⟨b0, 0, none⟩) fun s25p s25l s25c n128 n129 n130 n131 n132 n133 n134 n135 n136 n137 n138 n139 n140 n141 n142 n143 =>
  St_tidemarkref9_Heap w31 (⟨b1, 0, none⟩) s25p s25l s25c n128 n129 n130 n131 n132 n133 n134 n135 n136 n137 n138 n139 n140 n141 n142 n143 fun w32 =>
  Ld_tidemarkref9_Heap w32 (⟨b1, 0, none⟩) fun s26p s26l s26c n144 n145 n146 n147 n148 n149 n150 n151 n152 n153 n154 n155 n156 n157 n158 n159 =>
  R (.returned (.agg #[.slice s26p s26l s26c, .int .u64 n144, .int .u64 n145, .int .u64 n146, .int .u64 n147, .int .u64 n148, .int .u64 n149, .int .u64 n150, .int .u64 n151, .int .u64 n152, .int .u64 n153, .int .u64 n154, .int .u64 n155, .int .u64 n156, .int .u64 n157, .int .u64 n158, .int .u64 n159])) w32))) ∧
  (RunS Try.prog (Instr.makeSlice 45 (.int .i64 words0) (.int .i64 words0)) (World.drew w1) fun s27p s27l s27c w33 =>
  C0 w33 ∧
  (RunS Try.prog (Builtin.append_ #[41, 41] 41 #[.slice none 0 0, .slice s0p s0l s0c]) w33 fun s28p s28l s28c w34 =>
  RunS Try.prog (Instr.makeSlice 45 (.int .i64 refs0) (.int .i64 refs0)) w34 fun s29p s29l s29c w35 =>
  NewC (.cells #[.int .u64 x0, .int .i64 tag0, .slice s29p s29l s29c, .slice s27p s27l s27c] 133 (0, 0)) w35 fun b7 w36 =>
  RunS Try.prog (Builtin.append_ #[41, 41] 41 #[.slice s28p s28l s28c, .slice (some (⟨b7, 0, none⟩)) 1 1]) w36 fun s30p s30l s30c w37 =>
  StC w37 (⟨b0, 0, none⟩) (.slice s30p s30l s30c) fun w38 =>
  Ld_tidemarkref9_Heap w38 (⟨b0, 0, none⟩) fun s31p s31l s31c n160 n161 n162 n163 n164 n165 n166 n167 n168 n169 n170 n171 n172 n173 n174 n175 =>
  St_tidemarkref9_Heap w38 (⟨b1, 0, none⟩) s31p s31l s31c n160 n161 n162 n163 n164 n165 n166 n167 n168 n169 n170 n171 n172 n173 n174 n175 fun w39 =>
  Ld_tidemarkref9_Heap w39 (⟨b1, 0, none⟩) fun s32p s32l s32c n176 n177 n178 n179 n180 n181 n182 n183 n184 n185 n186 n187 n188 n189 n190 n191 =>
  R (.returned (.agg #[.slice s32p s32l s32c, .int .u64 n176, .int .u64 n177, .int .u64 n178, .int .u64 n179, .int .u64 n180, .int .u64 n181, .int .u64 n182, .int .u64 n183, .int .u64 n184, .int .u64 n185, .int .u64 n186, .int .u64 n187, .int .u64 n188, .int .u64 n189, .int .u64 n190, .int .u64 n191])) w39) ∧
  (RunS Try.prog (Instr.makeSlice 45 (.int .i64 refs0) (.int .i64 refs0)) w33 fun s33p s33l s33c w40 =>
  C0 w40 ∧
  (RunS Try.prog (Builtin.append_ #[41, 41] 41 #[.slice none 0 0, .slice s0p s0l s0c]) w40 fun s34p s34l s34c w41 =>
  NewC (.cells #[.int .u64 x0, .int .i64 tag0, .slice s33p s33l s33c, .slice s27p s27l s27c] 133 (0, 0)) w41 fun b8 w42 =>
  RunS Try.prog (Builtin.append_ #[41, 41] 41 #[.slice s34p s34l s34c, .slice (some (⟨b8, 0, none⟩)) 1 1]) w42 fun s35p s35l s35c w43 =>
  StC w43 (⟨b0, 0, none⟩) (.slice s35p s35l s35c) fun w44 =>
  Ld_tidemarkref9_Heap w44 (⟨b0, 0, none⟩) fun s36p s36l s36c n192 n193 n194 n195 n196 n197 n198 n199 n200 n201 n202 n203 n204 n205 n206 n207 =>
  St_tidemarkref9_Heap w44 (⟨b1, 0, none⟩) s36p s36l s36c n192 n193 n194 n195 n196 n197 n198 n199 n200 n201 n202 n203 n204 n205 n206 n207 fun w45 =>
  Ld_tidemarkref9_Heap w45 (⟨b1, 0, none⟩) fun s37p s37l s37c n208 n209 n210 n211 n212 n213 n214 n215 n216 n217 n218 n219 n220 n221 n222 n223 =>
  R (.returned (.agg #[.slice s37p s37l s37c, .int .u64 n208, .int .u64 n209, .int .u64 n210, .int .u64 n211, .int .u64 n212, .int .u64 n213, .int .u64 n214, .int .u64 n215, .int .u64 n216, .int .u64 n217, .int .u64 n218, .int .u64 n219, .int .u64 n220, .int .u64 n221, .int .u64 n222, .int .u64 n223])) w45) ∧
  (NewC (.cells #[.int .u64 x0, .int .i64 tag0, .slice s33p s33l s33c, .slice s27p s27l s27c] 133 (0, 0)) w40 fun b9 w46 =>
  C0 w46 ∧
  RunS Try.prog (Builtin.append_ #[41, 41] 41 #[.slice none 0 0, .slice s0p s0l s0c]) w46 fun s38p s38l s38c w47 =>
  RunS Try.prog (Builtin.append_ #[41, 41] 41 #[.slice s38p s38l s38c, .slice (some (⟨b9, 0, none⟩)) 1 1]) w47 fun s39p s39l s39c w48 =>
  StC w48 (⟨b0, 0, none⟩) (.slice s39p s39l s39c) fun w49 =>
  Ld_tidemarkref9_Heap w49 (⟨b0, 0, none⟩) fun s40p s40l s40c n224 n225 n226 n227 n228 n229 n230 n231 n232 n233 n234 n235 n236 n237 n238 n239 =>
  St_tidemarkref9_Heap w49 (⟨b1, 0, none⟩) s40p s40l s40c n224 n225 n226 n227 n228 n229 n230 n231 n232 n233 n234 n235 n236 n237 n238 n239 fun w50 =>
  Ld_tidemarkref9_Heap w50 (⟨b1, 0, none⟩) fun s41p s41l s41c n240 n241 n242 n243 n244 n245 n246 n247 n248 n249 n250 n251 n252 n253 n254 n255 =>
  R (.returned (.agg #[.slice s41p s41l s41c, .int .u64 n240, .int .u64 n241, .int .u64 n242, .int .u64 n243, .int .u64 n244, .int .u64 n245, .int .u64 n246, .int .u64 n247, .int .u64 n248, .int .u64 n249, .int .u64 n250, .int .u64 n251, .int .u64 n252, .int .u64 n253, .int .u64 n254, .int .u64 n255])) w50))))
def S_ref9_Make_ann : Ann := (.seq .leaf (.seq .leaf (.seq .anyt .leaf)))
theorem S_ref9_Make_eq (h0p : Option Addr) (h0l : Nat) (h0c : Nat) (h1 : Int) (h2 : Int) (h3 : Int) (h4 : Int) (h5 : Int) (h6 : Int) (h7 : Int) (h8 : Int) (h9 : Int) (h10 : Int) (h11 : Int) (h12 : Int) (h13 : Int) (h14 : Int) (h15 : Int) (h16 : Int) (x0 : Int) (tag0 : Int) (refs0 : Int) (words0 : Int) (w : World) (R : Ending → World → Prop) : X Try.prog Try.f81.ntmps (bodyOf Try.f81) S_ref9_Make_ann (argEnv 0 [.agg #[.slice h0p h0l h0c, .int .u64 h1, .int .u64 h2, .int .u64 h3, .int .u64 h4, .int .u64 h5, .int .u64 h6, .int .u64 h7, .int .u64 h8, .int .u64 h9, .int .u64 h10, .int .u64 h11, .int .u64 h12, .int .u64 h13, .int .u64 h14, .int .u64 h15, .int .u64 h16], .int .u64 x0, .int .i64 tag0, .int .i64 refs0, .int .i64 words0]) w (fun e w' => resK Try.prog Try.f81.results.toList e w' [] fun vs => R (.returned (pack vs)) w') (fun e w' => resK Try.prog Try.f81.results.toList e w' [] fun vs => R (.returned (pack vs)) w') (fun _ _ _ => False) = S_ref9_Make h0p h0l h0c h1 h2 h3 h4 h5 h6 h7 h8 h9 h10 h11 h12 h13 h14 h15 h16 x0 tag0 refs0 words0 w R := by kernel_rfl
theorem S_ref9_Make_ok (h0p : Option Addr) (h0l : Nat) (h0c : Nat) (h1 : Int) (h2 : Int) (h3 : Int) (h4 : Int) (h5 : Int) (h6 : Int) (h7 : Int) (h8 : Int) (h9 : Int) (h10 : Int) (h11 : Int) (h12 : Int) (h13 : Int) (h14 : Int) (h15 : Int) (h16 : Int) (x0 : Int) (tag0 : Int) (refs0 : Int) (words0 : Int) (w : World) (R : Ending → World → Prop) (h : S_ref9_Make h0p h0l h0c h1 h2 h3 h4 h5 h6 h7 h8 h9 h10 h11 h12 h13 h14 h15 h16 x0 tag0 refs0 words0 w R) : Calls Try.prog 81 #[.agg #[.slice h0p h0l h0c, .int .u64 h1, .int .u64 h2, .int .u64 h3, .int .u64 h4, .int .u64 h5, .int .u64 h6, .int .u64 h7, .int .u64 h8, .int .u64 h9, .int .u64 h10, .int .u64 h11, .int .u64 h12, .int .u64 h13, .int .u64 h14, .int .u64 h15, .int .u64 h16], .int .u64 x0, .int .i64 tag0, .int .i64 refs0, .int .i64 words0] w R :=
  calls_of_X (an := S_ref9_Make_ann) wide_ok Try.func81 (by kernel_rfl) (by kernel_rfl) (by rw [S_ref9_Make_eq]; exact h)

def S_ref9_With (h0p : Option Addr) (h0l : Nat) (h0c : Nat) (h1 : Int) (h2 : Int) (h3 : Int) (h4 : Int) (h5 : Int) (h6 : Int) (h7 : Int) (h8 : Int) (h9 : Int) (h10 : Int) (h11 : Int) (h12 : Int) (h13 : Int) (h14 : Int) (h15 : Int) (h16 : Int) (i0 : Int) (o0 : Int) (o1 : Int) (o2p : Option Addr) (o2l : Nat) (o2c : Nat) (o3p : Option Addr) (o3l : Nat) (o3c : Nat) (w : World) (R : Ending → World → Prop) : Prop :=
  NewC (.cells #[.slice h0p h0l h0c, .int .u64 h1, .int .u64 h2, .int .u64 h3, .int .u64 h4, .int .u64 h5, .int .u64 h6, .int .u64 h7, .int .u64 h8, .int .u64 h9, .int .u64 h10, .int .u64 h11, .int .u64 h12, .int .u64 h13, .int .u64 h14, .int .u64 h15, .int .u64 h16] 44 (0, 0)) w fun b0 w0 =>
  NewC (.cells #[.int .u64 o0, .int .i64 o1, .slice o2p o2l o2c, .slice o3p o3l o3c] 133 (0, 0)) w0 fun b1 w1 =>
  NewC (.cells #[.slice none 0 0, .int .u64 0, .int .u64 0, .int .u64 0, .int .u64 0, .int .u64 0, .int .u64 0, .int .u64 0, .int .u64 0, .int .u64 0, .int .u64 0, .int .u64 0, .int .u64 0, .int .u64 0, .int .u64 0, .int .u64 0, .int .u64 0] 44 (0, 0)) w1 fun b2 w2 =>
  LdS w2 (⟨b0, 0, none⟩) fun s0p s0l s0c =>
  RunS Try.prog (Builtin.append_ #[41, 41] 41 #[.slice none 0 0, .slice s0p s0l s0c]) w2 fun s1p s1l s1c w3 =>
  StC w3 (⟨b0, 0, none⟩) (.slice s1p s1l s1c) fun w4 =>
  LdS w4 (⟨b0, 0, none⟩) fun s2p s2l _ =>
  LdI .u64 w4 (⟨b1, 0, none⟩) fun n0 =>
  LdI .i64 w4 (Addr.add (⟨b1, 0, none⟩) 1) fun n1 =>
  LdS w4 (Addr.add (⟨b1, 0, none⟩) 2) fun s3p s3l s3c =>
  LdS w4 (Addr.add (⟨b1, 0, none⟩) 3) fun s4p s4l s4c =>
  IdxC s2p s2l i0 4 fun a0 =>
  StC w4 a0 (.int .u64 n0) fun w5 =>
  StC w5 (Addr.add a0 1) (.int .i64 n1) fun w6 =>
  StC w6 (Addr.add a0 2) (.slice s3p s3l s3c) fun w7 =>
  StC w7 (Addr.add a0 3) (.slice s4p s4l s4c) fun w8 =>
  Ld_tidemarkref9_Heap w8 (⟨b0, 0, none⟩) fun s5p s5l s5c n2 n3 n4 n5 n6 n7 n8 n9 n10 n11 n12 n13 n14 n15 n16 n17 =>
  St_tidemarkref9_Heap w8 (⟨b2, 0, none⟩) s5p s5l s5c n2 n3 n4 n5 n6 n7 n8 n9 n10 n11 n12 n13 n14 n15 n16 n17 fun w9 =>
  Ld_tidemarkref9_Heap w9 (⟨b2, 0, none⟩) fun s6p s6l s6c n18 n19 n20 n21 n22 n23 n24 n25 n26 n27 n28 n29 n30 n31 n32 n33 =>
  R (.returned (.agg #[.slice s6p s6l s6c, .int .u64 n18, .int .u64 n19, .int .u64 n20, .int .u64 n21, .int .u64 n22, .int .u64 n23, .int .u64 n24, .int .u64 n25, .int .u64 n26, .int .u64 n27, .int .u64 n28, .int .u64 n29, .int .u64 n30, .int .u64 n31, .int .u64 n32, .int .u64 n33])) w9
def S_ref9_With_ann : Ann := .leaf
theorem S_ref9_With_eq (h0p : Option Addr) (h0l : Nat) (h0c : Nat) (h1 : Int) (h2 : Int) (h3 : Int) (h4 : Int) (h5 : Int) (h6 : Int) (h7 : Int) (h8 : Int) (h9 : Int) (h10 : Int) (h11 : Int) (h12 : Int) (h13 : Int) (h14 : Int) (h15 : Int) (h16 : Int) (i0 : Int) (o0 : Int) (o1 : Int) (o2p : Option Addr) (o2l : Nat) (o2c : Nat) (o3p : Option Addr) (o3l : Nat) (o3c : Nat) (w : World) (R : Ending → World → Prop) : X Try.prog Try.f82.ntmps (bodyOf Try.f82) S_ref9_With_ann (argEnv 0 [.agg #[.slice h0p h0l h0c, .int .u64 h1, .int .u64 h2, .int .u64 h3, .int .u64 h4, .int .u64 h5, .int .u64 h6, .int .u64 h7, .int .u64 h8, .int .u64 h9, .int .u64 h10, .int .u64 h11, .int .u64 h12, .int .u64 h13, .int .u64 h14, .int .u64 h15, .int .u64 h16], .int .i64 i0, .agg #[.int .u64 o0, .int .i64 o1, .slice o2p o2l o2c, .slice o3p o3l o3c]]) w (fun e w' => resK Try.prog Try.f82.results.toList e w' [] fun vs => R (.returned (pack vs)) w') (fun e w' => resK Try.prog Try.f82.results.toList e w' [] fun vs => R (.returned (pack vs)) w') (fun _ _ _ => False) = S_ref9_With h0p h0l h0c h1 h2 h3 h4 h5 h6 h7 h8 h9 h10 h11 h12 h13 h14 h15 h16 i0 o0 o1 o2p o2l o2c o3p o3l o3c w R := by kernel_rfl
theorem S_ref9_With_ok (h0p : Option Addr) (h0l : Nat) (h0c : Nat) (h1 : Int) (h2 : Int) (h3 : Int) (h4 : Int) (h5 : Int) (h6 : Int) (h7 : Int) (h8 : Int) (h9 : Int) (h10 : Int) (h11 : Int) (h12 : Int) (h13 : Int) (h14 : Int) (h15 : Int) (h16 : Int) (i0 : Int) (o0 : Int) (o1 : Int) (o2p : Option Addr) (o2l : Nat) (o2c : Nat) (o3p : Option Addr) (o3l : Nat) (o3c : Nat) (w : World) (R : Ending → World → Prop) (h : S_ref9_With h0p h0l h0c h1 h2 h3 h4 h5 h6 h7 h8 h9 h10 h11 h12 h13 h14 h15 h16 i0 o0 o1 o2p o2l o2c o3p o3l o3c w R) : Calls Try.prog 82 #[.agg #[.slice h0p h0l h0c, .int .u64 h1, .int .u64 h2, .int .u64 h3, .int .u64 h4, .int .u64 h5, .int .u64 h6, .int .u64 h7, .int .u64 h8, .int .u64 h9, .int .u64 h10, .int .u64 h11, .int .u64 h12, .int .u64 h13, .int .u64 h14, .int .u64 h15, .int .u64 h16], .int .i64 i0, .agg #[.int .u64 o0, .int .i64 o1, .slice o2p o2l o2c, .slice o3p o3l o3c]] w R :=
  calls_of_X (an := S_ref9_With_ann) wide_ok Try.func82 (by kernel_rfl) (by kernel_rfl) (by rw [S_ref9_With_eq]; exact h)

def S_law9_asks_j0 (i0 : Int) (R : Ending → World → Prop) (r6 : Int) (r7 : Int) (b1 : Nat) (w12 : World) : Prop :=
  cond (decide (i0 < 0))
  (cond (r7 == 1)
  (R (.returned (.bool (r6 == 0))) w12)
  (R (.returned (.bool false)) w12))
  (LdS w12 (Addr.add (⟨b1, 0, none⟩) 3) fun _ s9l _ =>
  cond (decide (i0 ≥ (Nat.cast s9l : Int)))
  (cond (r7 == 1)
  (R (.returned (.bool (r6 == 0))) w12)
  (R (.returned (.bool false)) w12))
  (cond (r7 == 0)
  (LdS w12 (Addr.add (⟨b1, 0, none⟩) 3) fun s10p s10l _ =>
  IdxC s10p s10l i0 1 fun a2 =>
  LdI .u64 w12 a2 fun n21 =>
  R (.returned (.bool (r6 == n21))) w12)
  (R (.returned (.bool false)) w12)))
def S_law9_asks_j1 (x0 : Int) (i0 : Int) (R : Ending → World → Prop) (b0 : Nat) (r0 : Int) (r1 : Int) (r2 : Int) (r3 : Int) (r4 : Int) (r5 : Int) (r6 : Int) (r7 : Int) (w5 : World) : Prop :=
  Ld_tidemarkref9_Heap w5 (⟨b0, 0, none⟩) fun s0p s0l s0c n1 n2 n3 n4 n5 n6 n7 n8 n9 n10 n11 n12 n13 n14 n15 n16 =>
  Calls Try.prog 43 #[.agg #[.slice s0p s0l s0c, .int .u64 n1, .int .u64 n2, .int .u64 n3, .int .u64 n4, .int .u64 n5, .int .u64 n6, .int .u64 n7, .int .u64 n8, .int .u64 n9, .int .u64 n10, .int .u64 n11, .int .u64 n12, .int .u64 n13, .int .u64 n14, .int .u64 n15, .int .u64 n16], .int .u64 x0] w5 fun e4 w6 =>
  ∃ (r10 : Int), e4 = .returned (.int .i64 r10) ∧
  cond (decide (r10 < 0))
  (cond (r3 == 6)
  (cond (r0 == 0)
  (cond (r1 == 0)
  (cond (r2 == 0)
  (cond (r5 == 6)
  (cond (r4 == 0)
  (cond (r7 == 6)
  (R (.returned (.bool (r6 == 0))) w6)
  (R (.returned (.bool false)) w6))
  (R (.returned (.bool false)) w6))
  (R (.returned (.bool false)) w6))
  (R (.returned (.bool false)) w6))
  (R (.returned (.bool false)) w6))
  (R (.returned (.bool false)) w6))
  (R (.returned (.bool false)) w6))
  (LdS w6 (⟨b0, 0, none⟩) fun s1p s1l _ =>
  IdxC s1p s1l r10 4 fun a0 =>
  LdI .u64 w6 a0 fun n17 =>
  LdI .i64 w6 (Addr.add a0 1) fun n18 =>
  LdS w6 (Addr.add a0 2) fun s2p s2l s2c =>
  LdS w6 (Addr.add a0 3) fun s3p s3l s3c =>
  NewC (.cells #[.int .u64 0, .int .i64 0, .slice none 0 0, .slice none 0 0] 133 (0, 0)) w6 fun b1 w7 =>
  StC w7 (⟨b1, 0, none⟩) (.int .u64 n17) fun w8 =>
  StC w8 (Addr.add (⟨b1, 0, none⟩) 1) (.int .i64 n18) fun w9 =>
  StC w9 (Addr.add (⟨b1, 0, none⟩) 2) (.slice s2p s2l s2c) fun w10 =>
  StC w10 (Addr.add (⟨b1, 0, none⟩) 3) (.slice s3p s3l s3c) fun w11 =>
  cond (r3 != 0)
  (R (.returned (.bool false)) w11)
  (LdI .i64 w11 (Addr.add (⟨b1, 0, none⟩) 1) fun n19 =>
  cond (r0 != n19)
  (R (.returned (.bool false)) w11)
  (LdS w11 (Addr.add (⟨b1, 0, none⟩) 2) fun _ s4l _ =>
  cond (r1 != (Nat.cast s4l : Int))
  (R (.returned (.bool false)) w11)
  (LdS w11 (Addr.add (⟨b1, 0, none⟩) 2) fun _ s5l _ =>
  LdS w11 (Addr.add (⟨b1, 0, none⟩) 3) fun _ s6l _ =>
  cond (r2 != (IntKind.wrap .i64 ((Nat.cast s5l : Int) + (Nat.cast s6l : Int))))
  (R (.returned (.bool false)) w11)
  (∀ k1 : World → Prop,
  (∀ (w12 : World), S_law9_asks_j0 i0 R r6 r7 b1 w12 → k1 w12) →
  cond (decide (i0 < 0))
  (cond (r5 != 1)
  (R (.returned (.bool false)) w11)
  (cond (r4 != 0)
  (R (.returned (.bool false)) w11)
  (k1 w11)))
  (LdS w11 (Addr.add (⟨b1, 0, none⟩) 2) fun _ s7l _ =>
  cond (decide (i0 ≥ (Nat.cast s7l : Int)))
  (cond (r5 != 1)
  (R (.returned (.bool false)) w11)
  (cond (r4 != 0)
  (R (.returned (.bool false)) w11)
  (k1 w11)))
  (cond (r5 != 0)
  (R (.returned (.bool false)) w11)
  (LdS w11 (Addr.add (⟨b1, 0, none⟩) 2) fun s8p s8l _ =>
  IdxC s8p s8l i0 1 fun a1 =>
  LdI .u64 w11 a1 fun n20 =>
  cond (r4 != n20)
  (R (.returned (.bool false)) w11)
  (k1 w11)))))))))
def S_law9_asks (h0 : Option Addr) (m0p : Option Addr) (m0l : Nat) (m0c : Nat) (m1 : Int) (m2 : Int) (m3 : Int) (m4 : Int) (m5 : Int) (m6 : Int) (m7 : Int) (m8 : Int) (m9 : Int) (m10 : Int) (m11 : Int) (m12 : Int) (m13 : Int) (m14 : Int) (m15 : Int) (m16 : Int) (x0 : Int) (i0 : Int) (w : World) (R : Ending → World → Prop) : Prop :=
  NewC (.cells #[.slice m0p m0l m0c, .int .u64 m1, .int .u64 m2, .int .u64 m3, .int .u64 m4, .int .u64 m5, .int .u64 m6, .int .u64 m7, .int .u64 m8, .int .u64 m9, .int .u64 m10, .int .u64 m11, .int .u64 m12, .int .u64 m13, .int .u64 m14, .int .u64 m15, .int .u64 m16] 44 (0, 0)) w fun b0 w0 =>
  Calls Try.prog 59 #[.pointer h0, .int .u64 x0] w0 fun e0 w1 =>
  ∃ (r0 : Int), ∃ (r1 : Int), ∃ (r2 : Int), ∃ (r3 : Int), e0 = .returned (.tuple #[.int .i64 r0, .int .i64 r1, .int .i64 r2, .int .i64 r3]) ∧
  Calls Try.prog 32 #[.pointer h0, .int .u64 x0, .int .i64 i0] w1 fun e1 w2 =>
  ∃ (r4 : Int), ∃ (r5 : Int), e1 = .returned (.tuple #[.int .u64 r4, .int .i64 r5]) ∧
  Calls Try.prog 33 #[.pointer h0, .int .u64 x0, .int .i64 i0] w2 fun e2 w3 =>
  ∃ (r6 : Int), ∃ (r7 : Int), e2 = .returned (.tuple #[.int .u64 r6, .int .i64 r7]) ∧
  Calls Try.prog 92 #[.pointer h0, .int .i64 i0] w3 fun e3 w4 =>
  ∃ (r8 : Int), ∃ (r9 : Int), e3 = .returned (.tuple #[.int .u64 r8, .int .i64 r9]) ∧
  ∀ k0 : World → Prop,
  (∀ (w5 : World), S_law9_asks_j1 x0 i0 R b0 r0 r1 r2 r3 r4 r5 r6 r7 w5 → k0 w5) →
  cond (decide (i0 < 0))
  (cond (r9 != 1)
  (R (.returned (.bool false)) w4)
  (cond (r8 != 0)
  (R (.returned (.bool false)) w4)
  (k0 w4)))
  (cond (decide (i0 > 15))
  (cond (r9 != 1)
  (R (.returned (.bool false)) w4)
  (cond (r8 != 0)
  (R (.returned (.bool false)) w4)
  (k0 w4)))
  (cond (r9 != 0)
  (R (.returned (.bool false)) w4)
  (IdxF 16 i0
  (LdI .u64 w4 (Addr.add (Addr.add (⟨b0, 0, none⟩) 1) (Int.toNat i0 * 1)) fun n0 =>
  cond (r8 != n0)
  (R (.returned (.bool false)) w4)
  (k0 w4)))))
def S_law9_asks_ann : Ann := (.seq .leaf (.seq .leaf (.seq .leaf (.seq .leaf (.seq .leaf (.join [2, 3, 5, 9, 10, 11, 12, 13, 14, 15, 16] [] .leaf (.seq .leaf (.seq .leaf (.seq .leaf (.seq .leaf (.join [3, 15, 16, 20] [] .leaf .leaf)))))))))))
theorem S_law9_asks_eq (h0 : Option Addr) (m0p : Option Addr) (m0l : Nat) (m0c : Nat) (m1 : Int) (m2 : Int) (m3 : Int) (m4 : Int) (m5 : Int) (m6 : Int) (m7 : Int) (m8 : Int) (m9 : Int) (m10 : Int) (m11 : Int) (m12 : Int) (m13 : Int) (m14 : Int) (m15 : Int) (m16 : Int) (x0 : Int) (i0 : Int) (w : World) (R : Ending → World → Prop) : X Try.prog Try.f83.ntmps (bodyOf Try.f83) S_law9_asks_ann (argEnv 0 [.pointer h0, .agg #[.slice m0p m0l m0c, .int .u64 m1, .int .u64 m2, .int .u64 m3, .int .u64 m4, .int .u64 m5, .int .u64 m6, .int .u64 m7, .int .u64 m8, .int .u64 m9, .int .u64 m10, .int .u64 m11, .int .u64 m12, .int .u64 m13, .int .u64 m14, .int .u64 m15, .int .u64 m16], .int .u64 x0, .int .i64 i0]) w (fun e w' => resK Try.prog Try.f83.results.toList e w' [] fun vs => R (.returned (pack vs)) w') (fun e w' => resK Try.prog Try.f83.results.toList e w' [] fun vs => R (.returned (pack vs)) w') (fun _ _ _ => False) = S_law9_asks h0 m0p m0l m0c m1 m2 m3 m4 m5 m6 m7 m8 m9 m10 m11 m12 m13 m14 m15 m16 x0 i0 w R := by kernel_rfl
theorem S_law9_asks_ok (h0 : Option Addr) (m0p : Option Addr) (m0l : Nat) (m0c : Nat) (m1 : Int) (m2 : Int) (m3 : Int) (m4 : Int) (m5 : Int) (m6 : Int) (m7 : Int) (m8 : Int) (m9 : Int) (m10 : Int) (m11 : Int) (m12 : Int) (m13 : Int) (m14 : Int) (m15 : Int) (m16 : Int) (x0 : Int) (i0 : Int) (w : World) (R : Ending → World → Prop) (h : S_law9_asks h0 m0p m0l m0c m1 m2 m3 m4 m5 m6 m7 m8 m9 m10 m11 m12 m13 m14 m15 m16 x0 i0 w R) : Calls Try.prog 83 #[.pointer h0, .agg #[.slice m0p m0l m0c, .int .u64 m1, .int .u64 m2, .int .u64 m3, .int .u64 m4, .int .u64 m5, .int .u64 m6, .int .u64 m7, .int .u64 m8, .int .u64 m9, .int .u64 m10, .int .u64 m11, .int .u64 m12, .int .u64 m13, .int .u64 m14, .int .u64 m15, .int .u64 m16], .int .u64 x0, .int .i64 i0] w R :=
  calls_of_X (an := S_law9_asks_ann) wide_ok Try.func83 (by kernel_rfl) (by kernel_rfl) (by rw [S_law9_asks_eq]; exact h)

def S_ref9_met_j0 (out1p : Option Addr) (out1l : Nat) (out1c : Nat) (i0 : Int) (w1 : World) (I0 : Option Addr → Nat → Nat → Int → World → Prop) (M0 : Option Addr → Nat → Nat → Int → World → Nat) (out2p : Option Addr) (out2l : Nat) (out2c : Nat) (w7 : World) : Prop :=
  I0 out2p out2l out2c (IntKind.wrap .i64 (i0 + 1)) w7 ∧ M0 out2p out2l out2c (IntKind.wrap .i64 (i0 + 1)) w7 < M0 out1p out1l out1c i0 w1
def S_ref9_met_l0 (refs0p : Option Addr) (refs0l : Nat) (R : Ending → World → Prop) (b0 : Nat) (out1p : Option Addr) (out1l : Nat) (out1c : Nat) (i0 : Int) (w1 : World) (I0 : Option Addr → Nat → Nat → Int → World → Prop) (M0 : Option Addr → Nat → Nat → Int → World → Nat) : Prop :=
  cond (decide (i0 < (Nat.cast refs0l : Int)))
  (∀ k0 : Option Addr → Nat → Nat → World → Prop,
  (∀ (out2p : Option Addr) (out2l : Nat) (out2c : Nat) (w7 : World), S_ref9_met_j0 out1p out1l out1c i0 w1 I0 M0 out2p out2l out2c w7 → k0 out2p out2l out2c w7) →
  ∃ C0 : World → Prop, C0 (World.drew w1) ∧
  IdxC refs0p refs0l i0 1 fun a0 =>
  LdIQ .u64 C0 a0 fun n0 =>
  cond (n0 != 0)
  (∃ (s0p : Option Addr), ∃ (s0l : Nat), ∃ (s0c : Nat), ∃ (n1 : Int), ∃ (n2 : Int), ∃ (n3 : Int), ∃ (n4 : Int), ∃ (n5 : Int), ∃ (n6 : Int), ∃ (n7 : Int), ∃ (n8 : Int), ∃ (n9 : Int), ∃ (n10 : Int), ∃ (n11 : Int), ∃ (n12 : Int), ∃ (n13 : Int), ∃ (n14 : Int), ∃ (n15 : Int), ∃ (n16 : Int), (∀ (w2 : World), C0 w2 →
  Ld_tidemarkref9_Heap w2 (⟨b0, 0, none⟩) fun s1p s1l s1c n17 n18 n19 n20 n21 n22 n23 n24 n25 n26 n27 n28 n29 n30 n31 n32 =>
  Value.agg #[.slice s1p s1l s1c, .int .u64 n17, .int .u64 n18, .int .u64 n19, .int .u64 n20, .int .u64 n21, .int .u64 n22, .int .u64 n23, .int .u64 n24, .int .u64 n25, .int .u64 n26, .int .u64 n27, .int .u64 n28, .int .u64 n29, .int .u64 n30, .int .u64 n31, .int .u64 n32] = .agg #[.slice s0p s0l s0c, .int .u64 n1, .int .u64 n2, .int .u64 n3, .int .u64 n4, .int .u64 n5, .int .u64 n6, .int .u64 n7, .int .u64 n8, .int .u64 n9, .int .u64 n10, .int .u64 n11, .int .u64 n12, .int .u64 n13, .int .u64 n14, .int .u64 n15, .int .u64 n16]) ∧
  IdxC refs0p refs0l i0 1 fun a1 =>
  LdIQ .u64 C0 a1 fun n33 =>
  Calls Try.prog 43 #[.agg #[.slice s0p s0l s0c, .int .u64 n1, .int .u64 n2, .int .u64 n3, .int .u64 n4, .int .u64 n5, .int .u64 n6, .int .u64 n7, .int .u64 n8, .int .u64 n9, .int .u64 n10, .int .u64 n11, .int .u64 n12, .int .u64 n13, .int .u64 n14, .int .u64 n15, .int .u64 n16], .int .u64 n33] (World.drew w1) fun e0 w3 =>
  ∃ (r0 : Int), e0 = .returned (.int .i64 r0) ∧
  C0 w3 ∧
  cond (decide (r0 ≥ 0))
  (IdxC refs0p refs0l i0 1 fun a2 =>
  LdIQ .u64 C0 a2 fun n34 =>
  Calls Try.prog 60 #[.slice out1p out1l out1c, .int .u64 n34] w3 fun e1 w4 =>
  ∃ (r1 : Int), e1 = .returned (.int .i64 r1) ∧
  cond (decide (r1 < 0))
  (IdxC refs0p refs0l i0 1 fun a3 =>
  LdI .u64 w4 a3 fun n35 =>
  NewC (.cells #[.int .u64 n35] 24 (0, 0)) w4 fun b1 w5 =>
  RunS Try.prog (Builtin.append_ #[45, 45] 45 #[.slice out1p out1l out1c, .slice (some (⟨b1, 0, none⟩)) 1 1]) w5 fun s2p s2l s2c w6 =>
  k0 s2p s2l s2c w6)
  (k0 out1p out1l out1c w4))
  (k0 out1p out1l out1c w3))
  (k0 out1p out1l out1c (World.drew w1)))
  (R (.returned (.slice out1p out1l out1c)) w1)
def S_ref9_met (h0p : Option Addr) (h0l : Nat) (h0c : Nat) (h1 : Int) (h2 : Int) (h3 : Int) (h4 : Int) (h5 : Int) (h6 : Int) (h7 : Int) (h8 : Int) (h9 : Int) (h10 : Int) (h11 : Int) (h12 : Int) (h13 : Int) (h14 : Int) (h15 : Int) (h16 : Int) (out0p : Option Addr) (out0l : Nat) (out0c : Nat) (refs0p : Option Addr) (refs0l : Nat) (refs0c : Nat) (w : World) (R : Ending → World → Prop) : Prop :=
  NewC (.cells #[.slice h0p h0l h0c, .int .u64 h1, .int .u64 h2, .int .u64 h3, .int .u64 h4, .int .u64 h5, .int .u64 h6, .int .u64 h7, .int .u64 h8, .int .u64 h9, .int .u64 h10, .int .u64 h11, .int .u64 h12, .int .u64 h13, .int .u64 h14, .int .u64 h15, .int .u64 h16] 44 (0, 0)) w fun b0 w0 =>
  ∃ (I0 : Option Addr → Nat → Nat → Int → World → Prop) (M0 : Option Addr → Nat → Nat → Int → World → Nat), I0 out0p out0l out0c 0 w0 ∧
  ∀ (out1p : Option Addr) (out1l : Nat) (out1c : Nat) (i0 : Int) (w1 : World), I0 out1p out1l out1c i0 w1 →
  S_ref9_met_l0 refs0p refs0l R b0 out1p out1l out1c i0 w1 I0 M0
def S_ref9_met_ann : Ann := (.seq .leaf (.seq (.seq .leaf (.block (.loop [2, 3] [(1, .slice), (7, (.int .i64))] (.seq .leaf (.seq (.jblock [2, 3, 7] [(1, .slice)] (.seq .anyt .leaf) .leaf) .leaf))))) .leaf))
theorem S_ref9_met_eq (h0p : Option Addr) (h0l : Nat) (h0c : Nat) (h1 : Int) (h2 : Int) (h3 : Int) (h4 : Int) (h5 : Int) (h6 : Int) (h7 : Int) (h8 : Int) (h9 : Int) (h10 : Int) (h11 : Int) (h12 : Int) (h13 : Int) (h14 : Int) (h15 : Int) (h16 : Int) (out0p : Option Addr) (out0l : Nat) (out0c : Nat) (refs0p : Option Addr) (refs0l : Nat) (refs0c : Nat) (w : World) (R : Ending → World → Prop) : X Try.prog Try.f95.ntmps (bodyOf Try.f95) S_ref9_met_ann (argEnv 0 [.agg #[.slice h0p h0l h0c, .int .u64 h1, .int .u64 h2, .int .u64 h3, .int .u64 h4, .int .u64 h5, .int .u64 h6, .int .u64 h7, .int .u64 h8, .int .u64 h9, .int .u64 h10, .int .u64 h11, .int .u64 h12, .int .u64 h13, .int .u64 h14, .int .u64 h15, .int .u64 h16], .slice out0p out0l out0c, .slice refs0p refs0l refs0c]) w (fun e w' => resK Try.prog Try.f95.results.toList e w' [] fun vs => R (.returned (pack vs)) w') (fun e w' => resK Try.prog Try.f95.results.toList e w' [] fun vs => R (.returned (pack vs)) w') (fun _ _ _ => False) = S_ref9_met h0p h0l h0c h1 h2 h3 h4 h5 h6 h7 h8 h9 h10 h11 h12 h13 h14 h15 h16 out0p out0l out0c refs0p refs0l refs0c w R := by kernel_rfl
theorem S_ref9_met_ok (h0p : Option Addr) (h0l : Nat) (h0c : Nat) (h1 : Int) (h2 : Int) (h3 : Int) (h4 : Int) (h5 : Int) (h6 : Int) (h7 : Int) (h8 : Int) (h9 : Int) (h10 : Int) (h11 : Int) (h12 : Int) (h13 : Int) (h14 : Int) (h15 : Int) (h16 : Int) (out0p : Option Addr) (out0l : Nat) (out0c : Nat) (refs0p : Option Addr) (refs0l : Nat) (refs0c : Nat) (w : World) (R : Ending → World → Prop) (h : S_ref9_met h0p h0l h0c h1 h2 h3 h4 h5 h6 h7 h8 h9 h10 h11 h12 h13 h14 h15 h16 out0p out0l out0c refs0p refs0l refs0c w R) : Calls Try.prog 95 #[.agg #[.slice h0p h0l h0c, .int .u64 h1, .int .u64 h2, .int .u64 h3, .int .u64 h4, .int .u64 h5, .int .u64 h6, .int .u64 h7, .int .u64 h8, .int .u64 h9, .int .u64 h10, .int .u64 h11, .int .u64 h12, .int .u64 h13, .int .u64 h14, .int .u64 h15, .int .u64 h16], .slice out0p out0l out0c, .slice refs0p refs0l refs0c] w R :=
  calls_of_X (an := S_ref9_met_ann) wide_ok Try.func95 (by kernel_rfl) (by kernel_rfl) (by rw [S_ref9_met_eq]; exact h)


end Go.Proofs.Ytdfdmboljidhnaa
