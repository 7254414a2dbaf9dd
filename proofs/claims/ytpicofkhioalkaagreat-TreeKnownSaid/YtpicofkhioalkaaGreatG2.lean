/- The second reading of functions of this seat's program, written out by a program (gen.py). -/
import Derived.Test.YtpicofkhioalkaaGreatG3
import Derived.KernelRfl
namespace Go.Proofs.YtpicofkhioalkaaGreat
open Go Go.Lw

set_option maxRecDepth 100000 in
def S_law13_TreeKnown (w : World) (R : Ending → World → Prop) : Prop :=
  Calls Tryz.prog 9 #[.int .i64 8000, .int .i64 800, .int .i64 2] w fun e0 w0 =>
  ∃ (r0 : Option Addr), ∃ (r1p : Option Addr), ∃ (r1l : Nat), ∃ (r1c : Nat), ∃ (r2p : Option Addr), ∃ (r2l : Nat), ∃ (r2c : Nat), ∃ (r3 : Bool), e0 = .returned (.tuple #[.pointer r0, .slice r1p r1l r1c, .slice r2p r2l r2c, .bool r3]) ∧
  Calls Tryz.prog 8 #[] w0 fun e1 w1 =>
  ∃ (r4 : Bool), e1 = .returned (.bool r4) ∧
  cond (!r4)
  (R (.returned (.bool false)) w1)
  (cond (!r3)
  (R (.returned (.bool false)) w1)
  (IdxC r1p r1l 0 1 fun a0 =>
  LdI .u64 w1 a0 fun n0 =>
  NewC (.cells #[.int .u8 97] 5 (0, 0)) w1 fun b0 w2 =>
  RunS Tryz.prog (convert 28 28 (.slice (some (⟨b0, 0, none⟩)) 1 1)) w2 fun s0p s0l s0c w3 =>
  Calls Tryz.prog 15 #[.pointer r0, .int .u64 n0, .slice s0p s0l s0c] w3 fun e2 w4 =>
  ∃ (r5 : Int), ∃ (r6 : Bool), ∃ (r7 : Int), e2 = .returned (.tuple #[.int .u64 r5, .bool r6, .int .i64 r7]) ∧
  ∃ C0 : World → Prop, C0 (World.drew w4) ∧
  IdxC r1p r1l 0 1 fun a1 =>
  LdIQ .u64 C0 a1 fun n1 =>
  IdxC r2p r2l 0 1 fun a2 =>
  LdIQ .u64 C0 a2 fun n2 =>
  NewC (.cells #[.int .u8 98] 5 (0, 0)) (World.drew w4) fun b1 w5 =>
  C0 w5 ∧
  RunS Tryz.prog (convert 28 28 (.slice (some (⟨b1, 0, none⟩)) 1 1)) w5 fun s1p s1l s1c w6 =>
  C0 w6 ∧
  Calls Tryz.prog 11 #[.pointer r0, .int .u64 n1, .slice s1p s1l s1c, .int .u64 n2] w6 fun e3 w7 =>
  ∃ (r8 : Int), ∃ (r9 : Bool), ∃ (r10 : Int), e3 = .returned (.tuple #[.int .u64 r8, .bool r9, .int .i64 r10]) ∧
  ∃ C1 : World → Prop, C1 (World.drew w7) ∧
  IdxC r1p r1l 0 1 fun a3 =>
  LdIQ .u64 C1 a3 fun n3 =>
  IdxC r2p r2l 1 1 fun a4 =>
  LdIQ .u64 C1 a4 fun n4 =>
  NewC (.cells #[.int .u8 98] 5 (0, 0)) (World.drew w7) fun b2 w8 =>
  C1 w8 ∧
  RunS Tryz.prog (convert 28 28 (.slice (some (⟨b2, 0, none⟩)) 1 1)) w8 fun s2p s2l s2c w9 =>
  C1 w9 ∧
  Calls Tryz.prog 11 #[.pointer r0, .int .u64 n3, .slice s2p s2l s2c, .int .u64 n4] w9 fun e4 w10 =>
  ∃ (r11 : Int), ∃ (r12 : Bool), ∃ (r13 : Int), e4 = .returned (.tuple #[.int .u64 r11, .bool r12, .int .i64 r13]) ∧
  IdxC r1p r1l 0 1 fun a5 =>
  LdI .u64 w10 a5 fun n5 =>
  Calls Tryz.prog 12 #[.pointer r0, .int .u64 n5] w10 fun e5 w11 =>
  ∃ (r14 : Int), ∃ (r15 : Int), e5 = .returned (.tuple #[.int .i64 r14, .int .i64 r15]) ∧
  IdxC r1p r1l 0 1 fun a6 =>
  LdI .u64 w11 a6 fun n6 =>
  NewC (.cells #[.int .u8 98] 5 (0, 0)) w11 fun b3 w12 =>
  RunS Tryz.prog (convert 28 28 (.slice (some (⟨b3, 0, none⟩)) 1 1)) w12 fun s3p s3l s3c w13 =>
  Calls Tryz.prog 10 #[.pointer r0, .int .u64 n6, .slice s3p s3l s3c] w13 fun e6 w14 =>
  ∃ (r16 : Int), ∃ (r17 : Bool), ∃ (r18 : Int), e6 = .returned (.tuple #[.int .u64 r16, .bool r17, .int .i64 r18]) ∧
  IdxC r1p r1l 0 1 fun a7 =>
  LdI .u64 w14 a7 fun n7 =>
  NewC (.cells #[.int .u8 98] 5 (0, 0)) w14 fun b4 w15 =>
  RunS Tryz.prog (convert 28 28 (.slice (some (⟨b4, 0, none⟩)) 1 1)) w15 fun s4p s4l s4c w16 =>
  Calls Tryz.prog 10 #[.pointer r0, .int .u64 n7, .slice s4p s4l s4c] w16 fun e7 w17 =>
  ∃ (r19 : Int), ∃ (r20 : Bool), ∃ (r21 : Int), e7 = .returned (.tuple #[.int .u64 r19, .bool r20, .int .i64 r21]) ∧
  cond r6
  (R (.returned (.bool false)) w17)
  (cond (r7 != 0)
  (R (.returned (.bool false)) w17)
  (cond r9
  (R (.returned (.bool false)) w17)
  (cond (r10 != 0)
  (R (.returned (.bool false)) w17)
  (cond (!r12)
  (R (.returned (.bool false)) w17)
  (IdxC r2p r2l 0 1 fun a8 =>
  LdI .u64 w17 a8 fun n8 =>
  cond (r11 != n8)
  (R (.returned (.bool false)) w17)
  (cond (r13 != 0)
  (R (.returned (.bool false)) w17)
  (cond (r14 != 1)
  (R (.returned (.bool false)) w17)
  (cond (r15 != 0)
  (R (.returned (.bool false)) w17)
  (cond (!r17)
  (R (.returned (.bool false)) w17)
  (IdxC r2p r2l 1 1 fun a9 =>
  LdI .u64 w17 a9 fun n9 =>
  cond (r16 != n9)
  (R (.returned (.bool false)) w17)
  (cond (r18 != 0)
  (R (.returned (.bool false)) w17)
  (cond r20
  (R (.returned (.bool false)) w17)
  (cond (r21 != 0)
  (R (.returned (.bool false)) w17)
  (IdxC r1p r1l 1 1 fun a10 =>
  LdI .u64 w17 a10 fun n10 =>
  NewC (.cells #[.int .u8 97] 5 (0, 0)) w17 fun b5 w18 =>
  RunS Tryz.prog (convert 28 28 (.slice (some (⟨b5, 0, none⟩)) 1 1)) w18 fun s5p s5l s5c w19 =>
  Calls Tryz.prog 11 #[.pointer r0, .int .u64 n10, .slice s5p s5l s5c, .int .u64 0] w19 fun e8 w20 =>
  ∃ (r22 : Int), ∃ (r23 : Bool), ∃ (r24 : Int), e8 = .returned (.tuple #[.int .u64 r22, .bool r23, .int .i64 r24]) ∧
  ∃ C2 : World → Prop, C2 (World.drew w20) ∧
  IdxC r1p r1l 1 1 fun a11 =>
  LdIQ .u64 C2 a11 fun n11 =>
  IdxC r2p r2l 2 1 fun a12 =>
  LdIQ .u64 C2 a12 fun n12 =>
  NewC (.cells #[.int .u8 99] 5 (0, 0)) (World.drew w20) fun b6 w21 =>
  C2 w21 ∧
  RunS Tryz.prog (convert 28 28 (.slice (some (⟨b6, 0, none⟩)) 1 1)) w21 fun s6p s6l s6c w22 =>
  C2 w22 ∧
  Calls Tryz.prog 11 #[.pointer r0, .int .u64 n11, .slice s6p s6l s6c, .int .u64 n12] w22 fun e9 w23 =>
  ∃ (r25 : Int), ∃ (r26 : Bool), ∃ (r27 : Int), e9 = .returned (.tuple #[.int .u64 r25, .bool r26, .int .i64 r27]) ∧
  IdxC r1p r1l 1 1 fun a13 =>
  LdI .u64 w23 a13 fun n13 =>
  NewC (.cells #[.int .u8 98] 5 (0, 0)) w23 fun b7 w24 =>
  RunS Tryz.prog (convert 28 28 (.slice (some (⟨b7, 0, none⟩)) 1 1)) w24 fun s7p s7l s7c w25 =>
  Calls Tryz.prog 13 #[.pointer r0, .int .u64 n13, .slice s7p s7l s7c] w25 fun e10 w26 =>
  ∃ (r28p : Option Addr), ∃ (r28l : Nat), ∃ (r28c : Nat), ∃ (r29 : Int), ∃ (r30 : Bool), ∃ (r31 : Int), e10 = .returned (.tuple #[.slice r28p r28l r28c, .int .u64 r29, .bool r30, .int .i64 r31]) ∧
  IdxC r1p r1l 1 1 fun a14 =>
  LdI .u64 w26 a14 fun n14 =>
  Calls Tryz.prog 13 #[.pointer r0, .int .u64 n14, .slice none 0 0] w26 fun e11 w27 =>
  ∃ (r32p : Option Addr), ∃ (r32l : Nat), ∃ (r32c : Nat), ∃ (r33 : Int), ∃ (r34 : Bool), ∃ (r35 : Int), e11 = .returned (.tuple #[.slice r32p r32l r32c, .int .u64 r33, .bool r34, .int .i64 r35]) ∧
  IdxC r1p r1l 1 1 fun a15 =>
  LdI .u64 w27 a15 fun n15 =>
  NewC (.cells #[.int .u8 100] 5 (0, 0)) w27 fun b8 w28 =>
  RunS Tryz.prog (convert 28 28 (.slice (some (⟨b8, 0, none⟩)) 1 1)) w28 fun s8p s8l s8c w29 =>
  Calls Tryz.prog 13 #[.pointer r0, .int .u64 n15, .slice s8p s8l s8c] w29 fun e12 w30 =>
  ∃ (r36p : Option Addr), ∃ (r36l : Nat), ∃ (r36c : Nat), ∃ (r37 : Int), ∃ (r38 : Bool), ∃ (r39 : Int), e12 = .returned (.tuple #[.slice r36p r36l r36c, .int .u64 r37, .bool r38, .int .i64 r39]) ∧
  IdxC r1p r1l 1 1 fun a16 =>
  LdI .u64 w30 a16 fun n16 =>
  NewC (.cells #[.int .u8 99] 5 (0, 0)) w30 fun b9 w31 =>
  RunS Tryz.prog (convert 28 28 (.slice (some (⟨b9, 0, none⟩)) 1 1)) w31 fun s9p s9l s9c w32 =>
  Calls Tryz.prog 14 #[.pointer r0, .int .u64 n16, .slice s9p s9l s9c] w32 fun e13 w33 =>
  ∃ (r40p : Option Addr), ∃ (r40l : Nat), ∃ (r40c : Nat), ∃ (r41 : Int), ∃ (r42 : Bool), ∃ (r43 : Int), e13 = .returned (.tuple #[.slice r40p r40l r40c, .int .u64 r41, .bool r42, .int .i64 r43]) ∧
  IdxC r1p r1l 1 1 fun a17 =>
  LdI .u64 w33 a17 fun n17 =>
  Calls Tryz.prog 14 #[.pointer r0, .int .u64 n17, .slice none 0 0] w33 fun e14 w34 =>
  ∃ (r44p : Option Addr), ∃ (r44l : Nat), ∃ (r44c : Nat), ∃ (r45 : Int), ∃ (r46 : Bool), ∃ (r47 : Int), e14 = .returned (.tuple #[.slice r44p r44l r44c, .int .u64 r45, .bool r46, .int .i64 r47]) ∧
  IdxC r2p r2l 0 1 fun a18 =>
  LdI .u64 w34 a18 fun n18 =>
  NewC (.cells #[.int .u8 97] 5 (0, 0)) w34 fun b10 w35 =>
  RunS Tryz.prog (convert 28 28 (.slice (some (⟨b10, 0, none⟩)) 1 1)) w35 fun s10p s10l s10c w36 =>
  Calls Tryz.prog 15 #[.pointer r0, .int .u64 n18, .slice s10p s10l s10c] w36 fun e15 w37 =>
  ∃ (r48 : Int), ∃ (r49 : Bool), ∃ (r50 : Int), e15 = .returned (.tuple #[.int .u64 r48, .bool r49, .int .i64 r50]) ∧
  NewC (.cells #[.int .u8 97] 5 (0, 0)) w37 fun b11 w38 =>
  RunS Tryz.prog (convert 28 28 (.slice (some (⟨b11, 0, none⟩)) 1 1)) w38 fun s11p s11l s11c w39 =>
  Calls Tryz.prog 15 #[.pointer r0, .int .u64 77, .slice s11p s11l s11c] w39 fun e16 w40 =>
  ∃ (r51 : Int), ∃ (r52 : Bool), ∃ (r53 : Int), e16 = .returned (.tuple #[.int .u64 r51, .bool r52, .int .i64 r53]) ∧
  cond (r24 == 0)
  (cond (r27 == 0)
  (Calls Tryz.prog 16 #[.slice r28p r28l r28c, .bool r30, .int .i64 r31, .string (⟨#[99]⟩ : ByteArray)] w40 fun e17 w41 =>
  ∃ (r54 : Bool), e17 = .returned (.bool r54) ∧
  cond r54
  (Calls Tryz.prog 16 #[.slice r32p r32l r32c, .bool r34, .int .i64 r35, .string (⟨#[97]⟩ : ByteArray)] w41 fun e18 w42 =>
  ∃ (r55 : Bool), e18 = .returned (.bool r55) ∧
  cond r55
  (Calls Tryz.prog 16 #[.slice r36p r36l r36c, .bool r38, .int .i64 r39, .string (⟨#[]⟩ : ByteArray)] w42 fun e19 w43 =>
  ∃ (r56 : Bool), e19 = .returned (.bool r56) ∧
  cond r56
  (Calls Tryz.prog 16 #[.slice r40p r40l r40c, .bool r42, .int .i64 r43, .string (⟨#[97]⟩ : ByteArray)] w43 fun e20 w44 =>
  ∃ (r57 : Bool), e20 = .returned (.bool r57) ∧
  cond r57
  (Calls Tryz.prog 16 #[.slice r44p r44l r44c, .bool r46, .int .i64 r47, .string (⟨#[99]⟩ : ByteArray)] w44 fun e21 w45 =>
  ∃ (r58 : Bool), e21 = .returned (.bool r58) ∧
  cond r58
  (Calls Tryz.prog 17 #[.int .i64 0] w45 fun e22 w46 =>
  ∃ (r59 : Int), e22 = .returned (.int .i64 r59) ∧
  cond (r59 == 600)
  (Calls Tryz.prog 17 #[.int .i64 80] w46 fun e23 w47 =>
  ∃ (r60 : Int), e23 = .returned (.int .i64 r60) ∧
  cond (r60 == 610)
  (Calls Tryz.prog 17 #[.int .i64 (-5)] w47 fun e24 w48 =>
  ∃ (r61 : Int), e24 = .returned (.int .i64 r61) ∧
  cond (r61 == 600)
  (cond (r50 == 7)
  (R (.returned (.bool (r53 == 6))) w48)
  (R (.returned (.bool false)) w48))
  (R (.returned (.bool false)) w48))
  (R (.returned (.bool false)) w47))
  (R (.returned (.bool false)) w46))
  (R (.returned (.bool false)) w45))
  (R (.returned (.bool false)) w44))
  (R (.returned (.bool false)) w43))
  (R (.returned (.bool false)) w42))
  (R (.returned (.bool false)) w41))
  (R (.returned (.bool false)) w40))
  (R (.returned (.bool false)) w40)))))))))))))))))
def S_law13_TreeKnown_ann : Ann := (.seq .leaf (.seq .leaf (.seq .leaf (.seq .leaf (.seq .anyl (.seq .anyl (.seq .leaf (.seq .leaf (.seq .leaf (.seq .leaf (.seq .leaf (.seq .anyl .leaf))))))))))))
theorem S_law13_TreeKnown_eq (w : World) (R : Ending → World → Prop) : X Tryz.prog Tryz.f4.ntmps (bodyOf Tryz.f4) S_law13_TreeKnown_ann (argEnv 0 []) w (fun e w' => resK Tryz.prog Tryz.f4.results.toList e w' [] fun vs => R (.returned (pack vs)) w') (fun e w' => resK Tryz.prog Tryz.f4.results.toList e w' [] fun vs => R (.returned (pack vs)) w') (fun _ _ _ => False) = S_law13_TreeKnown w R := by kernel_rfl
theorem S_law13_TreeKnown_ok (w : World) (R : Ending → World → Prop) (h : S_law13_TreeKnown w R) : Calls Tryz.prog 4 #[] w R :=
  calls_of_X (an := S_law13_TreeKnown_ann) wide_ok Tryz.func4 (by kernel_rfl) (by kernel_rfl) (by rw [S_law13_TreeKnown_eq]; exact h)

def S_law13_awake (w : World) (R : Ending → World → Prop) : Prop :=
  Calls Tryz.prog 9 #[.int .i64 4000, .int .i64 400, .int .i64 1] w fun e0 w0 =>
  ∃ (r0 : Option Addr), ∃ (r1p : Option Addr), ∃ (r1l : Nat), ∃ (r1c : Nat), ∃ (r2p : Option Addr), ∃ (r2l : Nat), ∃ (r2c : Nat), ∃ (r3 : Bool), e0 = .returned (.tuple #[.pointer r0, .slice r1p r1l r1c, .slice r2p r2l r2c, .bool r3]) ∧
  cond (!r3)
  (R (.returned (.bool false)) w0)
  (∃ C0 : World → Prop, C0 (World.drew w0) ∧
  IdxC r1p r1l 0 1 fun a0 =>
  LdIQ .u64 C0 a0 fun n0 =>
  IdxC r2p r2l 1 1 fun a1 =>
  LdIQ .u64 C0 a1 fun n1 =>
  NewC (.cells #[.int .u8 98] 5 (0, 0)) (World.drew w0) fun b0 w1 =>
  C0 w1 ∧
  RunS Tryz.prog (convert 28 28 (.slice (some (⟨b0, 0, none⟩)) 1 1)) w1 fun s0p s0l s0c w2 =>
  C0 w2 ∧
  Calls Tryz.prog 11 #[.pointer r0, .int .u64 n0, .slice s0p s0l s0c, .int .u64 n1] w2 fun e1 w3 =>
  ∃ (r4 : Int), ∃ (r5 : Bool), ∃ (r6 : Int), e1 = .returned (.tuple #[.int .u64 r4, .bool r5, .int .i64 r6]) ∧
  IdxC r1p r1l 0 1 fun a2 =>
  LdI .u64 w3 a2 fun n2 =>
  NewC (.cells #[.int .u8 98] 5 (0, 0)) w3 fun b1 w4 =>
  RunS Tryz.prog (convert 28 28 (.slice (some (⟨b1, 0, none⟩)) 1 1)) w4 fun s1p s1l s1c w5 =>
  Calls Tryz.prog 15 #[.pointer r0, .int .u64 n2, .slice s1p s1l s1c] w5 fun e2 w6 =>
  ∃ (r7 : Int), ∃ (r8 : Bool), ∃ (r9 : Int), e2 = .returned (.tuple #[.int .u64 r7, .bool r8, .int .i64 r9]) ∧
  cond (r6 == 0)
  (cond (!r5)
  (cond (r9 == 0)
  (cond r8
  (IdxC r2p r2l 1 1 fun a3 =>
  LdI .u64 w6 a3 fun n3 =>
  R (.returned (.bool (r7 == n3))) w6)
  (R (.returned (.bool false)) w6))
  (R (.returned (.bool false)) w6))
  (R (.returned (.bool false)) w6))
  (R (.returned (.bool false)) w6))
def S_law13_awake_ann : Ann := (.seq .leaf (.seq .leaf (.seq .leaf (.seq .anyl .leaf))))
theorem S_law13_awake_eq (w : World) (R : Ending → World → Prop) : X Tryz.prog Tryz.f8.ntmps (bodyOf Tryz.f8) S_law13_awake_ann (argEnv 0 []) w (fun e w' => resK Tryz.prog Tryz.f8.results.toList e w' [] fun vs => R (.returned (pack vs)) w') (fun e w' => resK Tryz.prog Tryz.f8.results.toList e w' [] fun vs => R (.returned (pack vs)) w') (fun _ _ _ => False) = S_law13_awake w R := by kernel_rfl
theorem S_law13_awake_ok (w : World) (R : Ending → World → Prop) (h : S_law13_awake w R) : Calls Tryz.prog 8 #[] w R :=
  calls_of_X (an := S_law13_awake_ann) wide_ok Tryz.func8 (by kernel_rfl) (by kernel_rfl) (by rw [S_law13_awake_eq]; exact h)

def S_law13_ground_l0 (R : Ending → World → Prop) (r0 : Option Addr) (l0p : Option Addr) (l0l : Nat) (l0c : Nat) (r4 : Int) (x0p : Option Addr) (x0l : Nat) (x0c : Nat) (i1 : Int) (w8 : World) (I1 : Option Addr → Nat → Nat → Int → World → Prop) (M1 : Option Addr → Nat → Nat → Int → World → Nat) : Prop :=
  cond (decide (i1 < 5))
  (Calls Tryz.prog 37 #[.pointer r0, .int .i64 8, .int .i64 0, .int .i64 1] w8 fun e5 w9 =>
  ∃ (r7 : Int), ∃ (r8 : Int), e5 = .returned (.tuple #[.int .u64 r7, .int .i64 r8]) ∧
  cond (r8 != 0)
  (R (.returned (.tuple #[.pointer none, .slice none 0 0, .slice none 0 0, .bool false])) w9)
  (Calls Tryz.prog 38 #[.pointer r0, .int .u64 r4, .int .i64 i1, .int .u64 r7] w9 fun e6 w10 =>
  ∃ (r9 : Int), e6 = .returned (.int .i64 r9) ∧
  cond (r9 != 0)
  (R (.returned (.tuple #[.pointer none, .slice none 0 0, .slice none 0 0, .bool false])) w10)
  (Calls Tryz.prog 39 #[.pointer r0, .int .u64 r7, .int .i64 0, .int .u64 (IntKind.wrap .u64 i1)] w10 fun e7 w11 =>
  ∃ (r10 : Int), e7 = .returned (.int .i64 r10) ∧
  cond (r10 != 0)
  (R (.returned (.tuple #[.pointer none, .slice none 0 0, .slice none 0 0, .bool false])) w11)
  (NewC (.cells #[.int .u64 r7] 32 (0, 0)) w11 fun b1 w12 =>
  RunS Tryz.prog (Builtin.append_ #[25, 25] 25 #[.slice x0p x0l x0c, .slice (some (⟨b1, 0, none⟩)) 1 1]) w12 fun s1p s1l s1c w13 =>
  I1 s1p s1l s1c (IntKind.wrap .i64 (i1 + 1)) w13 ∧ M1 s1p s1l s1c (IntKind.wrap .i64 (i1 + 1)) w13 < M1 x0p x0l x0c i1 w8))))
  (R (.returned (.tuple #[.pointer r0, .slice l0p l0l l0c, .slice x0p x0l x0c, .bool true])) w8)
def S_law13_ground_l1 (trees0 : Int) (R : Ending → World → Prop) (r0 : Option Addr) (l0p : Option Addr) (l0l : Nat) (l0c : Nat) (i0 : Int) (w1 : World) (I0 : Option Addr → Nat → Nat → Int → World → Prop) (M0 : Option Addr → Nat → Nat → Int → World → Nat) : Prop :=
  cond (decide (i0 < trees0))
  (Calls Tryz.prog 35 #[.pointer r0] w1 fun e1 w2 =>
  ∃ (r1 : Int), ∃ (r2 : Int), e1 = .returned (.tuple #[.int .u64 r1, .int .i64 r2]) ∧
  cond (r2 != 0)
  (R (.returned (.tuple #[.pointer none, .slice none 0 0, .slice none 0 0, .bool false])) w2)
  (Calls Tryz.prog 36 #[.pointer r0, .int .i64 i0, .int .u64 r1] w2 fun e2 w3 =>
  ∃ (r3 : Int), e2 = .returned (.int .i64 r3) ∧
  cond (r3 != 0)
  (R (.returned (.tuple #[.pointer none, .slice none 0 0, .slice none 0 0, .bool false])) w3)
  (NewC (.cells #[.int .u64 r1] 32 (0, 0)) w3 fun b0 w4 =>
  RunS Tryz.prog (Builtin.append_ #[25, 25] 25 #[.slice l0p l0l l0c, .slice (some (⟨b0, 0, none⟩)) 1 1]) w4 fun s0p s0l s0c w5 =>
  I0 s0p s0l s0c (IntKind.wrap .i64 (i0 + 1)) w5 ∧ M0 s0p s0l s0c (IntKind.wrap .i64 (i0 + 1)) w5 < M0 l0p l0l l0c i0 w1)))
  (Calls Tryz.prog 37 #[.pointer r0, .int .i64 9, .int .i64 5, .int .i64 5] w1 fun e3 w6 =>
  ∃ (r4 : Int), ∃ (r5 : Int), e3 = .returned (.tuple #[.int .u64 r4, .int .i64 r5]) ∧
  cond (r5 != 0)
  (R (.returned (.tuple #[.pointer none, .slice none 0 0, .slice none 0 0, .bool false])) w6)
  (Calls Tryz.prog 36 #[.pointer r0, .int .i64 9, .int .u64 r4] w6 fun e4 w7 =>
  ∃ (r6 : Int), e4 = .returned (.int .i64 r6) ∧
  cond (r6 != 0)
  (R (.returned (.tuple #[.pointer none, .slice none 0 0, .slice none 0 0, .bool false])) w7)
  (∃ (I1 : Option Addr → Nat → Nat → Int → World → Prop) (M1 : Option Addr → Nat → Nat → Int → World → Nat), I1 none 0 0 0 w7 ∧
  ∀ (x0p : Option Addr) (x0l : Nat) (x0c : Nat) (i1 : Int) (w8 : World), I1 x0p x0l x0c i1 w8 →
  S_law13_ground_l0 R r0 l0p l0l l0c r4 x0p x0l x0c i1 w8 I1 M1)))
def S_law13_ground (words0 : Int) (slots0 : Int) (trees0 : Int) (w : World) (R : Ending → World → Prop) : Prop :=
  Calls Tryz.prog 34 #[.int .i64 words0, .int .i64 slots0] w fun e0 w0 =>
  ∃ (r0 : Option Addr), e0 = .returned (.pointer r0) ∧
  cond r0.isNone
  (R (.returned (.tuple #[.pointer none, .slice none 0 0, .slice none 0 0, .bool false])) w0)
  (∃ (I0 : Option Addr → Nat → Nat → Int → World → Prop) (M0 : Option Addr → Nat → Nat → Int → World → Nat), I0 none 0 0 0 w0 ∧
  ∀ (l0p : Option Addr) (l0l : Nat) (l0c : Nat) (i0 : Int) (w1 : World), I0 l0p l0l l0c i0 w1 →
  S_law13_ground_l1 trees0 R r0 l0p l0l l0c i0 w1 I0 M0)
def S_law13_ground_ann : Ann := (.seq .leaf (.seq .leaf (.seq .leaf (.seq .leaf (.seq (.seq .leaf (.block (.loop [2, 10] [(11, .slice), (12, (.int .i64))] .leaf))) (.seq .leaf (.seq .leaf (.seq .leaf (.seq (.seq .leaf (.block (.loop [10, 11, 15] [(17, .slice), (18, (.int .i64))] .leaf))) .leaf)))))))))
theorem S_law13_ground_eq (words0 : Int) (slots0 : Int) (trees0 : Int) (w : World) (R : Ending → World → Prop) : X Tryz.prog Tryz.f9.ntmps (bodyOf Tryz.f9) S_law13_ground_ann (argEnv 0 [.int .i64 words0, .int .i64 slots0, .int .i64 trees0]) w (fun e w' => resK Tryz.prog Tryz.f9.results.toList e w' [] fun vs => R (.returned (pack vs)) w') (fun e w' => resK Tryz.prog Tryz.f9.results.toList e w' [] fun vs => R (.returned (pack vs)) w') (fun _ _ _ => False) = S_law13_ground words0 slots0 trees0 w R := by kernel_rfl
theorem S_law13_ground_ok (words0 : Int) (slots0 : Int) (trees0 : Int) (w : World) (R : Ending → World → Prop) (h : S_law13_ground words0 slots0 trees0 w R) : Calls Tryz.prog 9 #[.int .i64 words0, .int .i64 slots0, .int .i64 trees0] w R :=
  calls_of_X (an := S_law13_ground_ann) wide_ok Tryz.func9 (by kernel_rfl) (by kernel_rfl) (by rw [S_law13_ground_eq]; exact h)

def S_law13_found (k0p : Option Addr) (k0l : Nat) (k0c : Nat) (ok0 : Bool) (e0 : Int) (want0 : ByteArray) (w : World) (R : Ending → World → Prop) : Prop :=
  cond (e0 == 0)
  (cond (ok0 == (!(want0.toList == (⟨#[]⟩ : ByteArray).toList)))
  (RunStr Tryz.prog (convert 28 9 (.slice k0p k0l k0c)) w fun t0 =>
  R (.returned (.bool (t0.toList == want0.toList))) w)
  (R (.returned (.bool false)) w))
  (R (.returned (.bool false)) w)
def S_law13_found_ann : Ann := .leaf
theorem S_law13_found_eq (k0p : Option Addr) (k0l : Nat) (k0c : Nat) (ok0 : Bool) (e0 : Int) (want0 : ByteArray) (w : World) (R : Ending → World → Prop) : X Tryz.prog Tryz.f16.ntmps (bodyOf Tryz.f16) S_law13_found_ann (argEnv 0 [.slice k0p k0l k0c, .bool ok0, .int .i64 e0, .string want0]) w (fun e w' => resK Tryz.prog Tryz.f16.results.toList e w' [] fun vs => R (.returned (pack vs)) w') (fun e w' => resK Tryz.prog Tryz.f16.results.toList e w' [] fun vs => R (.returned (pack vs)) w') (fun _ _ _ => False) = S_law13_found k0p k0l k0c ok0 e0 want0 w R := by kernel_rfl
theorem S_law13_found_ok (k0p : Option Addr) (k0l : Nat) (k0c : Nat) (ok0 : Bool) (e0 : Int) (want0 : ByteArray) (w : World) (R : Ending → World → Prop) (h : S_law13_found k0p k0l k0c ok0 e0 want0 w R) : Calls Tryz.prog 16 #[.slice k0p k0l k0c, .bool ok0, .int .i64 e0, .string want0] w R :=
  calls_of_X (an := S_law13_found_ann) wide_ok Tryz.func16 (by kernel_rfl) (by kernel_rfl) (by rw [S_law13_found_eq]; exact h)

def S_law9_Fresh (words0 : Int) (slots0 : Int) (w : World) (R : Ending → World → Prop) : Prop :=
  Calls Tryz.prog 84 #[.int .i64 words0, .int .i64 slots0] w fun e0 w0 =>
  ∃ (r0 : Option Addr), ∃ (r1 : Int), e0 = .returned (.tuple #[.pointer r0, .int .i64 r1]) ∧
  cond (r1 != 0)
  (R (.returned (.pointer none)) w0)
  (R (.returned (.pointer r0)) w0)
def S_law9_Fresh_ann : Ann := .leaf
theorem S_law9_Fresh_eq (words0 : Int) (slots0 : Int) (w : World) (R : Ending → World → Prop) : X Tryz.prog Tryz.f34.ntmps (bodyOf Tryz.f34) S_law9_Fresh_ann (argEnv 0 [.int .i64 words0, .int .i64 slots0]) w (fun e w' => resK Tryz.prog Tryz.f34.results.toList e w' [] fun vs => R (.returned (pack vs)) w') (fun e w' => resK Tryz.prog Tryz.f34.results.toList e w' [] fun vs => R (.returned (pack vs)) w') (fun _ _ _ => False) = S_law9_Fresh words0 slots0 w R := by kernel_rfl
theorem S_law9_Fresh_ok (words0 : Int) (slots0 : Int) (w : World) (R : Ending → World → Prop) (h : S_law9_Fresh words0 slots0 w R) : Calls Tryz.prog 34 #[.int .i64 words0, .int .i64 slots0] w R :=
  calls_of_X (an := S_law9_Fresh_ann) wide_ok Tryz.func34 (by kernel_rfl) (by kernel_rfl) (by rw [S_law9_Fresh_eq]; exact h)


end Go.Proofs.YtpicofkhioalkaaGreat
