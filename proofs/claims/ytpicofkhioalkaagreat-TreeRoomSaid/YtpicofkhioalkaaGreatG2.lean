/- The second reading of functions of this seat's program, written out by a program (gen.py). -/
import Derived.Test.YtpicofkhioalkaaGreatG3
import Derived.KernelRfl
set_option maxRecDepth 100000
namespace Go.Proofs.YtpicofkhioalkaaGreat
open Go Go.Lw

def S_law13_TreeRoom_j0 (R : Ending → World → Prop) (r1 : Option Addr) (r2p : Option Addr) (r2l : Nat) (r5 : Option Addr) (list0p : Option Addr) (list0l : Nat) (list0c : Nat) (k0 : Option Addr → Nat → Nat → World → Prop) (r9 : Int) (r11 : Int) (next0p : Option Addr) (next0l : Nat) (next0c : Nat) (e14 : Int) (w20 : World) : Prop :=
  cond (e14 == 5)
  (cond (decide ((IntKind.wrap .i64 (r9 - r11)) ≥ 40))
  (R (.returned (.bool false)) w20)
  (IdxC r2p r2l 0 1 fun a5 =>
  LdI .u64 w20 a5 fun n8 =>
  Calls Tryz.prog 19 #[.pointer r1, .int .u64 n8, .slice list0p list0l list0c] w20 fun e15 w21 =>
  ∃ (r25 : Bool), e15 = .returned (.bool r25) ∧
  cond (!r25)
  (R (.returned (.bool false)) w21)
  (Calls Tryz.prog 27 #[.pointer r5] w21 fun e16 w22 =>
  ∃ (r26 : Int), ∃ (r27 : Int), e16 = .returned (.tuple #[.int .i64 r26, .int .i64 r27]) ∧
  cond (r27 != 0)
  (R (.returned (.bool false)) w22)
  (IdxC r2p r2l 0 1 fun a6 =>
  LdI .u64 w22 a6 fun n9 =>
  Calls Tryz.prog 19 #[.pointer r1, .int .u64 n9, .slice list0p list0l list0c] w22 fun e17 w23 =>
  ∃ (r28 : Bool), e17 = .returned (.bool r28) ∧
  cond (!r28)
  (R (.returned (.bool false)) w23)
  (k0 list0p list0l list0c w23)))))
  (cond (e14 != 0)
  (R (.returned (.bool false)) w20)
  (k0 next0p next0l next0c w20))
def S_law13_TreeRoom_j1 (R : Ending → World → Prop) (r1 : Option Addr) (r2p : Option Addr) (r2l : Nat) (r5 : Option Addr) (list0p : Option Addr) (list0l : Nat) (list0c : Nat) (k0 : Option Addr → Nat → Nat → World → Prop) (next1p : Option Addr) (next1l : Nat) (next1c : Nat) (e22 : Int) (w28 : World) : Prop :=
  cond (e22 == 5)
  (IdxC r2p r2l 0 1 fun a11 =>
  LdI .u64 w28 a11 fun n15 =>
  Calls Tryz.prog 19 #[.pointer r1, .int .u64 n15, .slice list0p list0l list0c] w28 fun e23 w29 =>
  ∃ (r41 : Bool), e23 = .returned (.bool r41) ∧
  cond (!r41)
  (R (.returned (.bool false)) w29)
  (Calls Tryz.prog 27 #[.pointer r5] w29 fun e24 w30 =>
  ∃ (r42 : Int), ∃ (r43 : Int), e24 = .returned (.tuple #[.int .i64 r42, .int .i64 r43]) ∧
  cond (r43 != 0)
  (R (.returned (.bool false)) w30)
  (IdxC r2p r2l 0 1 fun a12 =>
  LdI .u64 w30 a12 fun n16 =>
  Calls Tryz.prog 19 #[.pointer r1, .int .u64 n16, .slice list0p list0l list0c] w30 fun e25 w31 =>
  ∃ (r44 : Bool), e25 = .returned (.bool r44) ∧
  cond (!r44)
  (R (.returned (.bool false)) w31)
  (k0 list0p list0l list0c w31))))
  (cond (e22 != 0)
  (R (.returned (.bool false)) w28)
  (k0 next1p next1l next1c w28))
def S_law13_TreeRoom_j2 (list0p : Option Addr) (list0l : Nat) (list0c : Nat) (i0 : Int) (w3 : World) (I0 : Option Addr → Nat → Nat → Int → World → Prop) (M0 : Option Addr → Nat → Nat → Int → World → Nat) (list1p : Option Addr) (list1l : Nat) (list1c : Nat) (w32 : World) : Prop :=
  I0 list1p list1l list1c (IntKind.wrap .i64 (i0 + 1)) w32 ∧ M0 list1p list1l list1c (IntKind.wrap .i64 (i0 + 1)) w32 < M0 list0p list0l list0c i0 w3
def S_law13_TreeRoom_l0 (R : Ending → World → Prop) (r1 : Option Addr) (r2p : Option Addr) (r2l : Nat) (list0p : Option Addr) (list0l : Nat) (list0c : Nat) (r46 : Int) (bytes0 : Int) (i1 : Int) (w34 : World) (I1 : Int → Int → World → Prop) (M1 : Int → Int → World → Nat) : Prop :=
  cond (decide (i1 < (Nat.cast list0l : Int)))
  (IdxC list0p list0l i1 2 fun a13 =>
  LdStr w34 a13 fun t4 =>
  I1 (IntKind.wrap .i64 (bytes0 + (Nat.cast t4.size : Int))) (IntKind.wrap .i64 (i1 + 1)) w34 ∧ M1 (IntKind.wrap .i64 (bytes0 + (Nat.cast t4.size : Int))) (IntKind.wrap .i64 (i1 + 1)) w34 < M1 bytes0 i1 w34)
  (cond (r46 == 0)
  (IdxC r2p r2l 0 1 fun a14 =>
  LdI .u64 w34 a14 fun n17 =>
  Calls Tryz.prog 19 #[.pointer r1, .int .u64 n17, .slice list0p list0l list0c] w34 fun e27 w35 =>
  ∃ (r47 : Bool), e27 = .returned (.bool r47) ∧
  cond r47
  (Calls Tryz.prog 22 #[.pointer r1] w35 fun e28 w36 =>
  ∃ (r48 : Option Addr), e28 = .returned (.pointer r48) ∧
  Calls Tryz.prog 28 #[.pointer r48] w36 fun e29 w37 =>
  ∃ (r49 : Int), e29 = .returned (.int .i64 r49) ∧
  DivC 4
  (R (.returned (.bool (decide ((IntKind.wrap .i64 ((IntKind.wrap .i64 (r49 - 6)) - 10)) ≤ (IntKind.wrap .i64 ((IntKind.wrap .i64 (60 + (IntKind.wrap .i64 (60 * (Nat.cast list0l : Int))))) + (IntKind.wrap .i64 (Int.tdiv bytes0 4)))))))) w37))
  (R (.returned (.bool false)) w35))
  (R (.returned (.bool false)) w34))
set_option maxRecDepth 100000 in
def S_law13_TreeRoom_l1 (l0p : Option Addr) (l0l : Nat) (R : Ending → World → Prop) (r1 : Option Addr) (r2p : Option Addr) (r2l : Nat) (r3p : Option Addr) (r3l : Nat) (r5 : Option Addr) (list0p : Option Addr) (list0l : Nat) (list0c : Nat) (i0 : Int) (w3 : World) (I0 : Option Addr → Nat → Nat → Int → World → Prop) (M0 : Option Addr → Nat → Nat → Int → World → Nat) : Prop :=
  cond (decide (i0 < (Nat.cast l0l : Int)))
  (∀ k0 : Option Addr → Nat → Nat → World → Prop,
  (∀ (list1p : Option Addr) (list1l : Nat) (list1c : Nat) (w32 : World), S_law13_TreeRoom_j2 list0p list0l list0c i0 w3 I0 M0 list1p list1l list1c w32 → k0 list1p list1l list1c w32) →
  IdxC l0p l0l i0 4 fun a0 =>
  LdI .i64 w3 a0 fun n0 =>
  LdI .i64 w3 (Addr.add a0 1) fun n1 =>
  LdI .i64 w3 (Addr.add a0 2) fun n2 =>
  LdS w3 (Addr.add a0 3) fun s0p s0l s0c =>
  NewC (.cells #[.int .i64 0, .int .i64 0, .int .i64 0, .slice none 0 0] 30 (0, 0)) w3 fun b0 w4 =>
  StC w4 (⟨b0, 0, none⟩) (.int .i64 n0) fun w5 =>
  StC w5 (Addr.add (⟨b0, 0, none⟩) 1) (.int .i64 n1) fun w6 =>
  StC w6 (Addr.add (⟨b0, 0, none⟩) 2) (.int .i64 n2) fun w7 =>
  StC w7 (Addr.add (⟨b0, 0, none⟩) 3) (.slice s0p s0l s0c) fun w8 =>
  LdS w8 (Addr.add (⟨b0, 0, none⟩) 3) fun _ s1l _ =>
  cond (decide ((Nat.cast s1l : Int) > 200))
  (k0 list0p list0l list0c w8)
  (Calls Tryz.prog 22 #[.pointer r1] w8 fun e3 w9 =>
  ∃ (r6 : Option Addr), e3 = .returned (.pointer r6) ∧
  Calls Tryz.prog 23 #[.pointer r6] w9 fun e4 w10 =>
  ∃ (r7 : Int), e4 = .returned (.int .i64 r7) ∧
  Calls Tryz.prog 24 #[.pointer r1] w10 fun e5 w11 =>
  ∃ (r8 : Option Addr), e5 = .returned (.pointer r8) ∧
  Calls Tryz.prog 25 #[.pointer r8] w11 fun e6 w12 =>
  ∃ (r9 : Int), e6 = .returned (.int .i64 r9) ∧
  Calls Tryz.prog 24 #[.pointer r1] w12 fun e7 w13 =>
  ∃ (r10 : Option Addr), e7 = .returned (.pointer r10) ∧
  Calls Tryz.prog 26 #[.pointer r10] w13 fun e8 w14 =>
  ∃ (r11 : Int), e8 = .returned (.int .i64 r11) ∧
  LdS w14 (Addr.add (⟨b0, 0, none⟩) 3) fun _ s2l _ =>
  Calls Tryz.prog 17 #[.int .i64 (Nat.cast s2l : Int)] w14 fun e9 w15 =>
  ∃ (r12 : Int), e9 = .returned (.int .i64 r12) ∧
  cond (decide (r7 ≥ r12))
  (∀ k1 : Option Addr → Nat → Nat → Int → World → Prop,
  (∀ (next0p : Option Addr) (next0l : Nat) (next0c : Nat) (e14 : Int) (w20 : World), S_law13_TreeRoom_j0 R r1 r2p r2l r5 list0p list0l list0c k0 r9 r11 next0p next0l next0c e14 w20 → k1 next0p next0l next0c e14 w20) →
  LdI .i64 w15 (⟨b0, 0, none⟩) fun n3 =>
  cond (decide (n3 ≤ 3))
  (∃ C0 : World → Prop, C0 (World.drew w15) ∧
  IdxC r2p r2l 0 1 fun a1 =>
  LdIQ .u64 C0 a1 fun n4 =>
  LdSQ C0 (Addr.add (⟨b0, 0, none⟩) 3) fun s3p s3l s3c =>
  IdxC r3p r3l 2 1 fun a2 =>
  LdIQ .u64 C0 a2 fun n5 =>
  Calls Tryz.prog 11 #[.pointer r1, .int .u64 n4, .slice s3p s3l s3c, .int .u64 n5] (World.drew w15) fun e10 w16 =>
  ∃ (r13 : Int), ∃ (r14 : Bool), ∃ (r15 : Int), e10 = .returned (.tuple #[.int .u64 r13, .bool r14, .int .i64 r15]) ∧
  ∃ C1 : World → Prop, C1 (World.drew w16) ∧
  LdSQ C1 (Addr.add (⟨b0, 0, none⟩) 3) fun s4p s4l s4c =>
  RunStrQ Tryz.prog C1 (convert 28 9 (.slice s4p s4l s4c)) fun t0 =>
  IdxC r3p r3l 2 1 fun a3 =>
  LdIQ .u64 C1 a3 fun n6 =>
  Calls Tryz.prog 18 #[.slice list0p list0l list0c, .string t0, .int .u64 n6] (World.drew w16) fun e11 w17 =>
  ∃ (r16p : Option Addr), ∃ (r16l : Nat), ∃ (r16c : Nat), ∃ (r17 : Int), ∃ (r18 : Bool), e11 = .returned (.tuple #[.slice r16p r16l r16c, .int .u64 r17, .bool r18]) ∧
  C1 w17 ∧
  k1 r16p r16l r16c r15 w17)
  (∃ C2 : World → Prop, C2 (World.drew w15) ∧
  IdxC r2p r2l 0 1 fun a4 =>
  LdIQ .u64 C2 a4 fun n7 =>
  LdSQ C2 (Addr.add (⟨b0, 0, none⟩) 3) fun s5p s5l s5c =>
  Calls Tryz.prog 10 #[.pointer r1, .int .u64 n7, .slice s5p s5l s5c] (World.drew w15) fun e12 w18 =>
  ∃ (r19 : Int), ∃ (r20 : Bool), ∃ (r21 : Int), e12 = .returned (.tuple #[.int .u64 r19, .bool r20, .int .i64 r21]) ∧
  LdS w18 (Addr.add (⟨b0, 0, none⟩) 3) fun s6p s6l s6c =>
  RunStr Tryz.prog (convert 28 9 (.slice s6p s6l s6c)) w18 fun t1 =>
  Calls Tryz.prog 20 #[.slice list0p list0l list0c, .string t1] w18 fun e13 w19 =>
  ∃ (r22p : Option Addr), ∃ (r22l : Nat), ∃ (r22c : Nat), ∃ (r23 : Int), ∃ (r24 : Bool), e13 = .returned (.tuple #[.slice r22p r22l r22c, .int .u64 r23, .bool r24]) ∧
  k1 r22p r22l r22c r21 w19))
  (∀ k2 : Option Addr → Nat → Nat → Int → World → Prop,
  (∀ (next1p : Option Addr) (next1l : Nat) (next1c : Nat) (e22 : Int) (w28 : World), S_law13_TreeRoom_j1 R r1 r2p r2l r5 list0p list0l list0c k0 next1p next1l next1c e22 w28 → k2 next1p next1l next1c e22 w28) →
  LdI .i64 w15 (⟨b0, 0, none⟩) fun n10 =>
  cond (decide (n10 ≤ 3))
  (∃ C3 : World → Prop, C3 (World.drew w15) ∧
  IdxC r2p r2l 0 1 fun a7 =>
  LdIQ .u64 C3 a7 fun n11 =>
  LdSQ C3 (Addr.add (⟨b0, 0, none⟩) 3) fun s7p s7l s7c =>
  IdxC r3p r3l 2 1 fun a8 =>
  LdIQ .u64 C3 a8 fun n12 =>
  Calls Tryz.prog 11 #[.pointer r1, .int .u64 n11, .slice s7p s7l s7c, .int .u64 n12] (World.drew w15) fun e18 w24 =>
  ∃ (r29 : Int), ∃ (r30 : Bool), ∃ (r31 : Int), e18 = .returned (.tuple #[.int .u64 r29, .bool r30, .int .i64 r31]) ∧
  ∃ C4 : World → Prop, C4 (World.drew w24) ∧
  LdSQ C4 (Addr.add (⟨b0, 0, none⟩) 3) fun s8p s8l s8c =>
  RunStrQ Tryz.prog C4 (convert 28 9 (.slice s8p s8l s8c)) fun t2 =>
  IdxC r3p r3l 2 1 fun a9 =>
  LdIQ .u64 C4 a9 fun n13 =>
  Calls Tryz.prog 18 #[.slice list0p list0l list0c, .string t2, .int .u64 n13] (World.drew w24) fun e19 w25 =>
  ∃ (r32p : Option Addr), ∃ (r32l : Nat), ∃ (r32c : Nat), ∃ (r33 : Int), ∃ (r34 : Bool), e19 = .returned (.tuple #[.slice r32p r32l r32c, .int .u64 r33, .bool r34]) ∧
  C4 w25 ∧
  k2 r32p r32l r32c r31 w25)
  (∃ C5 : World → Prop, C5 (World.drew w15) ∧
  IdxC r2p r2l 0 1 fun a10 =>
  LdIQ .u64 C5 a10 fun n14 =>
  LdSQ C5 (Addr.add (⟨b0, 0, none⟩) 3) fun s9p s9l s9c =>
  Calls Tryz.prog 10 #[.pointer r1, .int .u64 n14, .slice s9p s9l s9c] (World.drew w15) fun e20 w26 =>
  ∃ (r35 : Int), ∃ (r36 : Bool), ∃ (r37 : Int), e20 = .returned (.tuple #[.int .u64 r35, .bool r36, .int .i64 r37]) ∧
  LdS w26 (Addr.add (⟨b0, 0, none⟩) 3) fun s10p s10l s10c =>
  RunStr Tryz.prog (convert 28 9 (.slice s10p s10l s10c)) w26 fun t3 =>
  Calls Tryz.prog 20 #[.slice list0p list0l list0c, .string t3] w26 fun e21 w27 =>
  ∃ (r38p : Option Addr), ∃ (r38l : Nat), ∃ (r38c : Nat), ∃ (r39 : Int), ∃ (r40 : Bool), e21 = .returned (.tuple #[.slice r38p r38l r38c, .int .u64 r39, .bool r40]) ∧
  k2 r38p r38l r38c r37 w27))))
  (Calls Tryz.prog 27 #[.pointer r5] w3 fun e26 w33 =>
  ∃ (r45 : Int), ∃ (r46 : Int), e26 = .returned (.tuple #[.int .i64 r45, .int .i64 r46]) ∧
  ∃ (I1 : Int → Int → World → Prop) (M1 : Int → Int → World → Nat), I1 0 0 w33 ∧
  ∀ (bytes0 : Int) (i1 : Int) (w34 : World), I1 bytes0 i1 w34 →
  S_law13_TreeRoom_l0 R r1 r2p r2l list0p list0l list0c r46 bytes0 i1 w34 I1 M1)
def S_law13_TreeRoom (l0p : Option Addr) (l0l : Nat) (l0c : Nat) (words0 : Int) (w : World) (R : Ending → World → Prop) : Prop :=
  Calls Tryz.prog 8 #[] w fun e0 w0 =>
  ∃ (r0 : Bool), e0 = .returned (.bool r0) ∧
  cond (!r0)
  (R (.returned (.bool false)) w0)
  (cond (decide ((Nat.cast l0l : Int) > 200))
  (R (.returned (.bool true)) w0)
  (Calls Tryz.prog 9 #[.int .i64 (IntKind.wrap .i64 (2000 + (bAnd .i64 words0 8191))), .int .i64 4000, .int .i64 1] w0 fun e1 w1 =>
  ∃ (r1 : Option Addr), ∃ (r2p : Option Addr), ∃ (r2l : Nat), ∃ (r2c : Nat), ∃ (r3p : Option Addr), ∃ (r3l : Nat), ∃ (r3c : Nat), ∃ (r4 : Bool), e1 = .returned (.tuple #[.pointer r1, .slice r2p r2l r2c, .slice r3p r3l r3c, .bool r4]) ∧
  cond (!r4)
  (R (.returned (.bool false)) w1)
  (Calls Tryz.prog 21 #[.pointer r1] w1 fun e2 w2 =>
  ∃ (r5 : Option Addr), e2 = .returned (.pointer r5) ∧
  ∃ (I0 : Option Addr → Nat → Nat → Int → World → Prop) (M0 : Option Addr → Nat → Nat → Int → World → Nat), I0 none 0 0 0 w2 ∧
  ∀ (list0p : Option Addr) (list0l : Nat) (list0c : Nat) (i0 : Int) (w3 : World), I0 list0p list0l list0c i0 w3 →
  S_law13_TreeRoom_l1 l0p l0l R r1 r2p r2l r3p r3l r5 list0p list0l list0c i0 w3 I0 M0)))
def S_law13_TreeRoom_ann : Ann := (.seq .leaf (.seq .leaf (.seq .leaf (.seq .leaf (.seq .leaf (.seq .leaf (.seq .leaf (.seq .leaf (.seq (.seq .leaf (.block (.loop [0, 5, 6, 7, 9, 11] [(10, .slice), (12, (.int .i64))] (.seq .leaf (.seq (.jblock [0, 5, 6, 7, 9, 11, 12] [(10, .slice)] (.seq .leaf (.seq .leaf (.seq .leaf (.seq .leaf (.seq .leaf (.seq .leaf (.seq .leaf (.join [0, 5, 6, 7, 9, 10, 11, 12, 16] [(17, .slice), (18, (.int .i64))] (.seq .leaf (.cond (.seq .anyl .anyl) (.seq .anyl .leaf))) .leaf)))))))) .leaf) .leaf))))) (.seq .leaf (.seq (.seq .leaf (.block (.loop [5, 6, 10, 22] [(11, (.int .i64)), (23, (.int .i64))] .leaf))) .leaf)))))))))))
theorem S_law13_TreeRoom_ok (l0p : Option Addr) (l0l : Nat) (l0c : Nat) (words0 : Int) (w : World) (R : Ending → World → Prop) (h : S_law13_TreeRoom l0p l0l l0c words0 w R) : Calls Tryz.prog 6 #[.slice l0p l0l l0c, .int .i64 words0] w R :=
  calls_of_X (c := bodyOf Tryz.f6) (an := S_law13_TreeRoom_ann) wide_ok Tryz.func6 (by kernel_rfl) (by kernel_rfl) (cast (by kernel_rfl) h)

def S_law13_awake (w : World) (R : Ending → World → Prop) : Prop :=
  Calls Tryz.prog 9 #[.int .i64 4000, .int .i64 400, .int .i64 1] w fun e0 w0 =>
  ∃ (r0 : Option Addr), ∃ (r1p : Option Addr), ∃ (r1l : Nat), ∃ (r1c : Nat), ∃ (r2p : Option Addr), ∃ (r2l : Nat), ∃ (r2c : Nat), ∃ (r3 : Bool), e0 = .returned (.tuple #[.pointer r0, .slice r1p r1l r1c, .slice r2p r2l r2c, .bool r3]) ∧
  cond (!r3)
  (R (.returned (.bool false)) w0)
  (∃ C0 : World → Prop, C0 (World.drew w0) ∧
  IdxC r1p r1l 0 1 fun a0 =>
  LdIQ .u64 C0 a0 fun n0 =>
  IdxC r2p r2l 1 1 fun a1 =>
  LdIQ .u64 C0 a1 fun n1 =>
  NewC (.cells #[.int .u8 98] 5 (0, 0)) (World.drew w0) fun b0 w1 =>
  C0 w1 ∧
  RunS Tryz.prog (convert 28 28 (.slice (some (⟨b0, 0, none⟩)) 1 1)) w1 fun s0p s0l s0c w2 =>
  C0 w2 ∧
  Calls Tryz.prog 11 #[.pointer r0, .int .u64 n0, .slice s0p s0l s0c, .int .u64 n1] w2 fun e1 w3 =>
  ∃ (r4 : Int), ∃ (r5 : Bool), ∃ (r6 : Int), e1 = .returned (.tuple #[.int .u64 r4, .bool r5, .int .i64 r6]) ∧
  IdxC r1p r1l 0 1 fun a2 =>
  LdI .u64 w3 a2 fun n2 =>
  NewC (.cells #[.int .u8 98] 5 (0, 0)) w3 fun b1 w4 =>
  RunS Tryz.prog (convert 28 28 (.slice (some (⟨b1, 0, none⟩)) 1 1)) w4 fun s1p s1l s1c w5 =>
  Calls Tryz.prog 15 #[.pointer r0, .int .u64 n2, .slice s1p s1l s1c] w5 fun e2 w6 =>
  ∃ (r7 : Int), ∃ (r8 : Bool), ∃ (r9 : Int), e2 = .returned (.tuple #[.int .u64 r7, .bool r8, .int .i64 r9]) ∧
  cond (r6 == 0)
  (cond (!r5)
  (cond (r9 == 0)
  (cond r8
  (IdxC r2p r2l 1 1 fun a3 =>
  LdI .u64 w6 a3 fun n3 =>
  R (.returned (.bool (r7 == n3))) w6)
  (R (.returned (.bool false)) w6))
  (R (.returned (.bool false)) w6))
  (R (.returned (.bool false)) w6))
  (R (.returned (.bool false)) w6))
def S_law13_awake_ann : Ann := (.seq .leaf (.seq .leaf (.seq .leaf (.seq .anyl .leaf))))
theorem S_law13_awake_ok (w : World) (R : Ending → World → Prop) (h : S_law13_awake w R) : Calls Tryz.prog 8 #[] w R :=
  calls_of_X (c := bodyOf Tryz.f8) (an := S_law13_awake_ann) wide_ok Tryz.func8 (by kernel_rfl) (by kernel_rfl) (cast (by kernel_rfl) h)

def S_law13_ground_l0 (R : Ending → World → Prop) (r0 : Option Addr) (l0p : Option Addr) (l0l : Nat) (l0c : Nat) (r4 : Int) (x0p : Option Addr) (x0l : Nat) (x0c : Nat) (i1 : Int) (w8 : World) (I1 : Option Addr → Nat → Nat → Int → World → Prop) (M1 : Option Addr → Nat → Nat → Int → World → Nat) : Prop :=
  cond (decide (i1 < 5))
  (Calls Tryz.prog 37 #[.pointer r0, .int .i64 8, .int .i64 0, .int .i64 1] w8 fun e5 w9 =>
  ∃ (r7 : Int), ∃ (r8 : Int), e5 = .returned (.tuple #[.int .u64 r7, .int .i64 r8]) ∧
  cond (r8 != 0)
  (R (.returned (.tuple #[.pointer none, .slice none 0 0, .slice none 0 0, .bool false])) w9)
  (Calls Tryz.prog 38 #[.pointer r0, .int .u64 r4, .int .i64 i1, .int .u64 r7] w9 fun e6 w10 =>
  ∃ (r9 : Int), e6 = .returned (.int .i64 r9) ∧
  cond (r9 != 0)
  (R (.returned (.tuple #[.pointer none, .slice none 0 0, .slice none 0 0, .bool false])) w10)
  (Calls Tryz.prog 39 #[.pointer r0, .int .u64 r7, .int .i64 0, .int .u64 (IntKind.wrap .u64 i1)] w10 fun e7 w11 =>
  ∃ (r10 : Int), e7 = .returned (.int .i64 r10) ∧
  cond (r10 != 0)
  (R (.returned (.tuple #[.pointer none, .slice none 0 0, .slice none 0 0, .bool false])) w11)
  (NewC (.cells #[.int .u64 r7] 32 (0, 0)) w11 fun b1 w12 =>
  RunS Tryz.prog (Builtin.append_ #[25, 25] 25 #[.slice x0p x0l x0c, .slice (some (⟨b1, 0, none⟩)) 1 1]) w12 fun s1p s1l s1c w13 =>
  I1 s1p s1l s1c (IntKind.wrap .i64 (i1 + 1)) w13 ∧ M1 s1p s1l s1c (IntKind.wrap .i64 (i1 + 1)) w13 < M1 x0p x0l x0c i1 w8))))
  (R (.returned (.tuple #[.pointer r0, .slice l0p l0l l0c, .slice x0p x0l x0c, .bool true])) w8)
def S_law13_ground_l1 (trees0 : Int) (R : Ending → World → Prop) (r0 : Option Addr) (l0p : Option Addr) (l0l : Nat) (l0c : Nat) (i0 : Int) (w1 : World) (I0 : Option Addr → Nat → Nat → Int → World → Prop) (M0 : Option Addr → Nat → Nat → Int → World → Nat) : Prop :=
  cond (decide (i0 < trees0))
  (Calls Tryz.prog 35 #[.pointer r0] w1 fun e1 w2 =>
  ∃ (r1 : Int), ∃ (r2 : Int), e1 = .returned (.tuple #[.int .u64 r1, .int .i64 r2]) ∧
  cond (r2 != 0)
  (R (.returned (.tuple #[.pointer none, .slice none 0 0, .slice none 0 0, .bool false])) w2)
  (Calls Tryz.prog 36 #[.pointer r0, .int .i64 i0, .int .u64 r1] w2 fun e2 w3 =>
  ∃ (r3 : Int), e2 = .returned (.int .i64 r3) ∧
  cond (r3 != 0)
  (R (.returned (.tuple #[.pointer none, .slice none 0 0, .slice none 0 0, .bool false])) w3)
  (NewC (.cells #[.int .u64 r1] 32 (0, 0)) w3 fun b0 w4 =>
  RunS Tryz.prog (Builtin.append_ #[25, 25] 25 #[.slice l0p l0l l0c, .slice (some (⟨b0, 0, none⟩)) 1 1]) w4 fun s0p s0l s0c w5 =>
  I0 s0p s0l s0c (IntKind.wrap .i64 (i0 + 1)) w5 ∧ M0 s0p s0l s0c (IntKind.wrap .i64 (i0 + 1)) w5 < M0 l0p l0l l0c i0 w1)))
  (Calls Tryz.prog 37 #[.pointer r0, .int .i64 9, .int .i64 5, .int .i64 5] w1 fun e3 w6 =>
  ∃ (r4 : Int), ∃ (r5 : Int), e3 = .returned (.tuple #[.int .u64 r4, .int .i64 r5]) ∧
  cond (r5 != 0)
  (R (.returned (.tuple #[.pointer none, .slice none 0 0, .slice none 0 0, .bool false])) w6)
  (Calls Tryz.prog 36 #[.pointer r0, .int .i64 9, .int .u64 r4] w6 fun e4 w7 =>
  ∃ (r6 : Int), e4 = .returned (.int .i64 r6) ∧
  cond (r6 != 0)
  (R (.returned (.tuple #[.pointer none, .slice none 0 0, .slice none 0 0, .bool false])) w7)
  (∃ (I1 : Option Addr → Nat → Nat → Int → World → Prop) (M1 : Option Addr → Nat → Nat → Int → World → Nat), I1 none 0 0 0 w7 ∧
  ∀ (x0p : Option Addr) (x0l : Nat) (x0c : Nat) (i1 : Int) (w8 : World), I1 x0p x0l x0c i1 w8 →
  S_law13_ground_l0 R r0 l0p l0l l0c r4 x0p x0l x0c i1 w8 I1 M1)))
def S_law13_ground (words0 : Int) (slots0 : Int) (trees0 : Int) (w : World) (R : Ending → World → Prop) : Prop :=
  Calls Tryz.prog 34 #[.int .i64 words0, .int .i64 slots0] w fun e0 w0 =>
  ∃ (r0 : Option Addr), e0 = .returned (.pointer r0) ∧
  cond r0.isNone
  (R (.returned (.tuple #[.pointer none, .slice none 0 0, .slice none 0 0, .bool false])) w0)
  (∃ (I0 : Option Addr → Nat → Nat → Int → World → Prop) (M0 : Option Addr → Nat → Nat → Int → World → Nat), I0 none 0 0 0 w0 ∧
  ∀ (l0p : Option Addr) (l0l : Nat) (l0c : Nat) (i0 : Int) (w1 : World), I0 l0p l0l l0c i0 w1 →
  S_law13_ground_l1 trees0 R r0 l0p l0l l0c i0 w1 I0 M0)
def S_law13_ground_ann : Ann := (.seq .leaf (.seq .leaf (.seq .leaf (.seq .leaf (.seq (.seq .leaf (.block (.loop [2, 10] [(11, .slice), (12, (.int .i64))] .leaf))) (.seq .leaf (.seq .leaf (.seq .leaf (.seq (.seq .leaf (.block (.loop [10, 11, 15] [(17, .slice), (18, (.int .i64))] .leaf))) .leaf)))))))))
theorem S_law13_ground_ok (words0 : Int) (slots0 : Int) (trees0 : Int) (w : World) (R : Ending → World → Prop) (h : S_law13_ground words0 slots0 trees0 w R) : Calls Tryz.prog 9 #[.int .i64 words0, .int .i64 slots0, .int .i64 trees0] w R :=
  calls_of_X (c := bodyOf Tryz.f9) (an := S_law13_ground_ann) wide_ok Tryz.func9 (by kernel_rfl) (by kernel_rfl) (cast (by kernel_rfl) h)

def S_law13_put_j0 (at0 : Int) (i0 : Int) (w1 : World) (I0 : Int → Int → World → Prop) (M0 : Int → Int → World → Nat) (at1 : Int) (w2 : World) : Prop :=
  I0 at1 (IntKind.wrap .i64 (i0 + 1)) w2 ∧ M0 at1 (IntKind.wrap .i64 (i0 + 1)) w2 < M0 at0 i0 w1
def S_law13_put_l0 (k0 : ByteArray) (x0 : Int) (R : Ending → World → Prop) (r0p : Option Addr) (r0l : Nat) (r0c : Nat) (r1 : Int) (r2 : Bool) (at0 : Int) (i0 : Int) (w1 : World) (I0 : Int → Int → World → Prop) (M0 : Int → Int → World → Nat) : Prop :=
  cond (decide (i0 < (Nat.cast r0l : Int)))
  (∀ k1 : Int → World → Prop,
  (∀ (at1 : Int) (w2 : World), S_law13_put_j0 at0 i0 w1 I0 M0 at1 w2 → k1 at1 w2) →
  IdxC r0p r0l i0 2 fun a0 =>
  LdStr w1 a0 fun t0 =>
  cond (Op.bytesLess t0.toList k0.toList)
  (k1 (IntKind.wrap .i64 (i0 + 1)) w1)
  (k1 at0 w1))
  (SlC r0p r0c 0 at0 (Nat.cast r0c : Int) 2 fun s0p s0l s0c =>
  RunS Tryz.prog (Builtin.append_ #[44, 44] 44 #[.slice none 0 0, .slice s0p s0l s0c]) w1 fun s1p s1l s1c w3 =>
  NewC (.cells #[.string k0, .int .u64 x0] 49 (0, 0)) w3 fun b0 w4 =>
  RunS Tryz.prog (Builtin.append_ #[44, 44] 44 #[.slice s1p s1l s1c, .slice (some (⟨b0, 0, none⟩)) 1 1]) w4 fun s2p s2l s2c w5 =>
  SlC r0p r0c at0 (Nat.cast r0l : Int) (Nat.cast r0c : Int) 2 fun s3p s3l s3c =>
  RunS Tryz.prog (Builtin.append_ #[44, 44] 44 #[.slice s2p s2l s2c, .slice s3p s3l s3c]) w5 fun s4p s4l s4c w6 =>
  R (.returned (.tuple #[.slice s4p s4l s4c, .int .u64 r1, .bool r2])) w6)
def S_law13_put (l0p : Option Addr) (l0l : Nat) (l0c : Nat) (k0 : ByteArray) (x0 : Int) (w : World) (R : Ending → World → Prop) : Prop :=
  Calls Tryz.prog 20 #[.slice l0p l0l l0c, .string k0] w fun e0 w0 =>
  ∃ (r0p : Option Addr), ∃ (r0l : Nat), ∃ (r0c : Nat), ∃ (r1 : Int), ∃ (r2 : Bool), e0 = .returned (.tuple #[.slice r0p r0l r0c, .int .u64 r1, .bool r2]) ∧
  ∃ (I0 : Int → Int → World → Prop) (M0 : Int → Int → World → Nat), I0 0 0 w0 ∧
  ∀ (at0 : Int) (i0 : Int) (w1 : World), I0 at0 i0 w1 →
  S_law13_put_l0 k0 x0 R r0p r0l r0c r1 r2 at0 i0 w1 I0 M0
def S_law13_put_ann : Ann := (.seq .leaf (.seq .leaf (.seq .leaf (.seq (.seq .leaf (.block (.loop [1, 2, 9, 10, 11] [(12, (.int .i64)), (13, (.int .i64))] (.seq .leaf (.seq (.jblock [1, 2, 9, 10, 11, 13] [(12, (.int .i64))] .leaf .leaf) .leaf))))) .leaf))))
theorem S_law13_put_ok (l0p : Option Addr) (l0l : Nat) (l0c : Nat) (k0 : ByteArray) (x0 : Int) (w : World) (R : Ending → World → Prop) (h : S_law13_put l0p l0l l0c k0 x0 w R) : Calls Tryz.prog 18 #[.slice l0p l0l l0c, .string k0, .int .u64 x0] w R :=
  calls_of_X (c := bodyOf Tryz.f18) (an := S_law13_put_ann) wide_ok Tryz.func18 (by kernel_rfl) (by kernel_rfl) (cast (by kernel_rfl) h)

def S_law13_holds_j0 (at0p : Option Addr) (at0l : Nat) (at0c : Nat) (i0 : Int) (w3 : World) (I0 : Option Addr → Nat → Nat → Int → World → Prop) (M0 : Option Addr → Nat → Nat → Int → World → Nat) (at1p : Option Addr) (at1l : Nat) (at1c : Nat) (w13 : World) : Prop :=
  I0 at1p at1l at1c (IntKind.wrap .i64 (i0 + 1)) w13 ∧ M0 at1p at1l at1c (IntKind.wrap .i64 (i0 + 1)) w13 < M0 at0p at0l at0c i0 w3
def S_law13_holds_l0 (h0 : Option Addr) (t0 : Int) (l0p : Option Addr) (l0l : Nat) (R : Ending → World → Prop) (at0p : Option Addr) (at0l : Nat) (at0c : Nat) (i0 : Int) (w3 : World) (I0 : Option Addr → Nat → Nat → Int → World → Prop) (M0 : Option Addr → Nat → Nat → Int → World → Nat) : Prop :=
  cond (decide (i0 ≤ (Nat.cast l0l : Int)))
  (∀ k0 : Option Addr → Nat → Nat → World → Prop,
  (∀ (at1p : Option Addr) (at1l : Nat) (at1c : Nat) (w13 : World), S_law13_holds_j0 at0p at0l at0c i0 w3 I0 M0 at1p at1l at1c w13 → k0 at1p at1l at1c w13) →
  Calls Tryz.prog 13 #[.pointer h0, .int .u64 t0, .slice at0p at0l at0c] w3 fun e2 w4 =>
  ∃ (r3p : Option Addr), ∃ (r3l : Nat), ∃ (r3c : Nat), ∃ (r4 : Int), ∃ (r5 : Bool), ∃ (r6 : Int), e2 = .returned (.tuple #[.slice r3p r3l r3c, .int .u64 r4, .bool r5, .int .i64 r6]) ∧
  cond (r6 != 0)
  (R (.returned (.bool false)) w4)
  (cond (!(r5 == (decide (i0 < (Nat.cast l0l : Int)))))
  (R (.returned (.bool false)) w4)
  (cond r5
  (RunStr Tryz.prog (convert 28 9 (.slice r3p r3l r3c)) (World.drew w4) fun t1 =>
  IdxC l0p l0l i0 2 fun a0 =>
  LdStr (World.drew w4) a0 fun t2 =>
  cond (!(t1.toList == t2.toList))
  (R (.returned (.bool false)) (World.drew w4))
  (IdxC l0p l0l i0 2 fun a1 =>
  LdI .u64 (World.drew w4) (Addr.add a1 1) fun n0 =>
  cond (r4 != n0)
  (R (.returned (.bool false)) (World.drew w4))
  (NewC (.cells #[] 5 (0, 0)) (World.drew w4) fun b1 w5 =>
  RunS Tryz.prog (Builtin.append_ #[28, 28] 28 #[.slice (some (⟨b1, 0, none⟩)) 0 0, .slice r3p r3l r3c]) w5 fun s0p s0l s0c w6 =>
  NewC (.cells #[.int .u8 0] 5 (0, 0)) w6 fun b2 w7 =>
  RunS Tryz.prog (Builtin.append_ #[28, 28] 28 #[.slice s0p s0l s0c, .slice (some (⟨b2, 0, none⟩)) 1 1]) w7 fun s1p s1l s1c w8 =>
  k0 s1p s1l s1c w8)))
  (NewC (.cells #[] 5 (0, 0)) (World.drew w4) fun b3 w9 =>
  RunS Tryz.prog (Builtin.append_ #[28, 28] 28 #[.slice (some (⟨b3, 0, none⟩)) 0 0, .slice r3p r3l r3c]) w9 fun s2p s2l s2c w10 =>
  NewC (.cells #[.int .u8 0] 5 (0, 0)) w10 fun b4 w11 =>
  RunS Tryz.prog (Builtin.append_ #[28, 28] 28 #[.slice s2p s2l s2c, .slice (some (⟨b4, 0, none⟩)) 1 1]) w11 fun s3p s3l s3c w12 =>
  k0 s3p s3l s3c w12))))
  (R (.returned (.bool true)) w3)
def S_law13_holds (h0 : Option Addr) (t0 : Int) (l0p : Option Addr) (l0l : Nat) (l0c : Nat) (w : World) (R : Ending → World → Prop) : Prop :=
  Calls Tryz.prog 12 #[.pointer h0, .int .u64 t0] w fun e0 w0 =>
  ∃ (r0 : Int), ∃ (r1 : Int), e0 = .returned (.tuple #[.int .i64 r0, .int .i64 r1]) ∧
  cond (r1 != 0)
  (R (.returned (.bool false)) w0)
  (cond (r0 != (Nat.cast l0l : Int))
  (R (.returned (.bool false)) w0)
  (Calls Tryz.prog 63 #[.pointer h0, .int .u64 t0] w0 fun e1 w1 =>
  ∃ (r2 : Int), e1 = .returned (.int .i64 r2) ∧
  cond (r2 != 0)
  (R (.returned (.bool false)) w1)
  (NewC (.cells #[] 5 (0, 0)) w1 fun b0 w2 =>
  ∃ (I0 : Option Addr → Nat → Nat → Int → World → Prop) (M0 : Option Addr → Nat → Nat → Int → World → Nat), I0 (some (⟨b0, 0, none⟩)) 0 0 0 w2 ∧
  ∀ (at0p : Option Addr) (at0l : Nat) (at0c : Nat) (i0 : Int) (w3 : World), I0 at0p at0l at0c i0 w3 →
  S_law13_holds_l0 h0 t0 l0p l0l R at0p at0l at0c i0 w3 I0 M0)))
def S_law13_holds_ann : Ann := (.seq .leaf (.seq .leaf (.seq .leaf (.seq .leaf (.seq (.seq .leaf (.block (.loop [0, 1, 2] [(9, .slice), (10, (.int .i64))] (.seq .leaf (.seq (.jblock [0, 1, 2, 10] [(9, .slice)] (.seq .leaf (.seq .leaf (.seq (.seq (.draw 20) .leaf) .leaf))) .leaf) .leaf))))) .leaf)))))
theorem S_law13_holds_ok (h0 : Option Addr) (t0 : Int) (l0p : Option Addr) (l0l : Nat) (l0c : Nat) (w : World) (R : Ending → World → Prop) (h : S_law13_holds h0 t0 l0p l0l l0c w R) : Calls Tryz.prog 19 #[.pointer h0, .int .u64 t0, .slice l0p l0l l0c] w R :=
  calls_of_X (c := bodyOf Tryz.f19) (an := S_law13_holds_ann) wide_ok Tryz.func19 (by kernel_rfl) (by kernel_rfl) (cast (by kernel_rfl) h)

def S_law13_take_j0 (out0p : Option Addr) (out0l : Nat) (out0c : Nat) (old0 : Int) (had0 : Bool) (i0 : Int) (w0 : World) (I0 : Option Addr → Nat → Nat → Int → Bool → Int → World → Prop) (M0 : Option Addr → Nat → Nat → Int → Bool → Int → World → Nat) (out1p : Option Addr) (out1l : Nat) (out1c : Nat) (old1 : Int) (had1 : Bool) (w3 : World) : Prop :=
  I0 out1p out1l out1c old1 had1 (IntKind.wrap .i64 (i0 + 1)) w3 ∧ M0 out1p out1l out1c old1 had1 (IntKind.wrap .i64 (i0 + 1)) w3 < M0 out0p out0l out0c old0 had0 i0 w0
def S_law13_take_l0 (l0p : Option Addr) (l0l : Nat) (k0 : ByteArray) (R : Ending → World → Prop) (out0p : Option Addr) (out0l : Nat) (out0c : Nat) (old0 : Int) (had0 : Bool) (i0 : Int) (w0 : World) (I0 : Option Addr → Nat → Nat → Int → Bool → Int → World → Prop) (M0 : Option Addr → Nat → Nat → Int → Bool → Int → World → Nat) : Prop :=
  cond (decide (i0 < (Nat.cast l0l : Int)))
  (∀ k1 : Option Addr → Nat → Nat → Int → Bool → World → Prop,
  (∀ (out1p : Option Addr) (out1l : Nat) (out1c : Nat) (old1 : Int) (had1 : Bool) (w3 : World), S_law13_take_j0 out0p out0l out0c old0 had0 i0 w0 I0 M0 out1p out1l out1c old1 had1 w3 → k1 out1p out1l out1c old1 had1 w3) →
  IdxC l0p l0l i0 2 fun a0 =>
  LdStr w0 a0 fun t0 =>
  cond (t0.toList == k0.toList)
  (IdxC l0p l0l i0 2 fun a1 =>
  LdI .u64 w0 (Addr.add a1 1) fun n0 =>
  k1 out0p out0l out0c n0 true w0)
  (IdxC l0p l0l i0 2 fun a2 =>
  LdStr w0 a2 fun t1 =>
  LdI .u64 w0 (Addr.add a2 1) fun n1 =>
  NewC (.cells #[.string t1, .int .u64 n1] 49 (0, 0)) w0 fun b0 w1 =>
  RunS Tryz.prog (Builtin.append_ #[44, 44] 44 #[.slice out0p out0l out0c, .slice (some (⟨b0, 0, none⟩)) 1 1]) w1 fun s0p s0l s0c w2 =>
  k1 s0p s0l s0c old0 had0 w2))
  (R (.returned (.tuple #[.slice out0p out0l out0c, .int .u64 old0, .bool had0])) w0)
def S_law13_take (l0p : Option Addr) (l0l : Nat) (l0c : Nat) (k0 : ByteArray) (w : World) (R : Ending → World → Prop) : Prop :=
  ∃ (I0 : Option Addr → Nat → Nat → Int → Bool → Int → World → Prop) (M0 : Option Addr → Nat → Nat → Int → Bool → Int → World → Nat), I0 none 0 0 0 false 0 w ∧
  ∀ (out0p : Option Addr) (out0l : Nat) (out0c : Nat) (old0 : Int) (had0 : Bool) (i0 : Int) (w0 : World), I0 out0p out0l out0c old0 had0 i0 w0 →
  S_law13_take_l0 l0p l0l k0 R out0p out0l out0c old0 had0 i0 w0 I0 M0
def S_law13_take_ann : Ann := (.seq .leaf (.seq .leaf (.seq .leaf (.seq .leaf (.seq (.seq .leaf (.block (.loop [0, 1] [(7, .slice), (8, (.int .u64)), (9, .bool), (10, (.int .i64))] (.seq .leaf (.seq (.jblock [0, 1, 10] [(7, .slice), (8, (.int .u64)), (9, .bool)] .leaf .leaf) .leaf))))) .leaf)))))
theorem S_law13_take_ok (l0p : Option Addr) (l0l : Nat) (l0c : Nat) (k0 : ByteArray) (w : World) (R : Ending → World → Prop) (h : S_law13_take l0p l0l l0c k0 w R) : Calls Tryz.prog 20 #[.slice l0p l0l l0c, .string k0] w R :=
  calls_of_X (c := bodyOf Tryz.f20) (an := S_law13_take_ann) wide_ok Tryz.func20 (by kernel_rfl) (by kernel_rfl) (cast (by kernel_rfl) h)

def S_law9_Fresh (words0 : Int) (slots0 : Int) (w : World) (R : Ending → World → Prop) : Prop :=
  Calls Tryz.prog 84 #[.int .i64 words0, .int .i64 slots0] w fun e0 w0 =>
  ∃ (r0 : Option Addr), ∃ (r1 : Int), e0 = .returned (.tuple #[.pointer r0, .int .i64 r1]) ∧
  cond (r1 != 0)
  (R (.returned (.pointer none)) w0)
  (R (.returned (.pointer r0)) w0)
def S_law9_Fresh_ann : Ann := .leaf
theorem S_law9_Fresh_ok (words0 : Int) (slots0 : Int) (w : World) (R : Ending → World → Prop) (h : S_law9_Fresh words0 slots0 w R) : Calls Tryz.prog 34 #[.int .i64 words0, .int .i64 slots0] w R :=
  calls_of_X (c := bodyOf Tryz.f34) (an := S_law9_Fresh_ann) wide_ok Tryz.func34 (by kernel_rfl) (by kernel_rfl) (cast (by kernel_rfl) h)


end Go.Proofs.YtpicofkhioalkaaGreat
