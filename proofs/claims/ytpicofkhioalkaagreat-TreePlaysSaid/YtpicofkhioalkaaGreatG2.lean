/- The second reading of functions of this seat's program, written out by a program (gen.py). -/
import Derived.Test.YtpicofkhioalkaaGreatG3
import Derived.KernelRfl
set_option maxRecDepth 100000
namespace Go.Proofs.YtpicofkhioalkaaGreat
open Go Go.Lw
def S_law13_TreePlays_j0 (R : Ending -> World -> Prop) (r5 : Option Addr) (b1 : Nat) (k3 : World -> Prop) (w24 : World) : Prop :=
 LdI .i64 w24 (Addr.add (⟨b1, 0, none⟩) 2) fun n12 =>
 Calls Tryz.prog 31 #[.pointer r5, .int .i64 (IntKind.wrap .i64 (1 + (bAnd .i64 n12 31)))] w24 fun e9 w25 =>
 ∃ (r20 : Bool), ∃ (r21 : Int), e9 = .returned (.tuple #[.bool r20, .int .i64 r21]) /\
 cond (r21 != 0)
 (R (.returned (.bool false)) w25)
 (k3 w25)
def S_law13_TreePlays_j1 (k0 : World -> Prop) (w28 : World) : Prop :=
 k0 w28
def S_law13_TreePlays_j2 (R : Ending -> World -> Prop) (r1 : Option Addr) (r2p : Option Addr) (r2l : Nat) (r5 : Option Addr) (b0 : Nat) (k0 : World -> Prop) (b1 : Nat) (n3 : Int) (y0 : Int) (s2l : Nat) (w15 : World) : Prop :=
 ∀ k3 : World -> Prop,
 (∀ (w28 : World), S_law13_TreePlays_j1 k0 w28 -> k3 w28) ->
 LdI .i64 w15 (⟨b1, 0, none⟩) fun n7 =>
 cond (decide (n7 <= 3))
 (∃ C0 : World -> Prop, C0 (World.drew w15) /\
 IdxC r2p r2l (Int.tmod (bAnd .i64 n3 3) 3) 1 fun a3 =>
 LdIQ .u64 C0 a3 fun n8 =>
 LdSQ C0 (Addr.add (⟨b1, 0, none⟩) 3) fun s4p s4l s4c =>
 Calls Tryz.prog 11 #[.pointer r1, .int .u64 n8, .slice s4p s4l s4c, .int .u64 y0] (World.drew w15) fun e3 w16 =>
 ∃ (r6 : Int), ∃ (r7 : Bool), ∃ (r8 : Int), e3 = .returned (.tuple #[.int .u64 r6, .bool r7, .int .i64 r8]) /\
 cond (decide ((Nat.cast s2l : Int) > 16384))
 (cond (r8 != 1)
 (R (.returned (.bool false)) w16)
 (k0 w16))
 (∃ C1 : World -> Prop, C1 (World.drew w16) /\
 IdxF 3 (Int.tmod (bAnd .i64 n3 3) 3)
 (LdSQ C1 (Addr.add (⟨b0, 0, none⟩) (Int.toNat (Int.tmod (bAnd .i64 n3 3) 3) * 1)) fun s5p s5l s5c =>
 LdSQ C1 (Addr.add (⟨b1, 0, none⟩) 3) fun s6p s6l s6c =>
 RunStrQ Tryz.prog C1 (convert 28 9 (.slice s6p s6l s6c)) fun t0 =>
 Calls Tryz.prog 18 #[.slice s5p s5l s5c, .string t0, .int .u64 y0] (World.drew w16) fun e4 w17 =>
 ∃ (r9p : Option Addr), ∃ (r9l : Nat), ∃ (r9c : Nat), ∃ (r10 : Int), ∃ (r11 : Bool), e4 = .returned (.tuple #[.slice r9p r9l r9c, .int .u64 r10, .bool r11]) /\
 C1 w17 /\
 cond (r8 != 0)
 (R (.returned (.bool false)) w17)
 (cond (!(r7 == r11))
 (R (.returned (.bool false)) w17)
 (cond (r6 != r10)
 (R (.returned (.bool false)) w17)
 (IdxF 3 (Int.tmod (bAnd .i64 n3 3) 3)
 (StC w17 (Addr.add (⟨b0, 0, none⟩) (Int.toNat (Int.tmod (bAnd .i64 n3 3) 3) * 1)) (.slice r9p r9l r9c) fun w18 =>
 k3 w18)))))))
 (LdI .i64 w15 (⟨b1, 0, none⟩) fun n9 =>
 cond (decide (n9 <= 5))
 (∃ C2 : World -> Prop, C2 (World.drew w15) /\
 IdxC r2p r2l (Int.tmod (bAnd .i64 n3 3) 3) 1 fun a4 =>
 LdIQ .u64 C2 a4 fun n10 =>
 LdSQ C2 (Addr.add (⟨b1, 0, none⟩) 3) fun s7p s7l s7c =>
 Calls Tryz.prog 10 #[.pointer r1, .int .u64 n10, .slice s7p s7l s7c] (World.drew w15) fun e5 w19 =>
 ∃ (r12 : Int), ∃ (r13 : Bool), ∃ (r14 : Int), e5 = .returned (.tuple #[.int .u64 r12, .bool r13, .int .i64 r14]) /\
 cond (decide ((Nat.cast s2l : Int) > 16384))
 (cond (r14 != 1)
 (R (.returned (.bool false)) w19)
 (k0 w19))
 (∃ C3 : World -> Prop, C3 (World.drew w19) /\
 IdxF 3 (Int.tmod (bAnd .i64 n3 3) 3)
 (LdSQ C3 (Addr.add (⟨b0, 0, none⟩) (Int.toNat (Int.tmod (bAnd .i64 n3 3) 3) * 1)) fun s8p s8l s8c =>
 LdSQ C3 (Addr.add (⟨b1, 0, none⟩) 3) fun s9p s9l s9c =>
 RunStrQ Tryz.prog C3 (convert 28 9 (.slice s9p s9l s9c)) fun t1 =>
 Calls Tryz.prog 20 #[.slice s8p s8l s8c, .string t1] (World.drew w19) fun e6 w20 =>
 ∃ (r15p : Option Addr), ∃ (r15l : Nat), ∃ (r15c : Nat), ∃ (r16 : Int), ∃ (r17 : Bool), e6 = .returned (.tuple #[.slice r15p r15l r15c, .int .u64 r16, .bool r17]) /\
 C3 w20 /\
 cond (r14 != 0)
 (R (.returned (.bool false)) w20)
 (cond (!(r13 == r17))
 (R (.returned (.bool false)) w20)
 (cond (r12 != r16)
 (R (.returned (.bool false)) w20)
 (IdxF 3 (Int.tmod (bAnd .i64 n3 3) 3)
 (StC w20 (Addr.add (⟨b0, 0, none⟩) (Int.toNat (Int.tmod (bAnd .i64 n3 3) 3) * 1)) (.slice r15p r15l r15c) fun w21 =>
 k3 w21)))))))
 (LdI .i64 w15 (⟨b1, 0, none⟩) fun n11 =>
 cond (n11 == 7)
 (∀ k4 : World -> Prop,
 (∀ (w24 : World), S_law13_TreePlays_j0 R r5 b1 k3 w24 -> k4 w24) ->
 Calls Tryz.prog 29 #[.pointer r5] w15 fun e7 w22 =>
 ∃ (r18 : Int), e7 = .returned (.int .i64 r18) /\
 cond (r18 == 0)
 (Calls Tryz.prog 30 #[.pointer r5] w22 fun e8 w23 =>
 ∃ (r19 : Int), e8 = .returned (.int .i64 r19) /\
 cond (r19 != 0)
 (R (.returned (.bool false)) w23)
 (k4 w23))
 (k4 w22))
 (LdI .i64 w15 (⟨b1, 0, none⟩) fun n13 =>
 cond (n13 == 8)
 (Calls Tryz.prog 27 #[.pointer r5] w15 fun e10 w26 =>
 ∃ (r22 : Int), ∃ (r23 : Int), e10 = .returned (.tuple #[.int .i64 r22, .int .i64 r23]) /\
 cond (r23 != 0)
 (R (.returned (.bool false)) w26)
 (k3 w26))
 (IdxC r2p r2l (Int.tmod (bAnd .i64 n3 3) 3) 1 fun a5 =>
 LdI .u64 (World.drew w15) a5 fun n14 =>
 IdxF 3 (Int.tmod (bAnd .i64 n3 3) 3)
 (LdS (World.drew w15) (Addr.add (⟨b0, 0, none⟩) (Int.toNat (Int.tmod (bAnd .i64 n3 3) 3) * 1)) fun s10p s10l s10c =>
 LdS (World.drew w15) (Addr.add (⟨b1, 0, none⟩) 3) fun s11p s11l s11c =>
 Calls Tryz.prog 32 #[.pointer r1, .int .u64 n14, .slice s10p s10l s10c, .slice s11p s11l s11c] (World.drew w15) fun e11 w27 =>
 ∃ (r24 : Bool), e11 = .returned (.bool r24) /\
 cond (!r24)
 (R (.returned (.bool false)) w27)
 (k3 w27))))))
def S_law13_TreePlays_j3 (R : Ending -> World -> Prop) (r1 : Option Addr) (r2p : Option Addr) (r2l : Nat) (r5 : Option Addr) (b0 : Nat) (k0 : World -> Prop) (b1 : Nat) (n3 : Int) (y0 : Int) (w14 : World) : Prop :=
 LdS w14 (Addr.add (⟨b1, 0, none⟩) 3) fun _ s2l _ =>
 ∀ k2 : World -> Prop,
 (∀ (w15 : World), S_law13_TreePlays_j2 R r1 r2p r2l r5 b0 k0 b1 n3 y0 s2l w15 -> k2 w15) ->
 LdS w14 (Addr.add (⟨b1, 0, none⟩) 3) fun _ s3l _ =>
 cond (decide ((Nat.cast s3l : Int) > 16000))
 (cond (!(decide ((Nat.cast s2l : Int) > 16384)))
 (k0 w14)
 (k2 w14))
 (k2 w14)
def S_law13_TreePlays_j4 (i1 : Int) (w8 : World) (I1 : Int -> World -> Prop) (M1 : Int -> World -> Nat) (w29 : World) : Prop :=
 I1 (IntKind.wrap .i64 (i1 + 1)) w29 /\ M1 (IntKind.wrap .i64 (i1 + 1)) w29 < M1 i1 w8
def S_law13_TreePlays_l0 (R : Ending -> World -> Prop) (r1 : Option Addr) (r2p : Option Addr) (r2l : Nat) (b0 : Nat) (k5 : Int) (w30 : World) (I2 : Int -> World -> Prop) (M2 : Int -> World -> Nat) : Prop :=
 cond (decide (k5 < 3))
 (IdxC r2p r2l k5 1 fun a6 =>
 LdI .u64 (World.drew w30) a6 fun n15 =>
 IdxF 3 k5
 (LdS (World.drew w30) (Addr.add (⟨b0, 0, none⟩) (Int.toNat k5 * 1)) fun s12p s12l s12c =>
 Calls Tryz.prog 19 #[.pointer r1, .int .u64 n15, .slice s12p s12l s12c] (World.drew w30) fun e12 w31 =>
 ∃ (r25 : Bool), e12 = .returned (.bool r25) /\
 cond (!r25)
 (R (.returned (.bool false)) w31)
 (I2 (IntKind.wrap .i64 (k5 + 1)) w31 /\ M2 (IntKind.wrap .i64 (k5 + 1)) w31 < M2 k5 w30)))
 (Calls Tryz.prog 33 #[.pointer r1] w30 fun e13 w32 =>
 ∃ (r26 : Int), e13 = .returned (.int .i64 r26) /\
 R (.returned (.bool (r26 == 0))) w32)
def S_law13_TreePlays_l1 (l0p : Option Addr) (l0l : Nat) (R : Ending -> World -> Prop) (r1 : Option Addr) (r2p : Option Addr) (r2l : Nat) (r3p : Option Addr) (r3l : Nat) (r5 : Option Addr) (b0 : Nat) (i1 : Int) (w8 : World) (I1 : Int -> World -> Prop) (M1 : Int -> World -> Nat) : Prop :=
 cond (decide (i1 < (Nat.cast l0l : Int)))
 (∀ k0 : World -> Prop,
 (∀ (w29 : World), S_law13_TreePlays_j4 i1 w8 I1 M1 w29 -> k0 w29) ->
 IdxC l0p l0l i1 4 fun a1 =>
 LdI .i64 w8 a1 fun n0 =>
 LdI .i64 w8 (Addr.add a1 1) fun n1 =>
 LdI .i64 w8 (Addr.add a1 2) fun n2 =>
 LdS w8 (Addr.add a1 3) fun s1p s1l s1c =>
 NewC (.cells #[.int .i64 0, .int .i64 0, .int .i64 0, .slice none 0 0] 30 (0, 0)) w8 fun b1 w9 =>
 StC w9 (⟨b1, 0, none⟩) (.int .i64 n0) fun w10 =>
 StC w10 (Addr.add (⟨b1, 0, none⟩) 1) (.int .i64 n1) fun w11 =>
 StC w11 (Addr.add (⟨b1, 0, none⟩) 2) (.int .i64 n2) fun w12 =>
 StC w12 (Addr.add (⟨b1, 0, none⟩) 3) (.slice s1p s1l s1c) fun w13 =>
 LdI .i64 w13 (Addr.add (⟨b1, 0, none⟩) 1) fun n3 =>
 DivC 3
 (∀ k1 : Int -> World -> Prop,
 (∀ (y0 : Int) (w14 : World), S_law13_TreePlays_j3 R r1 r2p r2l r5 b0 k0 b1 n3 y0 w14 -> k1 y0 w14) ->
 LdI .i64 w13 (Addr.add (⟨b1, 0, none⟩) 2) fun n4 =>
 cond (decide (n4 ≥ 0))
 (LdI .i64 w13 (Addr.add (⟨b1, 0, none⟩) 2) fun n5 =>
 DivC 5
 (IdxC r3p r3l (Int.tmod n5 5) 1 fun a2 =>
 LdI .u64 w13 a2 fun n6 =>
 k1 n6 w13))
 (k1 0 w13)))
 (∃ (I2 : Int -> World -> Prop) (M2 : Int -> World -> Nat), I2 0 w8 /\
 ∀ (k5 : Int) (w30 : World), I2 k5 w30 ->
 S_law13_TreePlays_l0 R r1 r2p r2l b0 k5 w30 I2 M2)
def S_law13_TreePlays_l2 (l0p : Option Addr) (l0l : Nat) (R : Ending -> World -> Prop) (all0 : Int) (i0 : Int) (w1 : World) (I0 : Int -> Int -> World -> Prop) (M0 : Int -> Int -> World -> Nat) : Prop :=
 cond (decide (i0 < (Nat.cast l0l : Int)))
 (IdxC l0p l0l i0 4 fun a0 =>
 LdS w1 (Addr.add a0 3) fun _ s0l _ =>
 I0 (IntKind.wrap .i64 (all0 + (Nat.cast s0l : Int))) (IntKind.wrap .i64 (i0 + 1)) w1 /\ M0 (IntKind.wrap .i64 (all0 + (Nat.cast s0l : Int))) (IntKind.wrap .i64 (i0 + 1)) w1 < M0 all0 i0 w1)
 (cond (decide (all0 > 300000))
 (R (.returned (.bool true)) w1)
 (Calls Tryz.prog 9 #[.int .i64 262144, .int .i64 65536, .int .i64 3] w1 fun e1 w2 =>
 ∃ (r1 : Option Addr), ∃ (r2p : Option Addr), ∃ (r2l : Nat), ∃ (r2c : Nat), ∃ (r3p : Option Addr), ∃ (r3l : Nat), ∃ (r3c : Nat), ∃ (r4 : Bool), e1 = .returned (.tuple #[.pointer r1, .slice r2p r2l r2c, .slice r3p r3l r3c, .bool r4]) /\
 cond (!r4)
 (R (.returned (.bool false)) w2)
 (Calls Tryz.prog 21 #[.pointer r1] w2 fun e2 w3 =>
 ∃ (r5 : Option Addr), e2 = .returned (.pointer r5) /\
 NewC (.cells #[.slice none 0 0, .slice none 0 0, .slice none 0 0] 61 (0, 0)) w3 fun b0 w4 =>
 StC w4 (⟨b0, 0, none⟩) (.slice none 0 0) fun w5 =>
 StC w5 (Addr.add (⟨b0, 0, none⟩) 1) (.slice none 0 0) fun w6 =>
 StC w6 (Addr.add (⟨b0, 0, none⟩) 2) (.slice none 0 0) fun w7 =>
 ∃ (I1 : Int -> World -> Prop) (M1 : Int -> World -> Nat), I1 0 w7 /\
 ∀ (i1 : Int) (w8 : World), I1 i1 w8 ->
 S_law13_TreePlays_l1 l0p l0l R r1 r2p r2l r3p r3l r5 b0 i1 w8 I1 M1)))
def S_law13_TreePlays (l0p : Option Addr) (l0l : Nat) (l0c : Nat) (w : World) (R : Ending -> World -> Prop) : Prop :=
 Calls Tryz.prog 8 #[] w fun e0 w0 =>
 ∃ (r0 : Bool), e0 = .returned (.bool r0) /\
 cond (!r0)
 (R (.returned (.bool false)) w0)
 (cond (decide ((Nat.cast l0l : Int) > 200))
 (R (.returned (.bool true)) w0)
 (∃ (I0 : Int -> Int -> World -> Prop) (M0 : Int -> Int -> World -> Nat), I0 0 0 w0 /\
 ∀ (all0 : Int) (i0 : Int) (w1 : World), I0 all0 i0 w1 ->
 S_law13_TreePlays_l2 l0p l0l R all0 i0 w1 I0 M0))
def S_law13_TreePlays_ann : Ann := (.seq .leaf (.seq .leaf (.seq .leaf (.seq .leaf (.seq (.seq .leaf (.block (.loop [0] [(3, (.int .i64)), (4, (.int .i64))] .leaf))) (.seq .leaf (.seq .leaf (.seq .leaf (.seq .leaf (.seq .leaf (.seq (.seq .leaf (.block (.loop [0, 5, 6, 7, 9, 10] [(11, (.int .i64))] (.seq .leaf (.seq (.jblock [0, 5, 6, 7, 9, 10, 11] [] (.seq .leaf (.seq .leaf (.seq .leaf (.join [0, 5, 6, 7, 9, 10, 11, 12, 13] [(14, (.int .u64))] .leaf (.seq .leaf (.join [0, 5, 6, 7, 9, 10, 11, 12, 13, 14, 15] [] .leaf (.jblock [0, 5, 6, 7, 9, 10, 11] [] (.seq .leaf (.cond (.seq .anyl (.seq .leaf (.seq .anyl .leaf))) (.seq .leaf (.cond (.seq .anyl (.seq .leaf (.seq .anyl .leaf))) (.seq .leaf (.cond (.join [0, 5, 6, 7, 9, 10, 11, 12] [] .leaf .leaf) (.seq .leaf (.cond .leaf (.seq (.draw 10) .leaf))))))))) .leaf))))))) .leaf) .leaf))))) (.seq (.seq .leaf (.block (.loop [5, 6, 10] [(32, (.int .i64))] (.seq .leaf (.seq (.block (.seq (.draw 8) .leaf)) .leaf))))) .leaf))))))))))))
theorem S_law13_TreePlays_ok (l0p : Option Addr) (l0l : Nat) (l0c : Nat) (w : World) (R : Ending -> World -> Prop) (h : S_law13_TreePlays l0p l0l l0c w R) : Calls Tryz.prog 7 #[.slice l0p l0l l0c] w R :=
 calls_of_X (c := bodyOf Tryz.f7) (an := S_law13_TreePlays_ann) wide_ok Tryz.func7 (by kernel_rfl) (by kernel_rfl) (cast (by kernel_rfl) h)
def S_law13_awake (w : World) (R : Ending -> World -> Prop) : Prop :=
 Calls Tryz.prog 9 #[.int .i64 4000, .int .i64 400, .int .i64 1] w fun e0 w0 =>
 ∃ (r0 : Option Addr), ∃ (r1p : Option Addr), ∃ (r1l : Nat), ∃ (r1c : Nat), ∃ (r2p : Option Addr), ∃ (r2l : Nat), ∃ (r2c : Nat), ∃ (r3 : Bool), e0 = .returned (.tuple #[.pointer r0, .slice r1p r1l r1c, .slice r2p r2l r2c, .bool r3]) /\
 cond (!r3)
 (R (.returned (.bool false)) w0)
 (∃ C0 : World -> Prop, C0 (World.drew w0) /\
 IdxC r1p r1l 0 1 fun a0 =>
 LdIQ .u64 C0 a0 fun n0 =>
 IdxC r2p r2l 1 1 fun a1 =>
 LdIQ .u64 C0 a1 fun n1 =>
 NewC (.cells #[.int .u8 98] 5 (0, 0)) (World.drew w0) fun b0 w1 =>
 C0 w1 /\
 RunS Tryz.prog (convert 28 28 (.slice (some (⟨b0, 0, none⟩)) 1 1)) w1 fun s0p s0l s0c w2 =>
 C0 w2 /\
 Calls Tryz.prog 11 #[.pointer r0, .int .u64 n0, .slice s0p s0l s0c, .int .u64 n1] w2 fun e1 w3 =>
 ∃ (r4 : Int), ∃ (r5 : Bool), ∃ (r6 : Int), e1 = .returned (.tuple #[.int .u64 r4, .bool r5, .int .i64 r6]) /\
 IdxC r1p r1l 0 1 fun a2 =>
 LdI .u64 w3 a2 fun n2 =>
 NewC (.cells #[.int .u8 98] 5 (0, 0)) w3 fun b1 w4 =>
 RunS Tryz.prog (convert 28 28 (.slice (some (⟨b1, 0, none⟩)) 1 1)) w4 fun s1p s1l s1c w5 =>
 Calls Tryz.prog 15 #[.pointer r0, .int .u64 n2, .slice s1p s1l s1c] w5 fun e2 w6 =>
 ∃ (r7 : Int), ∃ (r8 : Bool), ∃ (r9 : Int), e2 = .returned (.tuple #[.int .u64 r7, .bool r8, .int .i64 r9]) /\
 cond (r6 == 0)
 (cond (!r5)
 (cond (r9 == 0)
 (cond r8
 (IdxC r2p r2l 1 1 fun a3 =>
 LdI .u64 w6 a3 fun n3 =>
 R (.returned (.bool (r7 == n3))) w6)
 (R (.returned (.bool false)) w6))
 (R (.returned (.bool false)) w6))
 (R (.returned (.bool false)) w6))
 (R (.returned (.bool false)) w6))
def S_law13_awake_ann : Ann := (.seq .leaf (.seq .leaf (.seq .leaf (.seq .anyl .leaf))))
theorem S_law13_awake_ok (w : World) (R : Ending -> World -> Prop) (h : S_law13_awake w R) : Calls Tryz.prog 8 #[] w R :=
 calls_of_X (c := bodyOf Tryz.f8) (an := S_law13_awake_ann) wide_ok Tryz.func8 (by kernel_rfl) (by kernel_rfl) (cast (by kernel_rfl) h)
def S_law13_ground_l0 (R : Ending -> World -> Prop) (r0 : Option Addr) (l0p : Option Addr) (l0l : Nat) (l0c : Nat) (r4 : Int) (x0p : Option Addr) (x0l : Nat) (x0c : Nat) (i1 : Int) (w8 : World) (I1 : Option Addr -> Nat -> Nat -> Int -> World -> Prop) (M1 : Option Addr -> Nat -> Nat -> Int -> World -> Nat) : Prop :=
 cond (decide (i1 < 5))
 (Calls Tryz.prog 37 #[.pointer r0, .int .i64 8, .int .i64 0, .int .i64 1] w8 fun e5 w9 =>
 ∃ (r7 : Int), ∃ (r8 : Int), e5 = .returned (.tuple #[.int .u64 r7, .int .i64 r8]) /\
 cond (r8 != 0)
 (R (.returned (.tuple #[.pointer none, .slice none 0 0, .slice none 0 0, .bool false])) w9)
 (Calls Tryz.prog 38 #[.pointer r0, .int .u64 r4, .int .i64 i1, .int .u64 r7] w9 fun e6 w10 =>
 ∃ (r9 : Int), e6 = .returned (.int .i64 r9) /\
 cond (r9 != 0)
 (R (.returned (.tuple #[.pointer none, .slice none 0 0, .slice none 0 0, .bool false])) w10)
 (Calls Tryz.prog 39 #[.pointer r0, .int .u64 r7, .int .i64 0, .int .u64 (IntKind.wrap .u64 i1)] w10 fun e7 w11 =>
 ∃ (r10 : Int), e7 = .returned (.int .i64 r10) /\
 cond (r10 != 0)
 (R (.returned (.tuple #[.pointer none, .slice none 0 0, .slice none 0 0, .bool false])) w11)
 (NewC (.cells #[.int .u64 r7] 32 (0, 0)) w11 fun b1 w12 =>
 RunS Tryz.prog (Builtin.append_ #[25, 25] 25 #[.slice x0p x0l x0c, .slice (some (⟨b1, 0, none⟩)) 1 1]) w12 fun s1p s1l s1c w13 =>
 I1 s1p s1l s1c (IntKind.wrap .i64 (i1 + 1)) w13 /\ M1 s1p s1l s1c (IntKind.wrap .i64 (i1 + 1)) w13 < M1 x0p x0l x0c i1 w8))))
 (R (.returned (.tuple #[.pointer r0, .slice l0p l0l l0c, .slice x0p x0l x0c, .bool true])) w8)
def S_law13_ground_l1 (trees0 : Int) (R : Ending -> World -> Prop) (r0 : Option Addr) (l0p : Option Addr) (l0l : Nat) (l0c : Nat) (i0 : Int) (w1 : World) (I0 : Option Addr -> Nat -> Nat -> Int -> World -> Prop) (M0 : Option Addr -> Nat -> Nat -> Int -> World -> Nat) : Prop :=
 cond (decide (i0 < trees0))
 (Calls Tryz.prog 35 #[.pointer r0] w1 fun e1 w2 =>
 ∃ (r1 : Int), ∃ (r2 : Int), e1 = .returned (.tuple #[.int .u64 r1, .int .i64 r2]) /\
 cond (r2 != 0)
 (R (.returned (.tuple #[.pointer none, .slice none 0 0, .slice none 0 0, .bool false])) w2)
 (Calls Tryz.prog 36 #[.pointer r0, .int .i64 i0, .int .u64 r1] w2 fun e2 w3 =>
 ∃ (r3 : Int), e2 = .returned (.int .i64 r3) /\
 cond (r3 != 0)
 (R (.returned (.tuple #[.pointer none, .slice none 0 0, .slice none 0 0, .bool false])) w3)
 (NewC (.cells #[.int .u64 r1] 32 (0, 0)) w3 fun b0 w4 =>
 RunS Tryz.prog (Builtin.append_ #[25, 25] 25 #[.slice l0p l0l l0c, .slice (some (⟨b0, 0, none⟩)) 1 1]) w4 fun s0p s0l s0c w5 =>
 I0 s0p s0l s0c (IntKind.wrap .i64 (i0 + 1)) w5 /\ M0 s0p s0l s0c (IntKind.wrap .i64 (i0 + 1)) w5 < M0 l0p l0l l0c i0 w1)))
 (Calls Tryz.prog 37 #[.pointer r0, .int .i64 9, .int .i64 5, .int .i64 5] w1 fun e3 w6 =>
 ∃ (r4 : Int), ∃ (r5 : Int), e3 = .returned (.tuple #[.int .u64 r4, .int .i64 r5]) /\
 cond (r5 != 0)
 (R (.returned (.tuple #[.pointer none, .slice none 0 0, .slice none 0 0, .bool false])) w6)
 (Calls Tryz.prog 36 #[.pointer r0, .int .i64 9, .int .u64 r4] w6 fun e4 w7 =>
 ∃ (r6 : Int), e4 = .returned (.int .i64 r6) /\
 cond (r6 != 0)
 (R (.returned (.tuple #[.pointer none, .slice none 0 0, .slice none 0 0, .bool false])) w7)
 (∃ (I1 : Option Addr -> Nat -> Nat -> Int -> World -> Prop) (M1 : Option Addr -> Nat -> Nat -> Int -> World -> Nat), I1 none 0 0 0 w7 /\
 ∀ (x0p : Option Addr) (x0l : Nat) (x0c : Nat) (i1 : Int) (w8 : World), I1 x0p x0l x0c i1 w8 ->
 S_law13_ground_l0 R r0 l0p l0l l0c r4 x0p x0l x0c i1 w8 I1 M1)))
def S_law13_ground (words0 : Int) (slots0 : Int) (trees0 : Int) (w : World) (R : Ending -> World -> Prop) : Prop :=
 Calls Tryz.prog 34 #[.int .i64 words0, .int .i64 slots0] w fun e0 w0 =>
 ∃ (r0 : Option Addr), e0 = .returned (.pointer r0) /\
 cond r0.isNone
 (R (.returned (.tuple #[.pointer none, .slice none 0 0, .slice none 0 0, .bool false])) w0)
 (∃ (I0 : Option Addr -> Nat -> Nat -> Int -> World -> Prop) (M0 : Option Addr -> Nat -> Nat -> Int -> World -> Nat), I0 none 0 0 0 w0 /\
 ∀ (l0p : Option Addr) (l0l : Nat) (l0c : Nat) (i0 : Int) (w1 : World), I0 l0p l0l l0c i0 w1 ->
 S_law13_ground_l1 trees0 R r0 l0p l0l l0c i0 w1 I0 M0)
def S_law13_ground_ann : Ann := (.seq .leaf (.seq .leaf (.seq .leaf (.seq .leaf (.seq (.seq .leaf (.block (.loop [2, 10] [(11, .slice), (12, (.int .i64))] .leaf))) (.seq .leaf (.seq .leaf (.seq .leaf (.seq (.seq .leaf (.block (.loop [10, 11, 15] [(17, .slice), (18, (.int .i64))] .leaf))) .leaf)))))))))
theorem S_law13_ground_ok (words0 : Int) (slots0 : Int) (trees0 : Int) (w : World) (R : Ending -> World -> Prop) (h : S_law13_ground words0 slots0 trees0 w R) : Calls Tryz.prog 9 #[.int .i64 words0, .int .i64 slots0, .int .i64 trees0] w R :=
 calls_of_X (c := bodyOf Tryz.f9) (an := S_law13_ground_ann) wide_ok Tryz.func9 (by kernel_rfl) (by kernel_rfl) (cast (by kernel_rfl) h)
def S_law13_put_j0 (at0 : Int) (i0 : Int) (w1 : World) (I0 : Int -> Int -> World -> Prop) (M0 : Int -> Int -> World -> Nat) (at1 : Int) (w2 : World) : Prop :=
 I0 at1 (IntKind.wrap .i64 (i0 + 1)) w2 /\ M0 at1 (IntKind.wrap .i64 (i0 + 1)) w2 < M0 at0 i0 w1
def S_law13_put_l0 (k0 : ByteArray) (x0 : Int) (R : Ending -> World -> Prop) (r0p : Option Addr) (r0l : Nat) (r0c : Nat) (r1 : Int) (r2 : Bool) (at0 : Int) (i0 : Int) (w1 : World) (I0 : Int -> Int -> World -> Prop) (M0 : Int -> Int -> World -> Nat) : Prop :=
 cond (decide (i0 < (Nat.cast r0l : Int)))
 (∀ k1 : Int -> World -> Prop,
 (∀ (at1 : Int) (w2 : World), S_law13_put_j0 at0 i0 w1 I0 M0 at1 w2 -> k1 at1 w2) ->
 IdxC r0p r0l i0 2 fun a0 =>
 LdStr w1 a0 fun t0 =>
 cond (Op.bytesLess t0.toList k0.toList)
 (k1 (IntKind.wrap .i64 (i0 + 1)) w1)
 (k1 at0 w1))
 (SlC r0p r0c 0 at0 (Nat.cast r0c : Int) 2 fun s0p s0l s0c =>
 RunS Tryz.prog (Builtin.append_ #[44, 44] 44 #[.slice none 0 0, .slice s0p s0l s0c]) w1 fun s1p s1l s1c w3 =>
 NewC (.cells #[.string k0, .int .u64 x0] 49 (0, 0)) w3 fun b0 w4 =>
 RunS Tryz.prog (Builtin.append_ #[44, 44] 44 #[.slice s1p s1l s1c, .slice (some (⟨b0, 0, none⟩)) 1 1]) w4 fun s2p s2l s2c w5 =>
 SlC r0p r0c at0 (Nat.cast r0l : Int) (Nat.cast r0c : Int) 2 fun s3p s3l s3c =>
 RunS Tryz.prog (Builtin.append_ #[44, 44] 44 #[.slice s2p s2l s2c, .slice s3p s3l s3c]) w5 fun s4p s4l s4c w6 =>
 R (.returned (.tuple #[.slice s4p s4l s4c, .int .u64 r1, .bool r2])) w6)
def S_law13_put (l0p : Option Addr) (l0l : Nat) (l0c : Nat) (k0 : ByteArray) (x0 : Int) (w : World) (R : Ending -> World -> Prop) : Prop :=
 Calls Tryz.prog 20 #[.slice l0p l0l l0c, .string k0] w fun e0 w0 =>
 ∃ (r0p : Option Addr), ∃ (r0l : Nat), ∃ (r0c : Nat), ∃ (r1 : Int), ∃ (r2 : Bool), e0 = .returned (.tuple #[.slice r0p r0l r0c, .int .u64 r1, .bool r2]) /\
 ∃ (I0 : Int -> Int -> World -> Prop) (M0 : Int -> Int -> World -> Nat), I0 0 0 w0 /\
 ∀ (at0 : Int) (i0 : Int) (w1 : World), I0 at0 i0 w1 ->
 S_law13_put_l0 k0 x0 R r0p r0l r0c r1 r2 at0 i0 w1 I0 M0
def S_law13_put_ann : Ann := (.seq .leaf (.seq .leaf (.seq .leaf (.seq (.seq .leaf (.block (.loop [1, 2, 9, 10, 11] [(12, (.int .i64)), (13, (.int .i64))] (.seq .leaf (.seq (.jblock [1, 2, 9, 10, 11, 13] [(12, (.int .i64))] .leaf .leaf) .leaf))))) .leaf))))
theorem S_law13_put_ok (l0p : Option Addr) (l0l : Nat) (l0c : Nat) (k0 : ByteArray) (x0 : Int) (w : World) (R : Ending -> World -> Prop) (h : S_law13_put l0p l0l l0c k0 x0 w R) : Calls Tryz.prog 18 #[.slice l0p l0l l0c, .string k0, .int .u64 x0] w R :=
 calls_of_X (c := bodyOf Tryz.f18) (an := S_law13_put_ann) wide_ok Tryz.func18 (by kernel_rfl) (by kernel_rfl) (cast (by kernel_rfl) h)
def S_law13_holds_j0 (at0p : Option Addr) (at0l : Nat) (at0c : Nat) (i0 : Int) (w3 : World) (I0 : Option Addr -> Nat -> Nat -> Int -> World -> Prop) (M0 : Option Addr -> Nat -> Nat -> Int -> World -> Nat) (at1p : Option Addr) (at1l : Nat) (at1c : Nat) (w13 : World) : Prop :=
 I0 at1p at1l at1c (IntKind.wrap .i64 (i0 + 1)) w13 /\ M0 at1p at1l at1c (IntKind.wrap .i64 (i0 + 1)) w13 < M0 at0p at0l at0c i0 w3
def S_law13_holds_l0 (h0 : Option Addr) (t0 : Int) (l0p : Option Addr) (l0l : Nat) (R : Ending -> World -> Prop) (at0p : Option Addr) (at0l : Nat) (at0c : Nat) (i0 : Int) (w3 : World) (I0 : Option Addr -> Nat -> Nat -> Int -> World -> Prop) (M0 : Option Addr -> Nat -> Nat -> Int -> World -> Nat) : Prop :=
 cond (decide (i0 <= (Nat.cast l0l : Int)))
 (∀ k0 : Option Addr -> Nat -> Nat -> World -> Prop,
 (∀ (at1p : Option Addr) (at1l : Nat) (at1c : Nat) (w13 : World), S_law13_holds_j0 at0p at0l at0c i0 w3 I0 M0 at1p at1l at1c w13 -> k0 at1p at1l at1c w13) ->
 Calls Tryz.prog 13 #[.pointer h0, .int .u64 t0, .slice at0p at0l at0c] w3 fun e2 w4 =>
 ∃ (r3p : Option Addr), ∃ (r3l : Nat), ∃ (r3c : Nat), ∃ (r4 : Int), ∃ (r5 : Bool), ∃ (r6 : Int), e2 = .returned (.tuple #[.slice r3p r3l r3c, .int .u64 r4, .bool r5, .int .i64 r6]) /\
 cond (r6 != 0)
 (R (.returned (.bool false)) w4)
 (cond (!(r5 == (decide (i0 < (Nat.cast l0l : Int)))))
 (R (.returned (.bool false)) w4)
 (cond r5
 (RunStr Tryz.prog (convert 28 9 (.slice r3p r3l r3c)) (World.drew w4) fun t1 =>
 IdxC l0p l0l i0 2 fun a0 =>
 LdStr (World.drew w4) a0 fun t2 =>
 cond (!(t1.toList == t2.toList))
 (R (.returned (.bool false)) (World.drew w4))
 (IdxC l0p l0l i0 2 fun a1 =>
 LdI .u64 (World.drew w4) (Addr.add a1 1) fun n0 =>
 cond (r4 != n0)
 (R (.returned (.bool false)) (World.drew w4))
 (NewC (.cells #[] 5 (0, 0)) (World.drew w4) fun b1 w5 =>
 RunS Tryz.prog (Builtin.append_ #[28, 28] 28 #[.slice (some (⟨b1, 0, none⟩)) 0 0, .slice r3p r3l r3c]) w5 fun s0p s0l s0c w6 =>
 NewC (.cells #[.int .u8 0] 5 (0, 0)) w6 fun b2 w7 =>
 RunS Tryz.prog (Builtin.append_ #[28, 28] 28 #[.slice s0p s0l s0c, .slice (some (⟨b2, 0, none⟩)) 1 1]) w7 fun s1p s1l s1c w8 =>
 k0 s1p s1l s1c w8)))
 (NewC (.cells #[] 5 (0, 0)) (World.drew w4) fun b3 w9 =>
 RunS Tryz.prog (Builtin.append_ #[28, 28] 28 #[.slice (some (⟨b3, 0, none⟩)) 0 0, .slice r3p r3l r3c]) w9 fun s2p s2l s2c w10 =>
 NewC (.cells #[.int .u8 0] 5 (0, 0)) w10 fun b4 w11 =>
 RunS Tryz.prog (Builtin.append_ #[28, 28] 28 #[.slice s2p s2l s2c, .slice (some (⟨b4, 0, none⟩)) 1 1]) w11 fun s3p s3l s3c w12 =>
 k0 s3p s3l s3c w12))))
 (R (.returned (.bool true)) w3)
def S_law13_holds (h0 : Option Addr) (t0 : Int) (l0p : Option Addr) (l0l : Nat) (l0c : Nat) (w : World) (R : Ending -> World -> Prop) : Prop :=
 Calls Tryz.prog 12 #[.pointer h0, .int .u64 t0] w fun e0 w0 =>
 ∃ (r0 : Int), ∃ (r1 : Int), e0 = .returned (.tuple #[.int .i64 r0, .int .i64 r1]) /\
 cond (r1 != 0)
 (R (.returned (.bool false)) w0)
 (cond (r0 != (Nat.cast l0l : Int))
 (R (.returned (.bool false)) w0)
 (Calls Tryz.prog 63 #[.pointer h0, .int .u64 t0] w0 fun e1 w1 =>
 ∃ (r2 : Int), e1 = .returned (.int .i64 r2) /\
 cond (r2 != 0)
 (R (.returned (.bool false)) w1)
 (NewC (.cells #[] 5 (0, 0)) w1 fun b0 w2 =>
 ∃ (I0 : Option Addr -> Nat -> Nat -> Int -> World -> Prop) (M0 : Option Addr -> Nat -> Nat -> Int -> World -> Nat), I0 (some (⟨b0, 0, none⟩)) 0 0 0 w2 /\
 ∀ (at0p : Option Addr) (at0l : Nat) (at0c : Nat) (i0 : Int) (w3 : World), I0 at0p at0l at0c i0 w3 ->
 S_law13_holds_l0 h0 t0 l0p l0l R at0p at0l at0c i0 w3 I0 M0)))
def S_law13_holds_ann : Ann := (.seq .leaf (.seq .leaf (.seq .leaf (.seq .leaf (.seq (.seq .leaf (.block (.loop [0, 1, 2] [(9, .slice), (10, (.int .i64))] (.seq .leaf (.seq (.jblock [0, 1, 2, 10] [(9, .slice)] (.seq .leaf (.seq .leaf (.seq (.seq (.draw 20) .leaf) .leaf))) .leaf) .leaf))))) .leaf)))))
theorem S_law13_holds_ok (h0 : Option Addr) (t0 : Int) (l0p : Option Addr) (l0l : Nat) (l0c : Nat) (w : World) (R : Ending -> World -> Prop) (h : S_law13_holds h0 t0 l0p l0l l0c w R) : Calls Tryz.prog 19 #[.pointer h0, .int .u64 t0, .slice l0p l0l l0c] w R :=
 calls_of_X (c := bodyOf Tryz.f19) (an := S_law13_holds_ann) wide_ok Tryz.func19 (by kernel_rfl) (by kernel_rfl) (cast (by kernel_rfl) h)
def S_law13_take_j0 (out0p : Option Addr) (out0l : Nat) (out0c : Nat) (old0 : Int) (had0 : Bool) (i0 : Int) (w0 : World) (I0 : Option Addr -> Nat -> Nat -> Int -> Bool -> Int -> World -> Prop) (M0 : Option Addr -> Nat -> Nat -> Int -> Bool -> Int -> World -> Nat) (out1p : Option Addr) (out1l : Nat) (out1c : Nat) (old1 : Int) (had1 : Bool) (w3 : World) : Prop :=
 I0 out1p out1l out1c old1 had1 (IntKind.wrap .i64 (i0 + 1)) w3 /\ M0 out1p out1l out1c old1 had1 (IntKind.wrap .i64 (i0 + 1)) w3 < M0 out0p out0l out0c old0 had0 i0 w0
def S_law13_take_l0 (l0p : Option Addr) (l0l : Nat) (k0 : ByteArray) (R : Ending -> World -> Prop) (out0p : Option Addr) (out0l : Nat) (out0c : Nat) (old0 : Int) (had0 : Bool) (i0 : Int) (w0 : World) (I0 : Option Addr -> Nat -> Nat -> Int -> Bool -> Int -> World -> Prop) (M0 : Option Addr -> Nat -> Nat -> Int -> Bool -> Int -> World -> Nat) : Prop :=
 cond (decide (i0 < (Nat.cast l0l : Int)))
 (∀ k1 : Option Addr -> Nat -> Nat -> Int -> Bool -> World -> Prop,
 (∀ (out1p : Option Addr) (out1l : Nat) (out1c : Nat) (old1 : Int) (had1 : Bool) (w3 : World), S_law13_take_j0 out0p out0l out0c old0 had0 i0 w0 I0 M0 out1p out1l out1c old1 had1 w3 -> k1 out1p out1l out1c old1 had1 w3) ->
 IdxC l0p l0l i0 2 fun a0 =>
 LdStr w0 a0 fun t0 =>
 cond (t0.toList == k0.toList)
 (IdxC l0p l0l i0 2 fun a1 =>
 LdI .u64 w0 (Addr.add a1 1) fun n0 =>
 k1 out0p out0l out0c n0 true w0)
 (IdxC l0p l0l i0 2 fun a2 =>
 LdStr w0 a2 fun t1 =>
 LdI .u64 w0 (Addr.add a2 1) fun n1 =>
 NewC (.cells #[.string t1, .int .u64 n1] 49 (0, 0)) w0 fun b0 w1 =>
 RunS Tryz.prog (Builtin.append_ #[44, 44] 44 #[.slice out0p out0l out0c, .slice (some (⟨b0, 0, none⟩)) 1 1]) w1 fun s0p s0l s0c w2 =>
 k1 s0p s0l s0c old0 had0 w2))
 (R (.returned (.tuple #[.slice out0p out0l out0c, .int .u64 old0, .bool had0])) w0)
def S_law13_take (l0p : Option Addr) (l0l : Nat) (l0c : Nat) (k0 : ByteArray) (w : World) (R : Ending -> World -> Prop) : Prop :=
 ∃ (I0 : Option Addr -> Nat -> Nat -> Int -> Bool -> Int -> World -> Prop) (M0 : Option Addr -> Nat -> Nat -> Int -> Bool -> Int -> World -> Nat), I0 none 0 0 0 false 0 w /\
 ∀ (out0p : Option Addr) (out0l : Nat) (out0c : Nat) (old0 : Int) (had0 : Bool) (i0 : Int) (w0 : World), I0 out0p out0l out0c old0 had0 i0 w0 ->
 S_law13_take_l0 l0p l0l k0 R out0p out0l out0c old0 had0 i0 w0 I0 M0
def S_law13_take_ann : Ann := (.seq .leaf (.seq .leaf (.seq .leaf (.seq .leaf (.seq (.seq .leaf (.block (.loop [0, 1] [(7, .slice), (8, (.int .u64)), (9, .bool), (10, (.int .i64))] (.seq .leaf (.seq (.jblock [0, 1, 10] [(7, .slice), (8, (.int .u64)), (9, .bool)] .leaf .leaf) .leaf))))) .leaf)))))
theorem S_law13_take_ok (l0p : Option Addr) (l0l : Nat) (l0c : Nat) (k0 : ByteArray) (w : World) (R : Ending -> World -> Prop) (h : S_law13_take l0p l0l l0c k0 w R) : Calls Tryz.prog 20 #[.slice l0p l0l l0c, .string k0] w R :=
 calls_of_X (c := bodyOf Tryz.f20) (an := S_law13_take_ann) wide_ok Tryz.func20 (by kernel_rfl) (by kernel_rfl) (cast (by kernel_rfl) h)
def S_law13_asks_j0 (l0p : Option Addr) (l0l : Nat) (t1 : ByteArray) (low0 : Int) (i0 : Int) (k0 : Int -> Int -> Int -> World -> Prop) (here1 : Int) (up1 : Int) (w5 : World) : Prop :=
 IdxC l0p l0l i0 2 fun a2 =>
 LdStr w5 a2 fun t4 =>
 cond (Op.bytesLess t4.toList t1.toList)
 (k0 here1 up1 i0 w5)
 (cond (t1.toList == (⟨#[]⟩ : ByteArray).toList)
 (k0 here1 up1 i0 w5)
 (k0 here1 up1 low0 w5))
def S_law13_asks_j1 (l0p : Option Addr) (l0l : Nat) (t1 : ByteArray) (up0 : Int) (low0 : Int) (i0 : Int) (k0 : Int -> Int -> Int -> World -> Prop) (here1 : Int) (w4 : World) : Prop :=
 ∀ k2 : Int -> World -> Prop,
 (∀ (up1 : Int) (w5 : World), S_law13_asks_j0 l0p l0l t1 low0 i0 k0 here1 up1 w5 -> k2 up1 w5) ->
 IdxC l0p l0l i0 2 fun a1 =>
 LdStr w4 a1 fun t3 =>
 cond (!(Op.bytesLess t3.toList t1.toList))
 (cond (decide (up0 < 0))
 (k2 i0 w4)
 (k2 up0 w4))
 (k2 up0 w4)
def S_law13_asks_j2 (here0 : Int) (up0 : Int) (low0 : Int) (i0 : Int) (w3 : World) (I0 : Int -> Int -> Int -> Int -> World -> Prop) (M0 : Int -> Int -> Int -> Int -> World -> Nat) (here2 : Int) (up2 : Int) (low1 : Int) (w6 : World) : Prop :=
 I0 here2 up2 low1 (IntKind.wrap .i64 (i0 + 1)) w6 /\ M0 here2 up2 low1 (IntKind.wrap .i64 (i0 + 1)) w6 < M0 here0 up0 low0 i0 w3
def S_law13_asks_j3 (l0p : Option Addr) (l0l : Nat) (R : Ending -> World -> Prop) (r7p : Option Addr) (r7l : Nat) (r7c : Nat) (r8 : Int) (r9 : Bool) (r10 : Int) (low0 : Int) (w8 : World) : Prop :=
 cond (r10 == 0)
 (cond (r9 == (decide (low0 ≥ 0)))
 (cond r9
 (RunStr Tryz.prog (convert 28 9 (.slice r7p r7l r7c)) (World.drew w8) fun t7 =>
 IdxC l0p l0l low0 2 fun a6 =>
 LdStr (World.drew w8) a6 fun t8 =>
 cond (t7.toList == t8.toList)
 (IdxC l0p l0l low0 2 fun a7 =>
 LdI .u64 (World.drew w8) (Addr.add a7 1) fun n2 =>
 cond (r8 == n2)
 (R (.returned (.bool true)) (World.drew w8))
 (cond (!r9)
 (cond ((Nat.cast r7l : Int) == 0)
 (R (.returned (.bool (r8 == 0))) (World.drew w8))
 (R (.returned (.bool false)) (World.drew w8)))
 (R (.returned (.bool false)) (World.drew w8))))
 (cond (!r9)
 (cond ((Nat.cast r7l : Int) == 0)
 (R (.returned (.bool (r8 == 0))) (World.drew w8))
 (R (.returned (.bool false)) (World.drew w8)))
 (R (.returned (.bool false)) (World.drew w8))))
 (cond (!r9)
 (cond ((Nat.cast r7l : Int) == 0)
 (R (.returned (.bool (r8 == 0))) (World.drew w8))
 (R (.returned (.bool false)) (World.drew w8)))
 (R (.returned (.bool false)) (World.drew w8))))
 (R (.returned (.bool false)) (World.drew w8)))
 (R (.returned (.bool false)) (World.drew w8))
def S_law13_asks_j4 (l0p : Option Addr) (l0l : Nat) (R : Ending -> World -> Prop) (r3p : Option Addr) (r3l : Nat) (r3c : Nat) (r4 : Int) (r5 : Bool) (r6 : Int) (r7p : Option Addr) (r7l : Nat) (r7c : Nat) (r8 : Int) (r9 : Bool) (r10 : Int) (up0 : Int) (low0 : Int) (w7 : World) : Prop :=
 ∀ k4 : World -> Prop,
 (∀ (w8 : World), S_law13_asks_j3 l0p l0l R r7p r7l r7c r8 r9 r10 low0 w8 -> k4 w8) ->
 cond (r6 != 0)
 (R (.returned (.bool false)) (World.drew w7))
 (cond (!(r5 == (decide (up0 ≥ 0))))
 (R (.returned (.bool false)) (World.drew w7))
 (cond r5
 (RunStr Tryz.prog (convert 28 9 (.slice r3p r3l r3c)) (World.drew w7) fun t5 =>
 IdxC l0p l0l up0 2 fun a4 =>
 LdStr (World.drew w7) a4 fun t6 =>
 cond (!(t5.toList == t6.toList))
 (R (.returned (.bool false)) (World.drew w7))
 (IdxC l0p l0l up0 2 fun a5 =>
 LdI .u64 (World.drew w7) (Addr.add a5 1) fun n1 =>
 cond (r4 != n1)
 (R (.returned (.bool false)) (World.drew w7))
 (cond (!r5)
 (cond ((Nat.cast r3l : Int) != 0)
 (R (.returned (.bool false)) (World.drew w7))
 (cond (r4 != 0)
 (R (.returned (.bool false)) (World.drew w7))
 (k4 (World.drew w7))))
 (k4 (World.drew w7)))))
 (cond (!r5)
 (cond ((Nat.cast r3l : Int) != 0)
 (R (.returned (.bool false)) (World.drew w7))
 (cond (r4 != 0)
 (R (.returned (.bool false)) (World.drew w7))
 (k4 (World.drew w7))))
 (k4 (World.drew w7)))))
def S_law13_asks_l0 (l0p : Option Addr) (l0l : Nat) (R : Ending -> World -> Prop) (r0 : Int) (r1 : Bool) (r2 : Int) (r3p : Option Addr) (r3l : Nat) (r3c : Nat) (r4 : Int) (r5 : Bool) (r6 : Int) (r7p : Option Addr) (r7l : Nat) (r7c : Nat) (r8 : Int) (r9 : Bool) (r10 : Int) (t1 : ByteArray) (here0 : Int) (up0 : Int) (low0 : Int) (i0 : Int) (w3 : World) (I0 : Int -> Int -> Int -> Int -> World -> Prop) (M0 : Int -> Int -> Int -> Int -> World -> Nat) : Prop :=
 cond (decide (i0 < (Nat.cast l0l : Int)))
 (∀ k0 : Int -> Int -> Int -> World -> Prop,
 (∀ (here2 : Int) (up2 : Int) (low1 : Int) (w6 : World), S_law13_asks_j2 here0 up0 low0 i0 w3 I0 M0 here2 up2 low1 w6 -> k0 here2 up2 low1 w6) ->
 ∀ k1 : Int -> World -> Prop,
 (∀ (here1 : Int) (w4 : World), S_law13_asks_j1 l0p l0l t1 up0 low0 i0 k0 here1 w4 -> k1 here1 w4) ->
 IdxC l0p l0l i0 2 fun a0 =>
 LdStr w3 a0 fun t2 =>
 cond (t2.toList == t1.toList)
 (k1 i0 w3)
 (k1 here0 w3))
 (∀ k3 : World -> Prop,
 (∀ (w7 : World), S_law13_asks_j4 l0p l0l R r3p r3l r3c r4 r5 r6 r7p r7l r7c r8 r9 r10 up0 low0 w7 -> k3 w7) ->
 cond (r2 != 0)
 (R (.returned (.bool false)) w3)
 (cond (!(r1 == (decide (here0 ≥ 0))))
 (R (.returned (.bool false)) w3)
 (cond r1
 (IdxC l0p l0l here0 2 fun a3 =>
 LdI .u64 w3 (Addr.add a3 1) fun n0 =>
 cond (r0 != n0)
 (R (.returned (.bool false)) w3)
 (cond (!r1)
 (cond (r0 != 0)
 (R (.returned (.bool false)) w3)
 (k3 w3))
 (k3 w3)))
 (cond (!r1)
 (cond (r0 != 0)
 (R (.returned (.bool false)) w3)
 (k3 w3))
 (k3 w3)))))
def S_law13_asks (h0 : Option Addr) (t0 : Int) (l0p : Option Addr) (l0l : Nat) (l0c : Nat) (key0p : Option Addr) (key0l : Nat) (key0c : Nat) (w : World) (R : Ending -> World -> Prop) : Prop :=
 Calls Tryz.prog 15 #[.pointer h0, .int .u64 t0, .slice key0p key0l key0c] w fun e0 w0 =>
 ∃ (r0 : Int), ∃ (r1 : Bool), ∃ (r2 : Int), e0 = .returned (.tuple #[.int .u64 r0, .bool r1, .int .i64 r2]) /\
 Calls Tryz.prog 13 #[.pointer h0, .int .u64 t0, .slice key0p key0l key0c] w0 fun e1 w1 =>
 ∃ (r3p : Option Addr), ∃ (r3l : Nat), ∃ (r3c : Nat), ∃ (r4 : Int), ∃ (r5 : Bool), ∃ (r6 : Int), e1 = .returned (.tuple #[.slice r3p r3l r3c, .int .u64 r4, .bool r5, .int .i64 r6]) /\
 Calls Tryz.prog 14 #[.pointer h0, .int .u64 t0, .slice key0p key0l key0c] w1 fun e2 w2 =>
 ∃ (r7p : Option Addr), ∃ (r7l : Nat), ∃ (r7c : Nat), ∃ (r8 : Int), ∃ (r9 : Bool), ∃ (r10 : Int), e2 = .returned (.tuple #[.slice r7p r7l r7c, .int .u64 r8, .bool r9, .int .i64 r10]) /\
 cond (decide ((Nat.cast key0l : Int) > 16384))
 (cond (r2 == 1)
 (cond (r6 == 1)
 (R (.returned (.bool (r10 == 1))) w2)
 (R (.returned (.bool false)) w2))
 (R (.returned (.bool false)) w2))
 (RunStr Tryz.prog (convert 28 9 (.slice key0p key0l key0c)) w2 fun t1 =>
 ∃ (I0 : Int -> Int -> Int -> Int -> World -> Prop) (M0 : Int -> Int -> Int -> Int -> World -> Nat), I0 (-1) (-1) (-1) 0 w2 /\
 ∀ (here0 : Int) (up0 : Int) (low0 : Int) (i0 : Int) (w3 : World), I0 here0 up0 low0 i0 w3 ->
 S_law13_asks_l0 l0p l0l R r0 r1 r2 r3p r3l r3c r4 r5 r6 r7p r7l r7c r8 r9 r10 t1 here0 up0 low0 i0 w3 I0 M0)
def S_law13_asks_ann : Ann := (.seq .leaf (.seq .leaf (.seq .leaf (.seq .leaf (.seq .leaf (.seq .leaf (.seq .leaf (.seq .leaf (.seq .leaf (.seq (.seq .leaf (.block (.loop [2, 9, 10, 11, 12, 13, 14, 15, 16, 17, 18, 19, 20] [(21, (.int .i64)), (22, (.int .i64)), (23, (.int .i64)), (24, (.int .i64))] (.seq .leaf (.seq (.jblock [2, 9, 10, 11, 12, 13, 14, 15, 16, 17, 18, 19, 20, 24] [(21, (.int .i64)), (22, (.int .i64)), (23, (.int .i64))] (.join [2, 9, 10, 11, 12, 13, 14, 15, 16, 17, 18, 19, 20, 22, 23, 24] [(21, (.int .i64))] .leaf (.join [2, 9, 10, 11, 12, 13, 14, 15, 16, 17, 18, 19, 20, 21, 23, 24] [(22, (.int .i64))] .leaf .leaf)) .leaf) .leaf))))) (.join [2, 12, 13, 14, 15, 16, 17, 18, 19, 22, 23] [] .leaf (.join [2, 16, 17, 18, 19, 23] [] (.seq (.draw 43) .leaf) (.seq (.draw 44) .leaf)))))))))))))
theorem S_law13_asks_ok (h0 : Option Addr) (t0 : Int) (l0p : Option Addr) (l0l : Nat) (l0c : Nat) (key0p : Option Addr) (key0l : Nat) (key0c : Nat) (w : World) (R : Ending -> World -> Prop) (h : S_law13_asks h0 t0 l0p l0l l0c key0p key0l key0c w R) : Calls Tryz.prog 32 #[.pointer h0, .int .u64 t0, .slice l0p l0l l0c, .slice key0p key0l key0c] w R :=
 calls_of_X (c := bodyOf Tryz.f32) (an := S_law13_asks_ann) wide_ok Tryz.func32 (by kernel_rfl) (by kernel_rfl) (cast (by kernel_rfl) h)
def S_law9_Fresh (words0 : Int) (slots0 : Int) (w : World) (R : Ending -> World -> Prop) : Prop :=
 Calls Tryz.prog 84 #[.int .i64 words0, .int .i64 slots0] w fun e0 w0 =>
 ∃ (r0 : Option Addr), ∃ (r1 : Int), e0 = .returned (.tuple #[.pointer r0, .int .i64 r1]) /\
 cond (r1 != 0)
 (R (.returned (.pointer none)) w0)
 (R (.returned (.pointer r0)) w0)
def S_law9_Fresh_ann : Ann := .leaf
theorem S_law9_Fresh_ok (words0 : Int) (slots0 : Int) (w : World) (R : Ending -> World -> Prop) (h : S_law9_Fresh words0 slots0 w R) : Calls Tryz.prog 34 #[.int .i64 words0, .int .i64 slots0] w R :=
 calls_of_X (c := bodyOf Tryz.f34) (an := S_law9_Fresh_ann) wide_ok Tryz.func34 (by kernel_rfl) (by kernel_rfl) (cast (by kernel_rfl) h)
end Go.Proofs.YtpicofkhioalkaaGreat
