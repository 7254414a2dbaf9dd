/- The second reading of functions of this seat's program, written out by a program (gen.py). -/
import Derived.Test.YtpicofkhioalkaaGreatLw
import Derived.KernelRfl
set_option maxRecDepth 100000
namespace Go.Proofs.YtpicofkhioalkaaGreat
open Go Go.Lw
def Ld_16_uint64 (w : World) (a : Addr) (K : Int -> Int -> Int -> Int -> Int -> Int -> Int -> Int -> Int -> Int -> Int -> Int -> Int -> Int -> Int -> Int -> Prop) : Prop := LdI .u64 w a fun n0 => LdI .u64 w (Addr.add a 1) fun n1 => LdI .u64 w (Addr.add a 2) fun n2 => LdI .u64 w (Addr.add a 3) fun n3 => LdI .u64 w (Addr.add a 4) fun n4 => LdI .u64 w (Addr.add a 5) fun n5 => LdI .u64 w (Addr.add a 6) fun n6 => LdI .u64 w (Addr.add a 7) fun n7 => LdI .u64 w (Addr.add a 8) fun n8 => LdI .u64 w (Addr.add a 9) fun n9 => LdI .u64 w (Addr.add a 10) fun n10 => LdI .u64 w (Addr.add a 11) fun n11 => LdI .u64 w (Addr.add a 12) fun n12 => LdI .u64 w (Addr.add a 13) fun n13 => LdI .u64 w (Addr.add a 14) fun n14 => LdI .u64 w (Addr.add a 15) fun n15 => K n0 n1 n2 n3 n4 n5 n6 n7 n8 n9 n10 n11 n12 n13 n14 n15
theorem wide_ok : Tryz.prog.follows .mixedOrders = true := by kernel_rfl
def S_heap_Heap_Arena (h0 : Option Addr) (w : World) (R : Ending -> World -> Prop) : Prop :=
 onSome h0 fun a0 =>
 LdP w a0 fun p0 =>
 R (.returned (.pointer p0)) w
def S_heap_Heap_Arena_ann : Ann := .leaf
theorem S_heap_Heap_Arena_ok (h0 : Option Addr) (w : World) (R : Ending -> World -> Prop) (h : S_heap_Heap_Arena h0 w R) : Calls Tryz.prog 22 #[.pointer h0] w R :=
 calls_of_X (c := bodyOf Tryz.f22) (an := S_heap_Heap_Arena_ann) wide_ok Tryz.func22 (by kernel_rfl) (by kernel_rfl) (cast (by kernel_rfl) h)
def S_arena_Arena_Free (a0 : Option Addr) (w : World) (R : Ending -> World -> Prop) : Prop :=
 onSome a0 fun a1 =>
 LdS (World.drew w) a1 fun _ s0l _ =>
 onSome a0 fun a2 =>
 LdI .i64 (World.drew w) (Addr.add a2 2) fun n0 =>
 R (.returned (.int .i64 (IntKind.wrap .i64 ((Nat.cast s0l : Int) - n0)))) (World.drew w)
def S_arena_Arena_Free_ann : Ann := (.seq .leaf (.seq (.draw 11) .leaf))
theorem S_arena_Arena_Free_ok (a0 : Option Addr) (w : World) (R : Ending -> World -> Prop) (h : S_arena_Arena_Free a0 w R) : Calls Tryz.prog 23 #[.pointer a0] w R :=
 calls_of_X (c := bodyOf Tryz.f23) (an := S_arena_Arena_Free_ann) wide_ok Tryz.func23 (by kernel_rfl) (by kernel_rfl) (cast (by kernel_rfl) h)
def S_heap_Heap_Table (h0 : Option Addr) (w : World) (R : Ending -> World -> Prop) : Prop :=
 onSome h0 fun a0 =>
 LdP w (Addr.add a0 1) fun p0 =>
 R (.returned (.pointer p0)) w
def S_heap_Heap_Table_ann : Ann := .leaf
theorem S_heap_Heap_Table_ok (h0 : Option Addr) (w : World) (R : Ending -> World -> Prop) (h : S_heap_Heap_Table h0 w R) : Calls Tryz.prog 24 #[.pointer h0] w R :=
 calls_of_X (c := bodyOf Tryz.f24) (an := S_heap_Heap_Table_ann) wide_ok Tryz.func24 (by kernel_rfl) (by kernel_rfl) (cast (by kernel_rfl) h)
def S_handle_Table_Slots (t0 : Option Addr) (w : World) (R : Ending -> World -> Prop) : Prop :=
 onSome t0 fun a0 =>
 LdS w a0 fun _ s0l _ =>
 R (.returned (.int .i64 (Nat.cast s0l : Int))) w
def S_handle_Table_Slots_ann : Ann := .leaf
theorem S_handle_Table_Slots_ok (t0 : Option Addr) (w : World) (R : Ending -> World -> Prop) (h : S_handle_Table_Slots t0 w R) : Calls Tryz.prog 25 #[.pointer t0] w R :=
 calls_of_X (c := bodyOf Tryz.f25) (an := S_handle_Table_Slots_ann) wide_ok Tryz.func25 (by kernel_rfl) (by kernel_rfl) (cast (by kernel_rfl) h)
def S_handle_Table_Count (t0 : Option Addr) (w : World) (R : Ending -> World -> Prop) : Prop :=
 onSome t0 fun a0 =>
 LdI .i64 w (Addr.add a0 3) fun n0 =>
 R (.returned (.int .i64 n0)) w
def S_handle_Table_Count_ann : Ann := .leaf
theorem S_handle_Table_Count_ok (t0 : Option Addr) (w : World) (R : Ending -> World -> Prop) (h : S_handle_Table_Count t0 w R) : Calls Tryz.prog 26 #[.pointer t0] w R :=
 calls_of_X (c := bodyOf Tryz.f26) (an := S_handle_Table_Count_ann) wide_ok Tryz.func26 (by kernel_rfl) (by kernel_rfl) (cast (by kernel_rfl) h)
def S_arena_Arena_Top (a0 : Option Addr) (w : World) (R : Ending -> World -> Prop) : Prop :=
 onSome a0 fun a1 =>
 LdI .i64 w (Addr.add a1 2) fun n0 =>
 R (.returned (.int .i64 n0)) w
def S_arena_Arena_Top_ann : Ann := .leaf
theorem S_arena_Arena_Top_ok (a0 : Option Addr) (w : World) (R : Ending -> World -> Prop) (h : S_arena_Arena_Top a0 w R) : Calls Tryz.prog 28 #[.pointer a0] w R :=
 calls_of_X (c := bodyOf Tryz.f28) (an := S_arena_Arena_Top_ann) wide_ok Tryz.func28 (by kernel_rfl) (by kernel_rfl) (cast (by kernel_rfl) h)
def S_heap_Heap_Check_l0 (h0 : Option Addr) (R : Ending -> World -> Prop) (n22 : Int) (w26 : World) (I3 : Int -> World -> Prop) (M3 : Int -> World -> Nat) (n23 : Int) (r28 : Int) (n24 : Int) (w28 : World) (I4 : Int -> World -> Prop) (M4 : Int -> World -> Nat) : Prop :=
 cond (decide (n24 < r28))
 (Calls Tryz.prog 83 #[.pointer h0, .int .u64 n23, .int .i64 n24] w28 fun e12 w29 =>
 ∃ (r31 : Int), ∃ (r32 : Int), e12 = .returned (.tuple #[.int .u64 r31, .int .i64 r32]) /\
 Calls Tryz.prog 80 #[.pointer h0, .int .u64 r31] w29 fun e13 w30 =>
 ∃ (r33 : Int), e13 = .returned (.int .i64 r33) /\
 cond (r33 != 0)
 (R (.returned (.int .i64 4)) w30)
 (I4 (IntKind.wrap .i64 (n24 + 1)) w30 /\ M4 (IntKind.wrap .i64 (n24 + 1)) w30 < M4 n24 w28))
 (I3 (IntKind.wrap .i64 (n22 + 1)) w28 /\ M3 (IntKind.wrap .i64 (n22 + 1)) w28 < M3 n22 w26)
def S_heap_Heap_Check_l1 (h0 : Option Addr) (R : Ending -> World -> Prop) (r25p : Option Addr) (r25l : Nat) (n22 : Int) (w26 : World) (I3 : Int -> World -> Prop) (M3 : Int -> World -> Nat) : Prop :=
 cond (decide (n22 < (Nat.cast r25l : Int)))
 (IdxC r25p r25l n22 1 fun a10 =>
 LdI .u64 w26 a10 fun n23 =>
 Calls Tryz.prog 82 #[.pointer h0, .int .u64 n23] w26 fun e11 w27 =>
 ∃ (r27 : Int), ∃ (r28 : Int), ∃ (r29 : Int), ∃ (r30 : Int), e11 = .returned (.tuple #[.int .i64 r27, .int .i64 r28, .int .i64 r29, .int .i64 r30]) /\
 ∃ (I4 : Int -> World -> Prop) (M4 : Int -> World -> Nat), I4 0 w27 /\
 ∀ (n24 : Int) (w28 : World), I4 n24 w28 ->
 S_heap_Heap_Check_l0 h0 R n22 w26 I3 M3 n23 r28 n24 w28 I4 M4)
 (R (.returned (.int .i64 0)) w26)
def S_heap_Heap_Check_l2 (h0 : Option Addr) (R : Ending -> World -> Prop) (n4 : Int) (n5 : Int) (n6 : Int) (n7 : Int) (n8 : Int) (n9 : Int) (n10 : Int) (n11 : Int) (n12 : Int) (n13 : Int) (n14 : Int) (n15 : Int) (n16 : Int) (n17 : Int) (n18 : Int) (n19 : Int) (n20 : Int) (w23 : World) (I2 : Int -> World -> Prop) (M2 : Int -> World -> Nat) : Prop :=
 cond (decide (n20 < 16))
 (IdxI .u64 #[.int .u64 n4, .int .u64 n5, .int .u64 n6, .int .u64 n7, .int .u64 n8, .int .u64 n9, .int .u64 n10, .int .u64 n11, .int .u64 n12, .int .u64 n13, .int .u64 n14, .int .u64 n15, .int .u64 n16, .int .u64 n17, .int .u64 n18, .int .u64 n19] 16 n20 fun n21 =>
 Calls Tryz.prog 80 #[.pointer h0, .int .u64 n21] w23 fun e9 w24 =>
 ∃ (r24 : Int), e9 = .returned (.int .i64 r24) /\
 cond (r24 != 0)
 (R (.returned (.int .i64 4)) w24)
 (I2 (IntKind.wrap .i64 (n20 + 1)) w24 /\ M2 (IntKind.wrap .i64 (n20 + 1)) w24 < M2 n20 w23))
 (Calls Tryz.prog 81 #[.pointer h0] w23 fun e10 w25 =>
 ∃ (r25p : Option Addr), ∃ (r25l : Nat), ∃ (r25c : Nat), ∃ (r26 : Option Nat), e10 = .returned (.tuple #[.slice r25p r25l r25c, .map r26]) /\
 ∃ (I3 : Int -> World -> Prop) (M3 : Int -> World -> Nat), I3 0 w25 /\
 ∀ (n22 : Int) (w26 : World), I3 n22 w26 ->
 S_heap_Heap_Check_l1 h0 R r25p r25l n22 w26 I3 M3)
def S_heap_Heap_Check_l3 (h0 : Option Addr) (R : Ending -> World -> Prop) (at0 : Int) (w11 : World) (I1 : Int -> World -> Prop) (M1 : Int -> World -> Nat) : Prop :=
 onSome h0 fun a4 =>
 LdP w11 a4 fun p3 =>
 Calls Tryz.prog 28 #[.pointer p3] w11 fun e4 w12 =>
 ∃ (r11 : Int), e4 = .returned (.int .i64 r11) /\
 cond (at0 != r11)
 (onSome h0 fun a5 =>
 LdP w12 a5 fun p4 =>
 Calls Tryz.prog 77 #[.pointer p4, .int .i64 at0] w12 fun e5 w13 =>
 ∃ (r12 : Int), ∃ (r13 : Int), ∃ (r14 : Int), ∃ (r15 : Bool), ∃ (r16 : Int), ∃ (r17 : Int), e5 = .returned (.tuple #[.agg #[.int .i64 r12, .int .i64 r13, .int .i64 r14, .bool r15, .int .i64 r16], .int .i64 r17]) /\
 NewC (.cells #[.int .i64 0, .int .i64 0, .int .i64 0, .bool false, .int .i64 0] 115 (0, 0)) w13 fun b1 w14 =>
 StC w14 (⟨b1, 0, none⟩) (.int .i64 r12) fun w15 =>
 StC w15 (Addr.add (⟨b1, 0, none⟩) 1) (.int .i64 r13) fun w16 =>
 StC w16 (Addr.add (⟨b1, 0, none⟩) 2) (.int .i64 r14) fun w17 =>
 StC w17 (Addr.add (⟨b1, 0, none⟩) 3) (.bool r15) fun w18 =>
 StC w18 (Addr.add (⟨b1, 0, none⟩) 4) (.int .i64 r16) fun w19 =>
 cond (r17 != 0)
 (R (.returned (.int .i64 4)) w19)
 (∃ C0 : World -> Prop, C0 (World.drew w19) /\
 onSome h0 fun a6 =>
 LdPQ C0 (Addr.add a6 1) fun p5 =>
 LdIQ .i64 C0 (Addr.add (⟨b1, 0, none⟩) 4) fun n3 =>
 Calls Tryz.prog 78 #[.pointer p5, .int .i64 n3] (World.drew w19) fun e6 w20 =>
 ∃ (r18 : Int), ∃ (r19 : Int), e6 = .returned (.tuple #[.int .u64 r18, .int .i64 r19]) /\
 cond (r19 != 0)
 (R (.returned (.int .i64 4)) w20)
 (onSome h0 fun a7 =>
 LdP w20 (Addr.add a7 1) fun p6 =>
 Calls Tryz.prog 44 #[.pointer p6, .int .u64 r18] w20 fun e7 w21 =>
 ∃ (r20 : Int), ∃ (r21 : Int), e7 = .returned (.tuple #[.int .i64 r20, .int .i64 r21]) /\
 cond (r20 != at0)
 (R (.returned (.int .i64 4)) w21)
 (onSome h0 fun a8 =>
 LdP w21 a8 fun p7 =>
 Calls Tryz.prog 79 #[.pointer p7, .int .i64 at0] w21 fun e8 w22 =>
 ∃ (r22 : Int), ∃ (r23 : Int), e8 = .returned (.tuple #[.int .i64 r22, .int .i64 r23]) /\
 cond (r23 != 0)
 (R (.returned (.int .i64 4)) w22)
 (I1 r22 w22 /\ M1 r22 w22 < M1 at0 w11)))))
 (onSome h0 fun a9 =>
 Ld_16_uint64 w12 (Addr.add a9 2) fun n4 n5 n6 n7 n8 n9 n10 n11 n12 n13 n14 n15 n16 n17 n18 n19 =>
 ∃ (I2 : Int -> World -> Prop) (M2 : Int -> World -> Nat), I2 0 w12 /\
 ∀ (n20 : Int) (w23 : World), I2 n20 w23 ->
 S_heap_Heap_Check_l2 h0 R n4 n5 n6 n7 n8 n9 n10 n11 n12 n13 n14 n15 n16 n17 n18 n19 n20 w23 I2 M2)
def S_heap_Heap_Check_l4 (h0 : Option Addr) (R : Ending -> World -> Prop) (r0p : Option Addr) (r0l : Nat) (n0 : Int) (w1 : World) (I0 : Int -> World -> Prop) (M0 : Int -> World -> Nat) : Prop :=
 cond (decide (n0 < (Nat.cast r0l : Int)))
 (IdxC r0p r0l n0 1 fun a1 =>
 LdI .u64 w1 a1 fun n1 =>
 onSome h0 fun a2 =>
 LdP w1 (Addr.add a2 1) fun p1 =>
 Calls Tryz.prog 74 #[.pointer p1, .int .u64 n1] w1 fun e1 w2 =>
 ∃ (r1 : Int), ∃ (r2 : Int), e1 = .returned (.tuple #[.int .i64 r1, .int .i64 r2]) /\
 Calls Tryz.prog 75 #[.pointer h0, .int .u64 n1] w2 fun e2 w3 =>
 ∃ (r3 : Int), ∃ (r4 : Int), ∃ (r5 : Int), ∃ (r6 : Int), ∃ (r7 : Bool), ∃ (r8 : Int), ∃ (r9 : Int), e2 = .returned (.tuple #[.int .i64 r3, .agg #[.int .i64 r4, .int .i64 r5, .int .i64 r6, .bool r7, .int .i64 r8], .int .i64 r9]) /\
 NewC (.cells #[.int .i64 0, .int .i64 0, .int .i64 0, .bool false, .int .i64 0] 115 (0, 0)) w3 fun b0 w4 =>
 StC w4 (⟨b0, 0, none⟩) (.int .i64 r4) fun w5 =>
 StC w5 (Addr.add (⟨b0, 0, none⟩) 1) (.int .i64 r5) fun w6 =>
 StC w6 (Addr.add (⟨b0, 0, none⟩) 2) (.int .i64 r6) fun w7 =>
 StC w7 (Addr.add (⟨b0, 0, none⟩) 3) (.bool r7) fun w8 =>
 StC w8 (Addr.add (⟨b0, 0, none⟩) 4) (.int .i64 r8) fun w9 =>
 cond (r9 != 0)
 (R (.returned (.int .i64 4)) w9)
 (LdI .i64 w9 (Addr.add (⟨b0, 0, none⟩) 4) fun n2 =>
 cond (n2 != r1)
 (R (.returned (.int .i64 4)) w9)
 (I0 (IntKind.wrap .i64 (n0 + 1)) w9 /\ M0 (IntKind.wrap .i64 (n0 + 1)) w9 < M0 n0 w1)))
 (onSome h0 fun a3 =>
 LdP w1 a3 fun p2 =>
 Calls Tryz.prog 76 #[.pointer p2] w1 fun e3 w10 =>
 ∃ (r10 : Int), e3 = .returned (.int .i64 r10) /\
 ∃ (I1 : Int -> World -> Prop) (M1 : Int -> World -> Nat), I1 r10 w10 /\
 ∀ (at0 : Int) (w11 : World), I1 at0 w11 ->
 S_heap_Heap_Check_l3 h0 R at0 w11 I1 M1)
def S_heap_Heap_Check (h0 : Option Addr) (w : World) (R : Ending -> World -> Prop) : Prop :=
 onSome h0 fun a0 =>
 LdP w (Addr.add a0 1) fun p0 =>
 Calls Tryz.prog 73 #[.pointer p0] w fun e0 w0 =>
 ∃ (r0p : Option Addr), ∃ (r0l : Nat), ∃ (r0c : Nat), e0 = .returned (.slice r0p r0l r0c) /\
 ∃ (I0 : Int -> World -> Prop) (M0 : Int -> World -> Nat), I0 0 w0 /\
 ∀ (n0 : Int) (w1 : World), I0 n0 w1 ->
 S_heap_Heap_Check_l4 h0 R r0p r0l n0 w1 I0 M0
def S_heap_Heap_Check_ann : Ann := (.seq .leaf (.seq (.seq .leaf (.block (.loop [0, 33, 34] [(35, (.int .i64))] .leaf))) (.seq (.seq .leaf (.block (.loop [0] [(10, (.int .i64))] (.seq .leaf (.block (.seq .leaf (.seq .leaf (.seq .anyl .leaf)))))))) (.seq (.seq .leaf (.block (.loop [0, 125] [(126, (.int .i64))] .leaf))) (.seq .leaf (.seq (.seq .leaf (.block (.loop [0, 139, 140] [(141, (.int .i64))] (.seq .leaf (.seq .leaf (.seq (.block (.seq .leaf (.seq .leaf (.seq .leaf (.block (.loop [0, 21, 139, 140, 141, 153] [(154, (.int .i64))] .leaf)))))) .leaf)))))) .leaf))))))
theorem S_heap_Heap_Check_ok (h0 : Option Addr) (w : World) (R : Ending -> World -> Prop) (h : S_heap_Heap_Check h0 w R) : Calls Tryz.prog 33 #[.pointer h0] w R :=
 calls_of_X (c := bodyOf Tryz.f33) (an := S_heap_Heap_Check_ann) wide_ok Tryz.func33 (by kernel_rfl) (by kernel_rfl) (cast (by kernel_rfl) h)
def S_heap_Heap_SetRoot (h0 : Option Addr) (i0 : Int) (x0 : Int) (w : World) (R : Ending -> World -> Prop) : Prop :=
 cond (decide (i0 < 0))
 (R (.returned (.int .i64 1)) w)
 (cond (decide (i0 ≥ 16))
 (R (.returned (.int .i64 1)) w)
 (Calls Tryz.prog 80 #[.pointer h0, .int .u64 x0] w fun e0 w0 =>
 ∃ (r0 : Int), e0 = .returned (.int .i64 r0) /\
 cond (r0 != 0)
 (R (.returned (.int .i64 r0)) w0)
 (onSome h0 fun a0 =>
 IdxF 16 i0
 (StC w0 (Addr.add (Addr.add a0 2) (Int.toNat i0 * 1)) (.int .u64 x0) fun w1 =>
 Calls Tryz.prog 85 #[.pointer h0, .int .u64 x0] w1 fun e1 w2 =>
 e1 = .returned (.tuple #[]) /\
 R (.returned (.int .i64 0)) w2))))
def S_heap_Heap_SetRoot_ann : Ann := .leaf
theorem S_heap_Heap_SetRoot_ok (h0 : Option Addr) (i0 : Int) (x0 : Int) (w : World) (R : Ending -> World -> Prop) (h : S_heap_Heap_SetRoot h0 i0 x0 w R) : Calls Tryz.prog 36 #[.pointer h0, .int .i64 i0, .int .u64 x0] w R :=
 calls_of_X (c := bodyOf Tryz.f36) (an := S_heap_Heap_SetRoot_ann) wide_ok Tryz.func36 (by kernel_rfl) (by kernel_rfl) (cast (by kernel_rfl) h)
def S_heap_Heap_Make (h0 : Option Addr) (tag0 : Int) (refs0 : Int) (size0 : Int) (w : World) (R : Ending -> World -> Prop) : Prop :=
 Calls Tryz.prog 86 #[.int .i64 tag0, .int .i64 refs0, .int .i64 size0, .int .i64 0] w fun e0 w0 =>
 ∃ (r0 : Int), e0 = .returned (.int .i64 r0) /\
 cond (r0 != 0)
 (R (.returned (.tuple #[.int .u64 0, .int .i64 1])) w0)
 (∃ C0 : World -> Prop, C0 (World.drew w0) /\
 onSome h0 fun a0 =>
 LdPQ C0 a0 fun p0 =>
 Calls Tryz.prog 23 #[.pointer p0] (World.drew w0) fun e1 w1 =>
 ∃ (r1 : Int), e1 = .returned (.int .i64 r1) /\
 C0 w1 /\
 cond (decide (r1 < (IntKind.wrap .i64 (size0 + 1))))
 (R (.returned (.tuple #[.int .u64 0, .int .i64 5])) w1)
 (onSome h0 fun a1 =>
 LdPQ C0 (Addr.add a1 1) fun p1 =>
 onSome h0 fun a2 =>
 LdPQ C0 (Addr.add a2 1) fun p2 =>
 Calls Tryz.prog 26 #[.pointer p1] w1 fun e2 w2 =>
 ∃ (r2 : Int), e2 = .returned (.int .i64 r2) /\
 C0 w2 /\
 Calls Tryz.prog 25 #[.pointer p2] w2 fun e3 w3 =>
 ∃ (r3 : Int), e3 = .returned (.int .i64 r3) /\
 C0 w3 /\
 cond (r2 == r3)
 (R (.returned (.tuple #[.int .u64 0, .int .i64 5])) w3)
 (∃ C1 : World -> Prop, C1 (World.drew w3) /\
 onSome h0 fun a3 =>
 LdPQ C1 (Addr.add a3 1) fun p3 =>
 onSome h0 fun a4 =>
 LdPQ C1 a4 fun p4 =>
 Calls Tryz.prog 28 #[.pointer p4] (World.drew w3) fun e4 w4 =>
 ∃ (r4 : Int), e4 = .returned (.int .i64 r4) /\
 C1 w4 /\
 Calls Tryz.prog 87 #[.pointer p3, .int .i64 r4] w4 fun e5 w5 =>
 ∃ (r5 : Int), ∃ (r6 : Int), e5 = .returned (.tuple #[.int .u64 r5, .int .i64 r6]) /\
 C1 w5 /\
 cond (r6 != 0)
 (R (.returned (.tuple #[.int .u64 0, .int .i64 r6])) w5)
 (onSome h0 fun a5 =>
 LdP w5 (Addr.add a5 1) fun p5 =>
 Calls Tryz.prog 74 #[.pointer p5, .int .u64 r5] w5 fun e6 w6 =>
 ∃ (r7 : Int), ∃ (r8 : Int), e6 = .returned (.tuple #[.int .i64 r7, .int .i64 r8]) /\
 cond (r8 != 0)
 (R (.returned (.tuple #[.int .u64 0, .int .i64 r8])) w6)
 (onSome h0 fun a6 =>
 LdP w6 a6 fun p6 =>
 Calls Tryz.prog 88 #[.pointer p6, .int .i64 tag0, .int .i64 refs0, .int .i64 size0, .int .i64 r7] w6 fun e7 w7 =>
 ∃ (r9 : Int), ∃ (r10 : Int), e7 = .returned (.tuple #[.int .i64 r9, .int .i64 r10]) /\
 cond (r10 != 0)
 (R (.returned (.tuple #[.int .u64 0, .int .i64 r10])) w7)
 (onSome h0 fun a7 =>
 LdV w7 (Addr.add a7 18) fun v0 =>
 IsN v0 fun b0 =>
 cond (!b0)
 (onSome h0 fun a8 =>
 LdV w7 (Addr.add a8 18) fun v1 =>
 InvC Tryz.prog v1 "Made" #[.int .u64 r5] w7 fun w8 =>
 R (.returned (.tuple #[.int .u64 r5, .int .i64 0])) w8)
 (R (.returned (.tuple #[.int .u64 r5, .int .i64 0])) w7)))))))
def S_heap_Heap_Make_ann : Ann := (.seq .leaf (.seq (.block (.seq .leaf (.cond .leaf (.seq .anyl .leaf)))) (.seq .anyl .leaf)))
theorem S_heap_Heap_Make_ok (h0 : Option Addr) (tag0 : Int) (refs0 : Int) (size0 : Int) (w : World) (R : Ending -> World -> Prop) (h : S_heap_Heap_Make h0 tag0 refs0 size0 w R) : Calls Tryz.prog 37 #[.pointer h0, .int .i64 tag0, .int .i64 refs0, .int .i64 size0] w R :=
 calls_of_X (c := bodyOf Tryz.f37) (an := S_heap_Heap_Make_ann) wide_ok Tryz.func37 (by kernel_rfl) (by kernel_rfl) (cast (by kernel_rfl) h)
def S_heap_Heap_SetRef (h0 : Option Addr) (x0 : Int) (i0 : Int) (y0 : Int) (w : World) (R : Ending -> World -> Prop) : Prop :=
 Calls Tryz.prog 75 #[.pointer h0, .int .u64 x0] w fun e0 w0 =>
 ∃ (r0 : Int), ∃ (r1 : Int), ∃ (r2 : Int), ∃ (r3 : Int), ∃ (r4 : Bool), ∃ (r5 : Int), ∃ (r6 : Int), e0 = .returned (.tuple #[.int .i64 r0, .agg #[.int .i64 r1, .int .i64 r2, .int .i64 r3, .bool r4, .int .i64 r5], .int .i64 r6]) /\
 NewC (.cells #[.int .i64 0, .int .i64 0, .int .i64 0, .bool false, .int .i64 0] 115 (0, 0)) w0 fun b0 w1 =>
 StC w1 (⟨b0, 0, none⟩) (.int .i64 r1) fun w2 =>
 StC w2 (Addr.add (⟨b0, 0, none⟩) 1) (.int .i64 r2) fun w3 =>
 StC w3 (Addr.add (⟨b0, 0, none⟩) 2) (.int .i64 r3) fun w4 =>
 StC w4 (Addr.add (⟨b0, 0, none⟩) 3) (.bool r4) fun w5 =>
 StC w5 (Addr.add (⟨b0, 0, none⟩) 4) (.int .i64 r5) fun w6 =>
 cond (r6 != 0)
 (R (.returned (.int .i64 r6)) w6)
 (cond (decide (i0 < 0))
 (R (.returned (.int .i64 1)) w6)
 (LdI .i64 w6 (Addr.add (⟨b0, 0, none⟩) 1) fun n0 =>
 cond (decide (i0 ≥ n0))
 (R (.returned (.int .i64 1)) w6)
 (Calls Tryz.prog 80 #[.pointer h0, .int .u64 y0] w6 fun e1 w7 =>
 ∃ (r7 : Int), e1 = .returned (.int .i64 r7) /\
 cond (r7 != 0)
 (R (.returned (.int .i64 r7)) w7)
 (onSome h0 fun a0 =>
 LdP w7 a0 fun p0 =>
 Calls Tryz.prog 89 #[.pointer p0, .int .i64 r0, .int .i64 i0, .int .u64 y0] w7 fun e2 w8 =>
 ∃ (r8 : Int), e2 = .returned (.int .i64 r8) /\
 cond (r8 != 0)
 (R (.returned (.int .i64 r8)) w8)
 (Calls Tryz.prog 85 #[.pointer h0, .int .u64 y0] w8 fun e3 w9 =>
 e3 = .returned (.tuple #[]) /\
 R (.returned (.int .i64 0)) w9)))))
def S_heap_Heap_SetRef_ann : Ann := .leaf
theorem S_heap_Heap_SetRef_ok (h0 : Option Addr) (x0 : Int) (i0 : Int) (y0 : Int) (w : World) (R : Ending -> World -> Prop) (h : S_heap_Heap_SetRef h0 x0 i0 y0 w R) : Calls Tryz.prog 38 #[.pointer h0, .int .u64 x0, .int .i64 i0, .int .u64 y0] w R :=
 calls_of_X (c := bodyOf Tryz.f38) (an := S_heap_Heap_SetRef_ann) wide_ok Tryz.func38 (by kernel_rfl) (by kernel_rfl) (cast (by kernel_rfl) h)
def S_heap_Heap_SetWord (h0 : Option Addr) (x0 : Int) (i0 : Int) (w0 : Int) (w : World) (R : Ending -> World -> Prop) : Prop :=
 Calls Tryz.prog 90 #[.pointer h0, .int .u64 x0, .int .i64 i0] w fun e0 w1 =>
 ∃ (r0 : Int), ∃ (r1 : Int), ∃ (r2 : Int), e0 = .returned (.tuple #[.int .i64 r0, .int .i64 r1, .int .i64 r2]) /\
 cond (r2 != 0)
 (R (.returned (.int .i64 r2)) w1)
 (onSome h0 fun a0 =>
 LdP w1 a0 fun p0 =>
 Calls Tryz.prog 89 #[.pointer p0, .int .i64 r0, .int .i64 r1, .int .u64 w0] w1 fun e1 w2 =>
 ∃ (r3 : Int), e1 = .returned (.int .i64 r3) /\
 R (.returned (.int .i64 r3)) w2)
def S_heap_Heap_SetWord_ann : Ann := .leaf
theorem S_heap_Heap_SetWord_ok (h0 : Option Addr) (x0 : Int) (i0 : Int) (w0 : Int) (w : World) (R : Ending -> World -> Prop) (h : S_heap_Heap_SetWord h0 x0 i0 w0 w R) : Calls Tryz.prog 39 #[.pointer h0, .int .u64 x0, .int .i64 i0, .int .u64 w0] w R :=
 calls_of_X (c := bodyOf Tryz.f39) (an := S_heap_Heap_SetWord_ann) wide_ok Tryz.func39 (by kernel_rfl) (by kernel_rfl) (cast (by kernel_rfl) h)
def S_handle_Table_At (t0 : Option Addr) (h0 : Int) (w : World) (R : Ending -> World -> Prop) : Prop :=
 Calls Tryz.prog 97 #[.pointer t0, .int .u64 h0] w fun e0 w0 =>
 ∃ (r0 : Int), ∃ (r1 : Int), e0 = .returned (.tuple #[.int .i64 r0, .int .i64 r1]) /\
 cond (r1 != 0)
 (R (.returned (.tuple #[.int .i64 0, .int .i64 r1])) w0)
 (onSome t0 fun a0 =>
 LdS w0 a0 fun s0p s0l _ =>
 IdxC s0p s0l r0 4 fun a1 =>
 LdI .i64 w0 (Addr.add a1 2) fun n0 =>
 R (.returned (.tuple #[.int .i64 n0, .int .i64 0])) w0)
def S_handle_Table_At_ann : Ann := .leaf
theorem S_handle_Table_At_ok (t0 : Option Addr) (h0 : Int) (w : World) (R : Ending -> World -> Prop) (h : S_handle_Table_At t0 h0 w R) : Calls Tryz.prog 44 #[.pointer t0, .int .u64 h0] w R :=
 calls_of_X (c := bodyOf Tryz.f44) (an := S_handle_Table_At_ann) wide_ok Tryz.func44 (by kernel_rfl) (by kernel_rfl) (cast (by kernel_rfl) h)
def S_arena_Arena_Open (a0 : Option Addr) (w : World) (R : Ending -> World -> Prop) : Prop :=
 onSome a0 fun a1 =>
 LdB w (Addr.add a1 5) fun b0 =>
 cond b0
 (R (.returned (.int .i64 16)) w)
 (onSome a0 fun a2 =>
 StC w (Addr.add a2 5) (.bool true) fun w0 =>
 onSome a0 fun a3 =>
 StC w0 (Addr.add a3 3) (.int .i64 0) fun w1 =>
 onSome a0 fun a4 =>
 StC w1 (Addr.add a4 4) (.int .i64 0) fun w2 =>
 R (.returned (.int .i64 0)) w2)
def S_arena_Arena_Open_ann : Ann := .leaf
theorem S_arena_Arena_Open_ok (a0 : Option Addr) (w : World) (R : Ending -> World -> Prop) (h : S_arena_Arena_Open a0 w R) : Calls Tryz.prog 69 #[.pointer a0] w R :=
 calls_of_X (c := bodyOf Tryz.f69) (an := S_arena_Arena_Open_ann) wide_ok Tryz.func69 (by kernel_rfl) (by kernel_rfl) (cast (by kernel_rfl) h)
def S_heap_Heap_Watch (h0 : Option Addr) (w0 : Value) (w : World) (R : Ending -> World -> Prop) : Prop :=
 onSome h0 fun a0 =>
 Value.oneCell' (w0) = true /\
 StC w (Addr.add a0 18) (w0) fun w1 =>
 R (.returned (.tuple #[])) w1
def S_heap_Heap_Watch_ann : Ann := .leaf
theorem S_heap_Heap_Watch_ok (h0 : Option Addr) (w0 : Value) (w : World) (R : Ending -> World -> Prop) (h : S_heap_Heap_Watch h0 w0 w R) : Calls Tryz.prog 70 #[.pointer h0, w0] w R :=
 calls_of_X (c := bodyOf Tryz.f70) (an := S_heap_Heap_Watch_ann) wide_ok Tryz.func70 (by kernel_rfl) (by kernel_rfl) (cast (by kernel_rfl) h)
def S_handle_Table_Live_j0 (out0p : Option Addr) (out0l : Nat) (out0c : Nat) (n1 : Int) (w1 : World) (I0 : Option Addr -> Nat -> Nat -> Int -> World -> Prop) (M0 : Option Addr -> Nat -> Nat -> Int -> World -> Nat) (out1p : Option Addr) (out1l : Nat) (out1c : Nat) (w5 : World) : Prop :=
 I0 out1p out1l out1c (IntKind.wrap .i64 (n1 + 1)) w5 /\ M0 out1p out1l out1c (IntKind.wrap .i64 (n1 + 1)) w5 < M0 out0p out0l out0c n1 w1
def S_handle_Table_Live_l0 (t0 : Option Addr) (R : Ending -> World -> Prop) (s1l : Nat) (out0p : Option Addr) (out0l : Nat) (out0c : Nat) (n1 : Int) (w1 : World) (I0 : Option Addr -> Nat -> Nat -> Int -> World -> Prop) (M0 : Option Addr -> Nat -> Nat -> Int -> World -> Nat) : Prop :=
 cond (decide (n1 < (Nat.cast s1l : Int)))
 (∀ k0 : Option Addr -> Nat -> Nat -> World -> Prop,
 (∀ (out1p : Option Addr) (out1l : Nat) (out1c : Nat) (w5 : World), S_handle_Table_Live_j0 out0p out0l out0c n1 w1 I0 M0 out1p out1l out1c w5 -> k0 out1p out1l out1c w5) ->
 onSome t0 fun a2 =>
 LdS w1 a2 fun s2p s2l _ =>
 IdxC s2p s2l n1 4 fun a3 =>
 LdB w1 (Addr.add a3 1) fun b0 =>
 cond b0
 (Calls Tryz.prog 123 #[.pointer t0, .int .i64 n1] w1 fun e0 w2 =>
 ∃ (r0 : Int), e0 = .returned (.int .u64 r0) /\
 NewC (.cells #[.int .u64 r0] 32 (0, 0)) w2 fun b1 w3 =>
 RunS Tryz.prog (Builtin.append_ #[25, 25] 25 #[.slice out0p out0l out0c, .slice (some (⟨b1, 0, none⟩)) 1 1]) w3 fun s3p s3l s3c w4 =>
 k0 s3p s3l s3c w4)
 (k0 out0p out0l out0c w1))
 (R (.returned (.slice out0p out0l out0c)) w1)
def S_handle_Table_Live (t0 : Option Addr) (w : World) (R : Ending -> World -> Prop) : Prop :=
 onSome t0 fun a0 =>
 LdI .i64 w (Addr.add a0 3) fun n0 =>
 RunS Tryz.prog (Instr.makeSlice 25 (.int .i64 0) (.int .i64 n0)) w fun s0p s0l s0c w0 =>
 onSome t0 fun a1 =>
 LdS w0 a1 fun _ s1l _ =>
 ∃ (I0 : Option Addr -> Nat -> Nat -> Int -> World -> Prop) (M0 : Option Addr -> Nat -> Nat -> Int -> World -> Nat), I0 s0p s0l s0c 0 w0 /\
 ∀ (out0p : Option Addr) (out0l : Nat) (out0c : Nat) (n1 : Int) (w1 : World), I0 out0p out0l out0c n1 w1 ->
 S_handle_Table_Live_l0 t0 R s1l out0p out0l out0c n1 w1 I0 M0
def S_handle_Table_Live_ann : Ann := (.seq .leaf (.seq .leaf (.seq (.seq .leaf (.block (.loop [0, 14] [(3, .slice), (15, (.int .i64))] (.seq .leaf (.seq .leaf (.seq (.jblock [0, 14, 15] [(3, .slice)] .leaf .leaf) .leaf)))))) .leaf)))
theorem S_handle_Table_Live_ok (t0 : Option Addr) (w : World) (R : Ending -> World -> Prop) (h : S_handle_Table_Live t0 w R) : Calls Tryz.prog 73 #[.pointer t0] w R :=
 calls_of_X (c := bodyOf Tryz.f73) (an := S_handle_Table_Live_ann) wide_ok Tryz.func73 (by kernel_rfl) (by kernel_rfl) (cast (by kernel_rfl) h)
def S_handle_Table_Slot (t0 : Option Addr) (h0 : Int) (w : World) (R : Ending -> World -> Prop) : Prop :=
 Calls Tryz.prog 97 #[.pointer t0, .int .u64 h0] w fun e0 w0 =>
 ∃ (r0 : Int), ∃ (r1 : Int), e0 = .returned (.tuple #[.int .i64 r0, .int .i64 r1]) /\
 R (.returned (.tuple #[.int .i64 r0, .int .i64 r1])) w0
def S_handle_Table_Slot_ann : Ann := .leaf
theorem S_handle_Table_Slot_ok (t0 : Option Addr) (h0 : Int) (w : World) (R : Ending -> World -> Prop) (h : S_handle_Table_Slot t0 h0 w R) : Calls Tryz.prog 74 #[.pointer t0, .int .u64 h0] w R :=
 calls_of_X (c := bodyOf Tryz.f74) (an := S_handle_Table_Slot_ann) wide_ok Tryz.func74 (by kernel_rfl) (by kernel_rfl) (cast (by kernel_rfl) h)
def S_heap_Heap_find (h0 : Option Addr) (x0 : Int) (w : World) (R : Ending -> World -> Prop) : Prop :=
 NewC (.cells #[.int .i64 0, .int .i64 0, .int .i64 0, .bool false, .int .i64 0] 115 (0, 0)) w fun b0 w0 =>
 onSome h0 fun a0 =>
 LdP w0 (Addr.add a0 1) fun p0 =>
 Calls Tryz.prog 44 #[.pointer p0, .int .u64 x0] w0 fun e0 w1 =>
 ∃ (r0 : Int), ∃ (r1 : Int), e0 = .returned (.tuple #[.int .i64 r0, .int .i64 r1]) /\
 cond (r1 != 0)
 (StC w1 (⟨b0, 0, none⟩) (.int .i64 0) fun w2 =>
 StC w2 (Addr.add (⟨b0, 0, none⟩) 1) (.int .i64 0) fun w3 =>
 StC w3 (Addr.add (⟨b0, 0, none⟩) 2) (.int .i64 0) fun w4 =>
 StC w4 (Addr.add (⟨b0, 0, none⟩) 3) (.bool false) fun w5 =>
 StC w5 (Addr.add (⟨b0, 0, none⟩) 4) (.int .i64 0) fun w6 =>
 LdI .i64 w6 (⟨b0, 0, none⟩) fun n0 =>
 LdI .i64 w6 (Addr.add (⟨b0, 0, none⟩) 1) fun n1 =>
 LdI .i64 w6 (Addr.add (⟨b0, 0, none⟩) 2) fun n2 =>
 LdB w6 (Addr.add (⟨b0, 0, none⟩) 3) fun b1 =>
 LdI .i64 w6 (Addr.add (⟨b0, 0, none⟩) 4) fun n3 =>
 R (.returned (.tuple #[.int .i64 0, .agg #[.int .i64 n0, .int .i64 n1, .int .i64 n2, .bool b1, .int .i64 n3], .int .i64 r1])) w6)
 (onSome h0 fun a1 =>
 LdP w1 a1 fun p1 =>
 Calls Tryz.prog 77 #[.pointer p1, .int .i64 r0] w1 fun e1 w7 =>
 ∃ (r2 : Int), ∃ (r3 : Int), ∃ (r4 : Int), ∃ (r5 : Bool), ∃ (r6 : Int), ∃ (r7 : Int), e1 = .returned (.tuple #[.agg #[.int .i64 r2, .int .i64 r3, .int .i64 r4, .bool r5, .int .i64 r6], .int .i64 r7]) /\
 NewC (.cells #[.int .i64 0, .int .i64 0, .int .i64 0, .bool false, .int .i64 0] 115 (0, 0)) w7 fun b2 w8 =>
 StC w8 (⟨b2, 0, none⟩) (.int .i64 r2) fun w9 =>
 StC w9 (Addr.add (⟨b2, 0, none⟩) 1) (.int .i64 r3) fun w10 =>
 StC w10 (Addr.add (⟨b2, 0, none⟩) 2) (.int .i64 r4) fun w11 =>
 StC w11 (Addr.add (⟨b2, 0, none⟩) 3) (.bool r5) fun w12 =>
 StC w12 (Addr.add (⟨b2, 0, none⟩) 4) (.int .i64 r6) fun w13 =>
 cond (r7 != 0)
 (StC w13 (⟨b0, 0, none⟩) (.int .i64 0) fun w14 =>
 StC w14 (Addr.add (⟨b0, 0, none⟩) 1) (.int .i64 0) fun w15 =>
 StC w15 (Addr.add (⟨b0, 0, none⟩) 2) (.int .i64 0) fun w16 =>
 StC w16 (Addr.add (⟨b0, 0, none⟩) 3) (.bool false) fun w17 =>
 StC w17 (Addr.add (⟨b0, 0, none⟩) 4) (.int .i64 0) fun w18 =>
 LdI .i64 w18 (⟨b0, 0, none⟩) fun n4 =>
 LdI .i64 w18 (Addr.add (⟨b0, 0, none⟩) 1) fun n5 =>
 LdI .i64 w18 (Addr.add (⟨b0, 0, none⟩) 2) fun n6 =>
 LdB w18 (Addr.add (⟨b0, 0, none⟩) 3) fun b3 =>
 LdI .i64 w18 (Addr.add (⟨b0, 0, none⟩) 4) fun n7 =>
 R (.returned (.tuple #[.int .i64 0, .agg #[.int .i64 n4, .int .i64 n5, .int .i64 n6, .bool b3, .int .i64 n7], .int .i64 6])) w18)
 (LdI .i64 (World.drew w13) (⟨b2, 0, none⟩) fun n8 =>
 LdI .i64 (World.drew w13) (Addr.add (⟨b2, 0, none⟩) 1) fun n9 =>
 LdI .i64 (World.drew w13) (Addr.add (⟨b2, 0, none⟩) 2) fun n10 =>
 LdB (World.drew w13) (Addr.add (⟨b2, 0, none⟩) 3) fun b4 =>
 LdI .i64 (World.drew w13) (Addr.add (⟨b2, 0, none⟩) 4) fun n11 =>
 StC (World.drew w13) (⟨b0, 0, none⟩) (.int .i64 n8) fun w19 =>
 StC w19 (Addr.add (⟨b0, 0, none⟩) 1) (.int .i64 n9) fun w20 =>
 StC w20 (Addr.add (⟨b0, 0, none⟩) 2) (.int .i64 n10) fun w21 =>
 StC w21 (Addr.add (⟨b0, 0, none⟩) 3) (.bool b4) fun w22 =>
 StC w22 (Addr.add (⟨b0, 0, none⟩) 4) (.int .i64 n11) fun w23 =>
 LdI .i64 w23 (⟨b0, 0, none⟩) fun n12 =>
 LdI .i64 w23 (Addr.add (⟨b0, 0, none⟩) 1) fun n13 =>
 LdI .i64 w23 (Addr.add (⟨b0, 0, none⟩) 2) fun n14 =>
 LdB w23 (Addr.add (⟨b0, 0, none⟩) 3) fun b5 =>
 LdI .i64 w23 (Addr.add (⟨b0, 0, none⟩) 4) fun n15 =>
 R (.returned (.tuple #[.int .i64 r0, .agg #[.int .i64 n12, .int .i64 n13, .int .i64 n14, .bool b5, .int .i64 n15], .int .i64 0])) w23))
def S_heap_Heap_find_ann : Ann := (.seq .leaf (.seq .leaf (.seq .leaf (.seq .leaf (.seq .leaf (.seq (.draw 3) .leaf))))))
theorem S_heap_Heap_find_ok (h0 : Option Addr) (x0 : Int) (w : World) (R : Ending -> World -> Prop) (h : S_heap_Heap_find h0 x0 w R) : Calls Tryz.prog 75 #[.pointer h0, .int .u64 x0] w R :=
 calls_of_X (c := bodyOf Tryz.f75) (an := S_heap_Heap_find_ann) wide_ok Tryz.func75 (by kernel_rfl) (by kernel_rfl) (cast (by kernel_rfl) h)
def S_arena_Arena_First (a0 : Option Addr) (w : World) (R : Ending -> World -> Prop) : Prop :=
 Calls Tryz.prog 124 #[.pointer a0, .int .i64 0] w fun e0 w0 =>
 ∃ (r0 : Int), e0 = .returned (.int .i64 r0) /\
 R (.returned (.int .i64 r0)) w0
def S_arena_Arena_First_ann : Ann := .leaf
theorem S_arena_Arena_First_ok (a0 : Option Addr) (w : World) (R : Ending -> World -> Prop) (h : S_arena_Arena_First a0 w R) : Calls Tryz.prog 76 #[.pointer a0] w R :=
 calls_of_X (c := bodyOf Tryz.f76) (an := S_arena_Arena_First_ann) wide_ok Tryz.func76 (by kernel_rfl) (by kernel_rfl) (cast (by kernel_rfl) h)
def S_arena_Arena_Head (a0 : Option Addr) (at0 : Int) (w : World) (R : Ending -> World -> Prop) : Prop :=
 NewC (.cells #[.int .i64 0, .int .i64 0, .int .i64 0, .bool false, .int .i64 0] 115 (0, 0)) w fun b0 w0 =>
 Calls Tryz.prog 125 #[.pointer a0, .int .i64 at0] w0 fun e0 w1 =>
 ∃ (r0 : Bool), e0 = .returned (.bool r0) /\
 cond (!r0)
 (StC w1 (⟨b0, 0, none⟩) (.int .i64 0) fun w2 =>
 StC w2 (Addr.add (⟨b0, 0, none⟩) 1) (.int .i64 0) fun w3 =>
 StC w3 (Addr.add (⟨b0, 0, none⟩) 2) (.int .i64 0) fun w4 =>
 StC w4 (Addr.add (⟨b0, 0, none⟩) 3) (.bool false) fun w5 =>
 StC w5 (Addr.add (⟨b0, 0, none⟩) 4) (.int .i64 0) fun w6 =>
 LdI .i64 w6 (⟨b0, 0, none⟩) fun n0 =>
 LdI .i64 w6 (Addr.add (⟨b0, 0, none⟩) 1) fun n1 =>
 LdI .i64 w6 (Addr.add (⟨b0, 0, none⟩) 2) fun n2 =>
 LdB w6 (Addr.add (⟨b0, 0, none⟩) 3) fun b1 =>
 LdI .i64 w6 (Addr.add (⟨b0, 0, none⟩) 4) fun n3 =>
 R (.returned (.tuple #[.agg #[.int .i64 n0, .int .i64 n1, .int .i64 n2, .bool b1, .int .i64 n3], .int .i64 1])) w6)
 (onSome a0 fun a1 =>
 LdS w1 a1 fun s0p s0l _ =>
 IdxC s0p s0l at0 1 fun a2 =>
 LdI .u64 w1 a2 fun n4 =>
 Calls Tryz.prog 126 #[.int .u64 n4] w1 fun e1 w7 =>
 ∃ (r1 : Int), ∃ (r2 : Int), ∃ (r3 : Int), ∃ (r4 : Bool), ∃ (r5 : Int), e1 = .returned (.agg #[.int .i64 r1, .int .i64 r2, .int .i64 r3, .bool r4, .int .i64 r5]) /\
 StC w7 (⟨b0, 0, none⟩) (.int .i64 r1) fun w8 =>
 StC w8 (Addr.add (⟨b0, 0, none⟩) 1) (.int .i64 r2) fun w9 =>
 StC w9 (Addr.add (⟨b0, 0, none⟩) 2) (.int .i64 r3) fun w10 =>
 StC w10 (Addr.add (⟨b0, 0, none⟩) 3) (.bool r4) fun w11 =>
 StC w11 (Addr.add (⟨b0, 0, none⟩) 4) (.int .i64 r5) fun w12 =>
 LdI .i64 w12 (⟨b0, 0, none⟩) fun n5 =>
 LdI .i64 w12 (Addr.add (⟨b0, 0, none⟩) 1) fun n6 =>
 LdI .i64 w12 (Addr.add (⟨b0, 0, none⟩) 2) fun n7 =>
 LdB w12 (Addr.add (⟨b0, 0, none⟩) 3) fun b2 =>
 LdI .i64 w12 (Addr.add (⟨b0, 0, none⟩) 4) fun n8 =>
 R (.returned (.tuple #[.agg #[.int .i64 n5, .int .i64 n6, .int .i64 n7, .bool b2, .int .i64 n8], .int .i64 0])) w12)
def S_arena_Arena_Head_ann : Ann := .leaf
theorem S_arena_Arena_Head_ok (a0 : Option Addr) (at0 : Int) (w : World) (R : Ending -> World -> Prop) (h : S_arena_Arena_Head a0 at0 w R) : Calls Tryz.prog 77 #[.pointer a0, .int .i64 at0] w R :=
 calls_of_X (c := bodyOf Tryz.f77) (an := S_arena_Arena_Head_ann) wide_ok Tryz.func77 (by kernel_rfl) (by kernel_rfl) (cast (by kernel_rfl) h)
def S_handle_Table_Of (t0 : Option Addr) (i0 : Int) (w : World) (R : Ending -> World -> Prop) : Prop :=
 cond (decide (i0 < 0))
 (R (.returned (.tuple #[.int .u64 0, .int .i64 1])) w)
 (onSome t0 fun a0 =>
 LdS w a0 fun _ s0l _ =>
 cond (decide (i0 ≥ (Nat.cast s0l : Int)))
 (R (.returned (.tuple #[.int .u64 0, .int .i64 1])) w)
 (onSome t0 fun a1 =>
 LdS w a1 fun s1p s1l _ =>
 IdxC s1p s1l i0 4 fun a2 =>
 LdB w (Addr.add a2 1) fun b0 =>
 cond (!b0)
 (R (.returned (.tuple #[.int .u64 0, .int .i64 6])) w)
 (Calls Tryz.prog 123 #[.pointer t0, .int .i64 i0] w fun e0 w0 =>
 ∃ (r0 : Int), e0 = .returned (.int .u64 r0) /\
 R (.returned (.tuple #[.int .u64 r0, .int .i64 0])) w0)))
def S_handle_Table_Of_ann : Ann := .leaf
theorem S_handle_Table_Of_ok (t0 : Option Addr) (i0 : Int) (w : World) (R : Ending -> World -> Prop) (h : S_handle_Table_Of t0 i0 w R) : Calls Tryz.prog 78 #[.pointer t0, .int .i64 i0] w R :=
 calls_of_X (c := bodyOf Tryz.f78) (an := S_handle_Table_Of_ann) wide_ok Tryz.func78 (by kernel_rfl) (by kernel_rfl) (cast (by kernel_rfl) h)
def S_arena_Arena_Next (a0 : Option Addr) (at0 : Int) (w : World) (R : Ending -> World -> Prop) : Prop :=
 Calls Tryz.prog 77 #[.pointer a0, .int .i64 at0] w fun e0 w0 =>
 ∃ (r0 : Int), ∃ (r1 : Int), ∃ (r2 : Int), ∃ (r3 : Bool), ∃ (r4 : Int), ∃ (r5 : Int), e0 = .returned (.tuple #[.agg #[.int .i64 r0, .int .i64 r1, .int .i64 r2, .bool r3, .int .i64 r4], .int .i64 r5]) /\
 NewC (.cells #[.int .i64 0, .int .i64 0, .int .i64 0, .bool false, .int .i64 0] 115 (0, 0)) w0 fun b0 w1 =>
 StC w1 (⟨b0, 0, none⟩) (.int .i64 r0) fun w2 =>
 StC w2 (Addr.add (⟨b0, 0, none⟩) 1) (.int .i64 r1) fun w3 =>
 StC w3 (Addr.add (⟨b0, 0, none⟩) 2) (.int .i64 r2) fun w4 =>
 StC w4 (Addr.add (⟨b0, 0, none⟩) 3) (.bool r3) fun w5 =>
 StC w5 (Addr.add (⟨b0, 0, none⟩) 4) (.int .i64 r4) fun w6 =>
 cond (r5 != 0)
 (R (.returned (.tuple #[.int .i64 0, .int .i64 r5])) w6)
 (LdI .i64 w6 (Addr.add (⟨b0, 0, none⟩) 2) fun n0 =>
 Calls Tryz.prog 124 #[.pointer a0, .int .i64 (IntKind.wrap .i64 ((IntKind.wrap .i64 (at0 + 1)) + n0))] w6 fun e1 w7 =>
 ∃ (r6 : Int), e1 = .returned (.int .i64 r6) /\
 R (.returned (.tuple #[.int .i64 r6, .int .i64 0])) w7)
def S_arena_Arena_Next_ann : Ann := .leaf
theorem S_arena_Arena_Next_ok (a0 : Option Addr) (at0 : Int) (w : World) (R : Ending -> World -> Prop) (h : S_arena_Arena_Next a0 at0 w R) : Calls Tryz.prog 79 #[.pointer a0, .int .i64 at0] w R :=
 calls_of_X (c := bodyOf Tryz.f79) (an := S_arena_Arena_Next_ann) wide_ok Tryz.func79 (by kernel_rfl) (by kernel_rfl) (cast (by kernel_rfl) h)
def S_heap_Heap_may (h0 : Option Addr) (y0 : Int) (w : World) (R : Ending -> World -> Prop) : Prop :=
 cond (y0 == 0)
 (R (.returned (.int .i64 0)) w)
 (onSome h0 fun a0 =>
 LdP w (Addr.add a0 1) fun p0 =>
 Calls Tryz.prog 44 #[.pointer p0, .int .u64 y0] w fun e0 w0 =>
 ∃ (r0 : Int), ∃ (r1 : Int), e0 = .returned (.tuple #[.int .i64 r0, .int .i64 r1]) /\
 R (.returned (.int .i64 r1)) w0)
def S_heap_Heap_may_ann : Ann := .leaf
theorem S_heap_Heap_may_ok (h0 : Option Addr) (y0 : Int) (w : World) (R : Ending -> World -> Prop) (h : S_heap_Heap_may h0 y0 w R) : Calls Tryz.prog 80 #[.pointer h0, .int .u64 y0] w R :=
 calls_of_X (c := bodyOf Tryz.f80) (an := S_heap_Heap_may_ann) wide_ok Tryz.func80 (by kernel_rfl) (by kernel_rfl) (cast (by kernel_rfl) h)
def S_heap_Heap_walk_l0 (b0 : Nat) (b1 : Nat) (b2 : Nat) (i0 : Int) (w7 : World) (I1 : Int -> World -> Prop) (M1 : Int -> World -> Nat) (r1 : Int) (n19 : Int) (w9 : World) (I2 : Int -> World -> Prop) (M2 : Int -> World -> Nat) : Prop :=
 cond (decide (n19 < r1))
 (∃ C1 : World -> Prop, C1 (World.drew w9) /\
 LdPQ C1 (⟨b0, 0, none⟩) fun p2 =>
 LdSQ C1 (⟨b1, 0, none⟩) fun s2p s2l _ =>
 IdxC s2p s2l i0 1 fun a2 =>
 LdIQ .u64 C1 a2 fun n20 =>
 Calls Tryz.prog 83 #[.pointer p2, .int .u64 n20, .int .i64 n19] (World.drew w9) fun e2 w10 =>
 ∃ (r4 : Int), ∃ (r5 : Int), e2 = .returned (.tuple #[.int .u64 r4, .int .i64 r5]) /\
 C1 w10 /\
 Calls Tryz.prog 127 #[.int .u64 r4, .pointer (some (⟨b0, 0, none⟩)), .pointer (some (⟨b2, 0, none⟩)), .pointer (some (⟨b1, 0, none⟩))] w10 fun e3 w11 =>
 e3 = .returned (.tuple #[]) /\
 I2 (IntKind.wrap .i64 (n19 + 1)) w11 /\ M2 (IntKind.wrap .i64 (n19 + 1)) w11 < M2 n19 w9)
 (I1 (IntKind.wrap .i64 (i0 + 1)) w9 /\ M1 (IntKind.wrap .i64 (i0 + 1)) w9 < M1 i0 w7)
def S_heap_Heap_walk_l1 (R : Ending -> World -> Prop) (b0 : Nat) (b1 : Nat) (b2 : Nat) (i0 : Int) (w7 : World) (I1 : Int -> World -> Prop) (M1 : Int -> World -> Nat) : Prop :=
 LdS w7 (⟨b1, 0, none⟩) fun _ s0l _ =>
 cond (decide (i0 < (Nat.cast s0l : Int)))
 (∃ C0 : World -> Prop, C0 (World.drew w7) /\
 LdPQ C0 (⟨b0, 0, none⟩) fun p1 =>
 LdSQ C0 (⟨b1, 0, none⟩) fun s1p s1l _ =>
 IdxC s1p s1l i0 1 fun a1 =>
 LdIQ .u64 C0 a1 fun n18 =>
 Calls Tryz.prog 82 #[.pointer p1, .int .u64 n18] (World.drew w7) fun e1 w8 =>
 ∃ (r0 : Int), ∃ (r1 : Int), ∃ (r2 : Int), ∃ (r3 : Int), e1 = .returned (.tuple #[.int .i64 r0, .int .i64 r1, .int .i64 r2, .int .i64 r3]) /\
 C0 w8 /\
 ∃ (I2 : Int -> World -> Prop) (M2 : Int -> World -> Nat), I2 0 w8 /\
 ∀ (n19 : Int) (w9 : World), I2 n19 w9 ->
 S_heap_Heap_walk_l0 b0 b1 b2 i0 w7 I1 M1 r1 n19 w9 I2 M2)
 (LdS (World.drew w7) (⟨b1, 0, none⟩) fun s3p s3l s3c =>
 LdM (World.drew w7) (⟨b2, 0, none⟩) fun m1 =>
 R (.returned (.tuple #[.slice s3p s3l s3c, .map m1])) (World.drew w7))
def S_heap_Heap_walk_l2 (R : Ending -> World -> Prop) (b0 : Nat) (b1 : Nat) (b2 : Nat) (n0 : Int) (n1 : Int) (n2 : Int) (n3 : Int) (n4 : Int) (n5 : Int) (n6 : Int) (n7 : Int) (n8 : Int) (n9 : Int) (n10 : Int) (n11 : Int) (n12 : Int) (n13 : Int) (n14 : Int) (n15 : Int) (n16 : Int) (w5 : World) (I0 : Int -> World -> Prop) (M0 : Int -> World -> Nat) : Prop :=
 cond (decide (n16 < 16))
 (IdxI .u64 #[.int .u64 n0, .int .u64 n1, .int .u64 n2, .int .u64 n3, .int .u64 n4, .int .u64 n5, .int .u64 n6, .int .u64 n7, .int .u64 n8, .int .u64 n9, .int .u64 n10, .int .u64 n11, .int .u64 n12, .int .u64 n13, .int .u64 n14, .int .u64 n15] 16 n16 fun n17 =>
 Calls Tryz.prog 127 #[.int .u64 n17, .pointer (some (⟨b0, 0, none⟩)), .pointer (some (⟨b2, 0, none⟩)), .pointer (some (⟨b1, 0, none⟩))] w5 fun e0 w6 =>
 e0 = .returned (.tuple #[]) /\
 I0 (IntKind.wrap .i64 (n16 + 1)) w6 /\ M0 (IntKind.wrap .i64 (n16 + 1)) w6 < M0 n16 w5)
 (∃ (I1 : Int -> World -> Prop) (M1 : Int -> World -> Nat), I1 0 w5 /\
 ∀ (i0 : Int) (w7 : World), I1 i0 w7 ->
 S_heap_Heap_walk_l1 R b0 b1 b2 i0 w7 I1 M1)
def S_heap_Heap_walk (h0 : Option Addr) (w : World) (R : Ending -> World -> Prop) : Prop :=
 NewC (.cells #[.pointer h0] 24 (0, 0)) w fun b0 w0 =>
 NewC (.cells #[.slice none 0 0] 25 (0, 0)) w0 fun b1 w1 =>
 NewC (.map #[] 0) w1 fun m0 w2 =>
 NewC (.cells #[.map none] 123 (0, 0)) w2 fun b2 w3 =>
 StC w3 (⟨b2, 0, none⟩) (.map (some m0)) fun w4 =>
 LdP w4 (⟨b0, 0, none⟩) fun p0 =>
 onSome p0 fun a0 =>
 Ld_16_uint64 w4 (Addr.add a0 2) fun n0 n1 n2 n3 n4 n5 n6 n7 n8 n9 n10 n11 n12 n13 n14 n15 =>
 ∃ (I0 : Int -> World -> Prop) (M0 : Int -> World -> Nat), I0 0 w4 /\
 ∀ (n16 : Int) (w5 : World), I0 n16 w5 ->
 S_heap_Heap_walk_l2 R b0 b1 b2 n0 n1 n2 n3 n4 n5 n6 n7 n8 n9 n10 n11 n12 n13 n14 n15 n16 w5 I0 M0
def S_heap_Heap_walk_ann : Ann := (.seq .leaf (.seq .leaf (.seq .leaf (.seq .leaf (.seq (.seq .leaf (.block (.loop [1, 4, 5, 6, 22] [(23, (.int .i64))] .leaf))) (.seq (.seq .leaf (.block (.loop [1, 4, 5, 6] [(9, (.int .i64))] (.seq .leaf (.seq (.block (.seq .anyl (.seq .leaf (.block (.loop [1, 4, 5, 6, 9, 47] [(48, (.int .i64))] (.seq .leaf (.seq .leaf (.seq (.block (.seq .leaf (.seq .anyl .leaf))) .leaf)))))))) .leaf))))) (.seq (.draw 4) .leaf)))))))
theorem S_heap_Heap_walk_ok (h0 : Option Addr) (w : World) (R : Ending -> World -> Prop) (h : S_heap_Heap_walk h0 w R) : Calls Tryz.prog 81 #[.pointer h0] w R :=
 calls_of_X (c := bodyOf Tryz.f81) (an := S_heap_Heap_walk_ann) wide_ok Tryz.func81 (by kernel_rfl) (by kernel_rfl) (cast (by kernel_rfl) h)
def S_heap_Heap_Head (h0 : Option Addr) (x0 : Int) (w : World) (R : Ending -> World -> Prop) : Prop :=
 Calls Tryz.prog 75 #[.pointer h0, .int .u64 x0] w fun e0 w0 =>
 ∃ (r0 : Int), ∃ (r1 : Int), ∃ (r2 : Int), ∃ (r3 : Int), ∃ (r4 : Bool), ∃ (r5 : Int), ∃ (r6 : Int), e0 = .returned (.tuple #[.int .i64 r0, .agg #[.int .i64 r1, .int .i64 r2, .int .i64 r3, .bool r4, .int .i64 r5], .int .i64 r6]) /\
 NewC (.cells #[.int .i64 0, .int .i64 0, .int .i64 0, .bool false, .int .i64 0] 115 (0, 0)) w0 fun b0 w1 =>
 StC w1 (⟨b0, 0, none⟩) (.int .i64 r1) fun w2 =>
 StC w2 (Addr.add (⟨b0, 0, none⟩) 1) (.int .i64 r2) fun w3 =>
 StC w3 (Addr.add (⟨b0, 0, none⟩) 2) (.int .i64 r3) fun w4 =>
 StC w4 (Addr.add (⟨b0, 0, none⟩) 3) (.bool r4) fun w5 =>
 StC w5 (Addr.add (⟨b0, 0, none⟩) 4) (.int .i64 r5) fun w6 =>
 LdI .i64 (World.drew w6) (⟨b0, 0, none⟩) fun n0 =>
 LdI .i64 (World.drew w6) (Addr.add (⟨b0, 0, none⟩) 1) fun n1 =>
 LdI .i64 (World.drew w6) (Addr.add (⟨b0, 0, none⟩) 2) fun n2 =>
 R (.returned (.tuple #[.int .i64 n0, .int .i64 n1, .int .i64 n2, .int .i64 r6])) (World.drew w6)
def S_heap_Heap_Head_ann : Ann := (.seq .leaf (.seq .leaf (.seq (.draw 11) .leaf)))
theorem S_heap_Heap_Head_ok (h0 : Option Addr) (x0 : Int) (w : World) (R : Ending -> World -> Prop) (h : S_heap_Heap_Head h0 x0 w R) : Calls Tryz.prog 82 #[.pointer h0, .int .u64 x0] w R :=
 calls_of_X (c := bodyOf Tryz.f82) (an := S_heap_Heap_Head_ann) wide_ok Tryz.func82 (by kernel_rfl) (by kernel_rfl) (cast (by kernel_rfl) h)
def S_heap_Heap_Ref (h0 : Option Addr) (x0 : Int) (i0 : Int) (w : World) (R : Ending -> World -> Prop) : Prop :=
 Calls Tryz.prog 75 #[.pointer h0, .int .u64 x0] w fun e0 w0 =>
 ∃ (r0 : Int), ∃ (r1 : Int), ∃ (r2 : Int), ∃ (r3 : Int), ∃ (r4 : Bool), ∃ (r5 : Int), ∃ (r6 : Int), e0 = .returned (.tuple #[.int .i64 r0, .agg #[.int .i64 r1, .int .i64 r2, .int .i64 r3, .bool r4, .int .i64 r5], .int .i64 r6]) /\
 NewC (.cells #[.int .i64 0, .int .i64 0, .int .i64 0, .bool false, .int .i64 0] 115 (0, 0)) w0 fun b0 w1 =>
 StC w1 (⟨b0, 0, none⟩) (.int .i64 r1) fun w2 =>
 StC w2 (Addr.add (⟨b0, 0, none⟩) 1) (.int .i64 r2) fun w3 =>
 StC w3 (Addr.add (⟨b0, 0, none⟩) 2) (.int .i64 r3) fun w4 =>
 StC w4 (Addr.add (⟨b0, 0, none⟩) 3) (.bool r4) fun w5 =>
 StC w5 (Addr.add (⟨b0, 0, none⟩) 4) (.int .i64 r5) fun w6 =>
 cond (r6 != 0)
 (R (.returned (.tuple #[.int .u64 0, .int .i64 r6])) w6)
 (cond (decide (i0 < 0))
 (R (.returned (.tuple #[.int .u64 0, .int .i64 1])) w6)
 (LdI .i64 w6 (Addr.add (⟨b0, 0, none⟩) 1) fun n0 =>
 cond (decide (i0 ≥ n0))
 (R (.returned (.tuple #[.int .u64 0, .int .i64 1])) w6)
 (onSome h0 fun a0 =>
 LdP w6 a0 fun p0 =>
 Calls Tryz.prog 128 #[.pointer p0, .int .i64 r0, .int .i64 i0] w6 fun e1 w7 =>
 ∃ (r7 : Int), ∃ (r8 : Int), e1 = .returned (.tuple #[.int .u64 r7, .int .i64 r8]) /\
 R (.returned (.tuple #[.int .u64 r7, .int .i64 r8])) w7)))
def S_heap_Heap_Ref_ann : Ann := .leaf
theorem S_heap_Heap_Ref_ok (h0 : Option Addr) (x0 : Int) (i0 : Int) (w : World) (R : Ending -> World -> Prop) (h : S_heap_Heap_Ref h0 x0 i0 w R) : Calls Tryz.prog 83 #[.pointer h0, .int .u64 x0, .int .i64 i0] w R :=
 calls_of_X (c := bodyOf Tryz.f83) (an := S_heap_Heap_Ref_ann) wide_ok Tryz.func83 (by kernel_rfl) (by kernel_rfl) (cast (by kernel_rfl) h)
def S_heap_New (words0 : Int) (slots0 : Int) (w : World) (R : Ending -> World -> Prop) : Prop :=
 Calls Tryz.prog 129 #[.int .i64 words0] w fun e0 w0 =>
 ∃ (r0 : Option Addr), ∃ (r1 : Int), e0 = .returned (.tuple #[.pointer r0, .int .i64 r1]) /\
 cond (r1 != 0)
 (R (.returned (.tuple #[.pointer none, .int .i64 r1])) w0)
 (Calls Tryz.prog 130 #[.int .i64 slots0] w0 fun e1 w1 =>
 ∃ (r2 : Option Addr), ∃ (r3 : Int), e1 = .returned (.tuple #[.pointer r2, .int .i64 r3]) /\
 cond (r3 != 0)
 (R (.returned (.tuple #[.pointer none, .int .i64 r3])) w1)
 (NewC (.cells #[.pointer r0, .pointer r2, .int .u64 0, .int .u64 0, .int .u64 0, .int .u64 0, .int .u64 0, .int .u64 0, .int .u64 0, .int .u64 0, .int .u64 0, .int .u64 0, .int .u64 0, .int .u64 0, .int .u64 0, .int .u64 0, .int .u64 0, .int .u64 0, .nilIface] 106 (0, 0)) w1 fun b0 w2 =>
 R (.returned (.tuple #[.pointer (some (⟨b0, 0, none⟩)), .int .i64 0])) w2))
def S_heap_New_ann : Ann := .leaf
theorem S_heap_New_ok (words0 : Int) (slots0 : Int) (w : World) (R : Ending -> World -> Prop) (h : S_heap_New words0 slots0 w R) : Calls Tryz.prog 84 #[.int .i64 words0, .int .i64 slots0] w R :=
 calls_of_X (c := bodyOf Tryz.f84) (an := S_heap_New_ann) wide_ok Tryz.func84 (by kernel_rfl) (by kernel_rfl) (cast (by kernel_rfl) h)
def S_heap_Heap_linked (h0 : Option Addr) (y0 : Int) (w : World) (R : Ending -> World -> Prop) : Prop :=
 cond (y0 != 0)
 (onSome h0 fun a0 =>
 LdV w (Addr.add a0 18) fun v0 =>
 IsN v0 fun b0 =>
 cond (!b0)
 (onSome h0 fun a1 =>
 LdV w (Addr.add a1 18) fun v1 =>
 InvC Tryz.prog v1 "Linked" #[.int .u64 y0] w fun w0 =>
 R (.returned (.tuple #[])) w0)
 (R (.returned (.tuple #[])) w))
 (R (.returned (.tuple #[])) w)
def S_heap_Heap_linked_ann : Ann := .leaf
theorem S_heap_Heap_linked_ok (h0 : Option Addr) (y0 : Int) (w : World) (R : Ending -> World -> Prop) (h : S_heap_Heap_linked h0 y0 w R) : Calls Tryz.prog 85 #[.pointer h0, .int .u64 y0] w R :=
 calls_of_X (c := bodyOf Tryz.f85) (an := S_heap_Heap_linked_ann) wide_ok Tryz.func85 (by kernel_rfl) (by kernel_rfl) (cast (by kernel_rfl) h)
def S_arena_Fits (tag0 : Int) (refs0 : Int) (size0 : Int) (owner0 : Int) (w : World) (R : Ending -> World -> Prop) : Prop :=
 cond (decide (tag0 < 1))
 (R (.returned (.int .i64 1)) w)
 (cond (decide (tag0 > 255))
 (R (.returned (.int .i64 1)) w)
 (cond (decide (size0 < 0))
 (R (.returned (.int .i64 1)) w)
 (cond (decide (size0 > 4096))
 (R (.returned (.int .i64 1)) w)
 (cond (decide (refs0 < 0))
 (R (.returned (.int .i64 1)) w)
 (cond (decide (refs0 > size0))
 (R (.returned (.int .i64 1)) w)
 (cond (decide (owner0 < 0))
 (R (.returned (.int .i64 1)) w)
 (cond (decide (owner0 ≥ 1048576))
 (R (.returned (.int .i64 1)) w)
 (R (.returned (.int .i64 0)) w))))))))
def S_arena_Fits_ann : Ann := .leaf
theorem S_arena_Fits_ok (tag0 : Int) (refs0 : Int) (size0 : Int) (owner0 : Int) (w : World) (R : Ending -> World -> Prop) (h : S_arena_Fits tag0 refs0 size0 owner0 w R) : Calls Tryz.prog 86 #[.int .i64 tag0, .int .i64 refs0, .int .i64 size0, .int .i64 owner0] w R :=
 calls_of_X (c := bodyOf Tryz.f86) (an := S_arena_Fits_ann) wide_ok Tryz.func86 (by kernel_rfl) (by kernel_rfl) (cast (by kernel_rfl) h)
def S_handle_Table_Make_j0 (t0 : Option Addr) (at0 : Int) (R : Ending -> World -> Prop) (r0 : Int) (a3 : Addr) (w3 : World) : Prop :=
 StC w3 (Addr.add a3 1) (.bool true) fun w4 =>
 StC w4 (Addr.add a3 2) (.int .i64 at0) fun w5 =>
 StC w5 (Addr.add a3 3) (.int .i64 0) fun w6 =>
 onSome t0 fun a8 =>
 LdI .i64 w6 (Addr.add a8 3) fun n4 =>
 onSome t0 fun a9 =>
 StC w6 (Addr.add a9 3) (.int .i64 (IntKind.wrap .i64 (n4 + 1))) fun w7 =>
 Calls Tryz.prog 123 #[.pointer t0, .int .i64 r0] w7 fun e1 w8 =>
 ∃ (r1 : Int), e1 = .returned (.int .u64 r1) /\
 R (.returned (.tuple #[.int .u64 r1, .int .i64 0])) w8
def S_handle_Table_Make (t0 : Option Addr) (at0 : Int) (w : World) (R : Ending -> World -> Prop) : Prop :=
 cond (decide (at0 < 0))
 (R (.returned (.tuple #[.int .u64 0, .int .i64 1])) w)
 (onSome t0 fun a0 =>
 LdI .i64 (World.drew w) (Addr.add a0 3) fun n0 =>
 onSome t0 fun a1 =>
 LdS (World.drew w) a1 fun _ s0l _ =>
 cond (n0 == (Nat.cast s0l : Int))
 (R (.returned (.tuple #[.int .u64 0, .int .i64 5])) (World.drew w))
 (Calls Tryz.prog 131 #[.pointer t0] (World.drew w) fun e0 w0 =>
 ∃ (r0 : Int), e0 = .returned (.int .i64 r0) /\
 onSome t0 fun a2 =>
 LdS w0 a2 fun s1p s1l _ =>
 IdxC s1p s1l r0 4 fun a3 =>
 ∀ k0 : World -> Prop,
 (∀ (w3 : World), S_handle_Table_Make_j0 t0 at0 R r0 a3 w3 -> k0 w3) ->
 onSome t0 fun a4 =>
 LdI .i64 w0 (Addr.add a4 2) fun n1 =>
 cond (decide (n1 > 0))
 (LdI .i64 w0 (Addr.add a3 3) fun n2 =>
 onSome t0 fun a5 =>
 StC w0 (Addr.add a5 2) (.int .i64 n2) fun w1 =>
 k0 w1)
 (onSome t0 fun a6 =>
 LdI .i64 w0 (Addr.add a6 1) fun n3 =>
 onSome t0 fun a7 =>
 StC w0 (Addr.add a7 1) (.int .i64 (IntKind.wrap .i64 (n3 + 1))) fun w2 =>
 k0 w2)))
def S_handle_Table_Make_ann : Ann := (.seq .leaf (.seq (.block (.seq .leaf (.cond .leaf (.seq (.draw 11) .leaf)))) (.seq .leaf (.seq .leaf (.join [0, 1, 6, 7] [] .leaf .leaf)))))
theorem S_handle_Table_Make_ok (t0 : Option Addr) (at0 : Int) (w : World) (R : Ending -> World -> Prop) (h : S_handle_Table_Make t0 at0 w R) : Calls Tryz.prog 87 #[.pointer t0, .int .i64 at0] w R :=
 calls_of_X (c := bodyOf Tryz.f87) (an := S_handle_Table_Make_ann) wide_ok Tryz.func87 (by kernel_rfl) (by kernel_rfl) (cast (by kernel_rfl) h)
def S_arena_Arena_Alloc (a0 : Option Addr) (tag0 : Int) (refs0 : Int) (size0 : Int) (owner0 : Int) (w : World) (R : Ending -> World -> Prop) : Prop :=
 Calls Tryz.prog 86 #[.int .i64 tag0, .int .i64 refs0, .int .i64 size0, .int .i64 owner0] w fun e0 w0 =>
 ∃ (r0 : Int), e0 = .returned (.int .i64 r0) /\
 cond (r0 != 0)
 (R (.returned (.tuple #[.int .i64 0, .int .i64 1])) w0)
 (Calls Tryz.prog 23 #[.pointer a0] w0 fun e1 w1 =>
 ∃ (r1 : Int), e1 = .returned (.int .i64 r1) /\
 cond (decide (r1 < (IntKind.wrap .i64 (size0 + 1))))
 (R (.returned (.tuple #[.int .i64 0, .int .i64 5])) w1)
 (onSome a0 fun a1 =>
 LdI .i64 w1 (Addr.add a1 2) fun n0 =>
 ∃ C0 : World -> Prop, C0 (World.drew w1) /\
 onSome a0 fun a2 =>
 LdSQ C0 a2 fun s0p s0l _ =>
 Calls Tryz.prog 132 #[.agg #[.int .i64 tag0, .int .i64 refs0, .int .i64 size0, .bool false, .int .i64 owner0]] (World.drew w1) fun e2 w2 =>
 ∃ (r2 : Int), e2 = .returned (.int .u64 r2) /\
 C0 w2 /\
 IdxC s0p s0l n0 1 fun a3 =>
 StC w2 a3 (.int .u64 r2) fun w3 =>
 C0 w3 /\
 onSome a0 fun a4 =>
 LdS w3 a4 fun s1p _ s1c =>
 SlC s1p s1c (IntKind.wrap .i64 (n0 + 1)) (IntKind.wrap .i64 ((IntKind.wrap .i64 (n0 + 1)) + size0)) (Nat.cast s1c : Int) 1 fun s2p s2l s2c =>
 RunU Tryz.prog (Builtin.clear_ #[25] 0 #[.slice s2p s2l s2c]) w3 fun w4 =>
 Calls Tryz.prog 133 #[.pointer a0, .int .i64 n0, .bool true] w4 fun e3 w5 =>
 e3 = .returned (.tuple #[]) /\
 onSome a0 fun a5 =>
 LdI .i64 w5 (Addr.add a5 2) fun n1 =>
 onSome a0 fun a6 =>
 StC w5 (Addr.add a6 2) (.int .i64 (IntKind.wrap .i64 (n1 + (IntKind.wrap .i64 (size0 + 1))))) fun w6 =>
 R (.returned (.tuple #[.int .i64 n0, .int .i64 0])) w6))
def S_arena_Arena_Alloc_ann : Ann := (.seq .leaf (.seq .leaf (.seq .leaf (.seq .any .leaf))))
theorem S_arena_Arena_Alloc_ok (a0 : Option Addr) (tag0 : Int) (refs0 : Int) (size0 : Int) (owner0 : Int) (w : World) (R : Ending -> World -> Prop) (h : S_arena_Arena_Alloc a0 tag0 refs0 size0 owner0 w R) : Calls Tryz.prog 88 #[.pointer a0, .int .i64 tag0, .int .i64 refs0, .int .i64 size0, .int .i64 owner0] w R :=
 calls_of_X (c := bodyOf Tryz.f88) (an := S_arena_Arena_Alloc_ann) wide_ok Tryz.func88 (by kernel_rfl) (by kernel_rfl) (cast (by kernel_rfl) h)
def S_arena_Arena_Put (a0 : Option Addr) (at0 : Int) (i0 : Int) (w0 : Int) (w : World) (R : Ending -> World -> Prop) : Prop :=
 Calls Tryz.prog 134 #[.pointer a0, .int .i64 at0, .int .i64 i0] w fun e0 w1 =>
 ∃ (r0 : Int), ∃ (r1 : Int), e0 = .returned (.tuple #[.int .i64 r0, .int .i64 r1]) /\
 cond (r1 == 0)
 (onSome a0 fun a1 =>
 LdS w1 a1 fun s0p s0l _ =>
 IdxC s0p s0l r0 1 fun a2 =>
 StC w1 a2 (.int .u64 w0) fun w2 =>
 R (.returned (.int .i64 r1)) w2)
 (R (.returned (.int .i64 r1)) w1)
def S_arena_Arena_Put_ann : Ann := .leaf
theorem S_arena_Arena_Put_ok (a0 : Option Addr) (at0 : Int) (i0 : Int) (w0 : Int) (w : World) (R : Ending -> World -> Prop) (h : S_arena_Arena_Put a0 at0 i0 w0 w R) : Calls Tryz.prog 89 #[.pointer a0, .int .i64 at0, .int .i64 i0, .int .u64 w0] w R :=
 calls_of_X (c := bodyOf Tryz.f89) (an := S_arena_Arena_Put_ann) wide_ok Tryz.func89 (by kernel_rfl) (by kernel_rfl) (cast (by kernel_rfl) h)
def S_heap_Heap_scalar (h0 : Option Addr) (x0 : Int) (i0 : Int) (w : World) (R : Ending -> World -> Prop) : Prop :=
 Calls Tryz.prog 75 #[.pointer h0, .int .u64 x0] w fun e0 w0 =>
 ∃ (r0 : Int), ∃ (r1 : Int), ∃ (r2 : Int), ∃ (r3 : Int), ∃ (r4 : Bool), ∃ (r5 : Int), ∃ (r6 : Int), e0 = .returned (.tuple #[.int .i64 r0, .agg #[.int .i64 r1, .int .i64 r2, .int .i64 r3, .bool r4, .int .i64 r5], .int .i64 r6]) /\
 NewC (.cells #[.int .i64 0, .int .i64 0, .int .i64 0, .bool false, .int .i64 0] 115 (0, 0)) w0 fun b0 w1 =>
 StC w1 (⟨b0, 0, none⟩) (.int .i64 r1) fun w2 =>
 StC w2 (Addr.add (⟨b0, 0, none⟩) 1) (.int .i64 r2) fun w3 =>
 StC w3 (Addr.add (⟨b0, 0, none⟩) 2) (.int .i64 r3) fun w4 =>
 StC w4 (Addr.add (⟨b0, 0, none⟩) 3) (.bool r4) fun w5 =>
 StC w5 (Addr.add (⟨b0, 0, none⟩) 4) (.int .i64 r5) fun w6 =>
 cond (r6 != 0)
 (R (.returned (.tuple #[.int .i64 0, .int .i64 0, .int .i64 r6])) w6)
 (cond (decide (i0 < 0))
 (R (.returned (.tuple #[.int .i64 0, .int .i64 0, .int .i64 1])) w6)
 (LdI .i64 w6 (Addr.add (⟨b0, 0, none⟩) 2) fun n0 =>
 LdI .i64 w6 (Addr.add (⟨b0, 0, none⟩) 1) fun n1 =>
 cond (decide (i0 ≥ (IntKind.wrap .i64 (n0 - n1))))
 (R (.returned (.tuple #[.int .i64 0, .int .i64 0, .int .i64 1])) w6)
 (LdI .i64 (World.drew w6) (Addr.add (⟨b0, 0, none⟩) 1) fun n2 =>
 R (.returned (.tuple #[.int .i64 r0, .int .i64 (IntKind.wrap .i64 (n2 + i0)), .int .i64 0])) (World.drew w6))))
def S_heap_Heap_scalar_ann : Ann := (.seq .leaf (.seq .leaf (.seq .leaf (.seq (.draw 8) .leaf))))
theorem S_heap_Heap_scalar_ok (h0 : Option Addr) (x0 : Int) (i0 : Int) (w : World) (R : Ending -> World -> Prop) (h : S_heap_Heap_scalar h0 x0 i0 w R) : Calls Tryz.prog 90 #[.pointer h0, .int .u64 x0, .int .i64 i0] w R :=
 calls_of_X (c := bodyOf Tryz.f90) (an := S_heap_Heap_scalar_ann) wide_ok Tryz.func90 (by kernel_rfl) (by kernel_rfl) (cast (by kernel_rfl) h)
def S_handle_Table_find (t0 : Option Addr) (h0 : Int) (w : World) (R : Ending -> World -> Prop) : Prop :=
 cond (decide ((IntKind.wrap .i64 ((IntKind.wrap .i64 (bAnd .u64 h0 4294967295)) - 1)) < 0))
 (R (.returned (.tuple #[.int .i64 0, .int .i64 6])) w)
 (onSome t0 fun a0 =>
 LdS w a0 fun _ s0l _ =>
 cond (decide ((IntKind.wrap .i64 ((IntKind.wrap .i64 (bAnd .u64 h0 4294967295)) - 1)) ≥ (Nat.cast s0l : Int)))
 (R (.returned (.tuple #[.int .i64 0, .int .i64 6])) w)
 (onSome t0 fun a1 =>
 LdS w a1 fun s1p s1l _ =>
 IdxC s1p s1l (IntKind.wrap .i64 ((IntKind.wrap .i64 (bAnd .u64 h0 4294967295)) - 1)) 4 fun a2 =>
 LdB w (Addr.add a2 1) fun b0 =>
 cond (!b0)
 (R (.returned (.tuple #[.int .i64 0, .int .i64 6])) w)
 (onSome t0 fun a3 =>
 LdS w a3 fun s2p s2l _ =>
 IdxC s2p s2l (IntKind.wrap .i64 ((IntKind.wrap .i64 (bAnd .u64 h0 4294967295)) - 1)) 4 fun a4 =>
 LdI .u32 w a4 fun n0 =>
 cond ((IntKind.wrap .u64 n0) != (bShr .u64 h0 32))
 (R (.returned (.tuple #[.int .i64 0, .int .i64 6])) w)
 (R (.returned (.tuple #[.int .i64 (IntKind.wrap .i64 ((IntKind.wrap .i64 (bAnd .u64 h0 4294967295)) - 1)), .int .i64 0])) w))))
def S_handle_Table_find_ann : Ann := .leaf
theorem S_handle_Table_find_ok (t0 : Option Addr) (h0 : Int) (w : World) (R : Ending -> World -> Prop) (h : S_handle_Table_find t0 h0 w R) : Calls Tryz.prog 97 #[.pointer t0, .int .u64 h0] w R :=
 calls_of_X (c := bodyOf Tryz.f97) (an := S_handle_Table_find_ann) wide_ok Tryz.func97 (by kernel_rfl) (by kernel_rfl) (cast (by kernel_rfl) h)
def S_heap_Heap_Word (h0 : Option Addr) (x0 : Int) (i0 : Int) (w : World) (R : Ending -> World -> Prop) : Prop :=
 Calls Tryz.prog 90 #[.pointer h0, .int .u64 x0, .int .i64 i0] w fun e0 w0 =>
 ∃ (r0 : Int), ∃ (r1 : Int), ∃ (r2 : Int), e0 = .returned (.tuple #[.int .i64 r0, .int .i64 r1, .int .i64 r2]) /\
 cond (r2 != 0)
 (R (.returned (.tuple #[.int .u64 0, .int .i64 r2])) w0)
 (onSome h0 fun a0 =>
 LdP w0 a0 fun p0 =>
 Calls Tryz.prog 128 #[.pointer p0, .int .i64 r0, .int .i64 r1] w0 fun e1 w1 =>
 ∃ (r3 : Int), ∃ (r4 : Int), e1 = .returned (.tuple #[.int .u64 r3, .int .i64 r4]) /\
 R (.returned (.tuple #[.int .u64 r3, .int .i64 r4])) w1)
def S_heap_Heap_Word_ann : Ann := .leaf
theorem S_heap_Heap_Word_ok (h0 : Option Addr) (x0 : Int) (i0 : Int) (w : World) (R : Ending -> World -> Prop) (h : S_heap_Heap_Word h0 x0 i0 w R) : Calls Tryz.prog 110 #[.pointer h0, .int .u64 x0, .int .i64 i0] w R :=
 calls_of_X (c := bodyOf Tryz.f110) (an := S_heap_Heap_Word_ann) wide_ok Tryz.func110 (by kernel_rfl) (by kernel_rfl) (cast (by kernel_rfl) h)
def S_arena_Arena_Mark (a0 : Option Addr) (at0 : Int) (on0 : Bool) (w : World) (R : Ending -> World -> Prop) : Prop :=
 Calls Tryz.prog 77 #[.pointer a0, .int .i64 at0] w fun e0 w0 =>
 ∃ (r0 : Int), ∃ (r1 : Int), ∃ (r2 : Int), ∃ (r3 : Bool), ∃ (r4 : Int), ∃ (r5 : Int), e0 = .returned (.tuple #[.agg #[.int .i64 r0, .int .i64 r1, .int .i64 r2, .bool r3, .int .i64 r4], .int .i64 r5]) /\
 NewC (.cells #[.int .i64 0, .int .i64 0, .int .i64 0, .bool false, .int .i64 0] 115 (0, 0)) w0 fun b0 w1 =>
 StC w1 (⟨b0, 0, none⟩) (.int .i64 r0) fun w2 =>
 StC w2 (Addr.add (⟨b0, 0, none⟩) 1) (.int .i64 r1) fun w3 =>
 StC w3 (Addr.add (⟨b0, 0, none⟩) 2) (.int .i64 r2) fun w4 =>
 StC w4 (Addr.add (⟨b0, 0, none⟩) 3) (.bool r3) fun w5 =>
 StC w5 (Addr.add (⟨b0, 0, none⟩) 4) (.int .i64 r4) fun w6 =>
 cond (r5 == 0)
 (StC w6 (Addr.add (⟨b0, 0, none⟩) 3) (.bool on0) fun w7 =>
 ∃ C0 : World -> Prop, C0 (World.drew w7) /\
 onSome a0 fun a1 =>
 LdSQ C0 a1 fun s0p s0l _ =>
 ∃ (n0 : Int), ∃ (n1 : Int), ∃ (n2 : Int), ∃ (b1 : Bool), ∃ (n3 : Int), (∀ (w8 : World), C0 w8 ->
 LdI .i64 w8 (⟨b0, 0, none⟩) fun n4 =>
 LdI .i64 w8 (Addr.add (⟨b0, 0, none⟩) 1) fun n5 =>
 LdI .i64 w8 (Addr.add (⟨b0, 0, none⟩) 2) fun n6 =>
 LdB w8 (Addr.add (⟨b0, 0, none⟩) 3) fun b2 =>
 LdI .i64 w8 (Addr.add (⟨b0, 0, none⟩) 4) fun n7 =>
 Value.agg #[.int .i64 n4, .int .i64 n5, .int .i64 n6, .bool b2, .int .i64 n7] = .agg #[.int .i64 n0, .int .i64 n1, .int .i64 n2, .bool b1, .int .i64 n3]) /\
 Calls Tryz.prog 132 #[.agg #[.int .i64 n0, .int .i64 n1, .int .i64 n2, .bool b1, .int .i64 n3]] (World.drew w7) fun e1 w9 =>
 ∃ (r6 : Int), e1 = .returned (.int .u64 r6) /\
 C0 w9 /\
 IdxC s0p s0l at0 1 fun a2 =>
 StC w9 a2 (.int .u64 r6) fun w10 =>
 C0 w10 /\
 R (.returned (.int .i64 r5)) w10)
 (R (.returned (.int .i64 r5)) w6)
def S_arena_Arena_Mark_ann : Ann := (.seq .leaf (.seq .leaf (.seq (.seq .leaf (.cond (.seq .leaf .any) .leaf)) .leaf)))
theorem S_arena_Arena_Mark_ok (a0 : Option Addr) (at0 : Int) (on0 : Bool) (w : World) (R : Ending -> World -> Prop) (h : S_arena_Arena_Mark a0 at0 on0 w R) : Calls Tryz.prog 113 #[.pointer a0, .int .i64 at0, .bool on0] w R :=
 calls_of_X (c := bodyOf Tryz.f113) (an := S_arena_Arena_Mark_ann) wide_ok Tryz.func113 (by kernel_rfl) (by kernel_rfl) (cast (by kernel_rfl) h)
def S_heap_Heap_Root (h0 : Option Addr) (i0 : Int) (w : World) (R : Ending -> World -> Prop) : Prop :=
 cond (decide (i0 < 0))
 (R (.returned (.tuple #[.int .u64 0, .int .i64 1])) w)
 (cond (decide (i0 ≥ 16))
 (R (.returned (.tuple #[.int .u64 0, .int .i64 1])) w)
 (onSome h0 fun a0 =>
 IdxF 16 i0
 (LdI .u64 w (Addr.add (Addr.add a0 2) (Int.toNat i0 * 1)) fun n0 =>
 R (.returned (.tuple #[.int .u64 n0, .int .i64 0])) w)))
def S_heap_Heap_Root_ann : Ann := .leaf
theorem S_heap_Heap_Root_ok (h0 : Option Addr) (i0 : Int) (w : World) (R : Ending -> World -> Prop) (h : S_heap_Heap_Root h0 i0 w R) : Calls Tryz.prog 114 #[.pointer h0, .int .i64 i0] w R :=
 calls_of_X (c := bodyOf Tryz.f114) (an := S_heap_Heap_Root_ann) wide_ok Tryz.func114 (by kernel_rfl) (by kernel_rfl) (cast (by kernel_rfl) h)
def S_arena_Arena_Gap (a0 : Option Addr) (w : World) (R : Ending -> World -> Prop) : Prop :=
 onSome a0 fun a1 =>
 LdI .i64 (World.drew w) (Addr.add a1 3) fun n0 =>
 onSome a0 fun a2 =>
 LdI .i64 (World.drew w) (Addr.add a2 4) fun n1 =>
 onSome a0 fun a3 =>
 LdB (World.drew w) (Addr.add a3 5) fun b0 =>
 R (.returned (.tuple #[.int .i64 n0, .int .i64 n1, .bool b0])) (World.drew w)
def S_arena_Arena_Gap_ann : Ann := (.seq .leaf (.seq (.draw 15) .leaf))
theorem S_arena_Arena_Gap_ok (a0 : Option Addr) (w : World) (R : Ending -> World -> Prop) (h : S_arena_Arena_Gap a0 w R) : Calls Tryz.prog 117 #[.pointer a0] w R :=
 calls_of_X (c := bodyOf Tryz.f117) (an := S_arena_Arena_Gap_ann) wide_ok Tryz.func117 (by kernel_rfl) (by kernel_rfl) (cast (by kernel_rfl) h)
def S_arena_Arena_Close (a0 : Option Addr) (w : World) (R : Ending -> World -> Prop) : Prop :=
 onSome a0 fun a1 =>
 LdB w (Addr.add a1 5) fun b0 =>
 cond (!b0)
 (R (.returned (.int .i64 16)) w)
 (onSome a0 fun a2 =>
 LdI .i64 (World.drew w) (Addr.add a2 4) fun n0 =>
 onSome a0 fun a3 =>
 LdI .i64 (World.drew w) (Addr.add a3 2) fun n1 =>
 cond (n0 != n1)
 (R (.returned (.int .i64 20)) (World.drew w))
 (onSome a0 fun a4 =>
 LdI .i64 (World.drew w) (Addr.add a4 3) fun n2 =>
 onSome a0 fun a5 =>
 StC (World.drew w) (Addr.add a5 2) (.int .i64 n2) fun w0 =>
 onSome a0 fun a6 =>
 StC w0 (Addr.add a6 5) (.bool false) fun w1 =>
 onSome a0 fun a7 =>
 StC w1 (Addr.add a7 3) (.int .i64 0) fun w2 =>
 onSome a0 fun a8 =>
 StC w2 (Addr.add a8 4) (.int .i64 0) fun w3 =>
 R (.returned (.int .i64 0)) w3))
def S_arena_Arena_Close_ann : Ann := (.seq .leaf (.seq (.block (.seq .leaf (.cond .leaf (.seq (.draw 10) .leaf)))) .leaf))
theorem S_arena_Arena_Close_ok (a0 : Option Addr) (w : World) (R : Ending -> World -> Prop) (h : S_arena_Arena_Close a0 w R) : Calls Tryz.prog 118 #[.pointer a0] w R :=
 calls_of_X (c := bodyOf Tryz.f118) (an := S_arena_Arena_Close_ann) wide_ok Tryz.func118 (by kernel_rfl) (by kernel_rfl) (cast (by kernel_rfl) h)
def S_arena_Arena_Skip (a0 : Option Addr) (w : World) (R : Ending -> World -> Prop) : Prop :=
 Calls Tryz.prog 147 #[.pointer a0] w fun e0 w0 =>
 ∃ (r0 : Int), ∃ (r1 : Int), ∃ (r2 : Int), ∃ (r3 : Bool), ∃ (r4 : Int), ∃ (r5 : Int), e0 = .returned (.tuple #[.agg #[.int .i64 r0, .int .i64 r1, .int .i64 r2, .bool r3, .int .i64 r4], .int .i64 r5]) /\
 NewC (.cells #[.int .i64 0, .int .i64 0, .int .i64 0, .bool false, .int .i64 0] 115 (0, 0)) w0 fun b0 w1 =>
 StC w1 (⟨b0, 0, none⟩) (.int .i64 r0) fun w2 =>
 StC w2 (Addr.add (⟨b0, 0, none⟩) 1) (.int .i64 r1) fun w3 =>
 StC w3 (Addr.add (⟨b0, 0, none⟩) 2) (.int .i64 r2) fun w4 =>
 StC w4 (Addr.add (⟨b0, 0, none⟩) 3) (.bool r3) fun w5 =>
 StC w5 (Addr.add (⟨b0, 0, none⟩) 4) (.int .i64 r4) fun w6 =>
 cond (r5 != 0)
 (R (.returned (.tuple #[.int .i64 0, .int .i64 r5])) w6)
 (onSome a0 fun a1 =>
 LdI .i64 w6 (Addr.add a1 4) fun n0 =>
 Calls Tryz.prog 133 #[.pointer a0, .int .i64 n0, .bool false] w6 fun e1 w7 =>
 e1 = .returned (.tuple #[]) /\
 onSome a0 fun a2 =>
 LdI .i64 (World.drew w7) (Addr.add a2 4) fun n1 =>
 LdI .i64 (World.drew w7) (Addr.add (⟨b0, 0, none⟩) 2) fun n2 =>
 onSome a0 fun a3 =>
 StC (World.drew w7) (Addr.add a3 4) (.int .i64 (IntKind.wrap .i64 (n1 + (IntKind.wrap .i64 (1 + n2))))) fun w8 =>
 R (.returned (.tuple #[.int .i64 n0, .int .i64 0])) w8)
def S_arena_Arena_Skip_ann : Ann := (.seq .leaf (.seq .leaf (.seq .leaf (.seq .leaf (.seq .leaf (.seq (.draw 10) .leaf))))))
theorem S_arena_Arena_Skip_ok (a0 : Option Addr) (w : World) (R : Ending -> World -> Prop) (h : S_arena_Arena_Skip a0 w R) : Calls Tryz.prog 119 #[.pointer a0] w R :=
 calls_of_X (c := bodyOf Tryz.f119) (an := S_arena_Arena_Skip_ann) wide_ok Tryz.func119 (by kernel_rfl) (by kernel_rfl) (cast (by kernel_rfl) h)
def S_handle_Table_Free (t0 : Option Addr) (h0 : Int) (w : World) (R : Ending -> World -> Prop) : Prop :=
 Calls Tryz.prog 97 #[.pointer t0, .int .u64 h0] w fun e0 w0 =>
 ∃ (r0 : Int), ∃ (r1 : Int), e0 = .returned (.tuple #[.int .i64 r0, .int .i64 r1]) /\
 cond (r1 != 0)
 (R (.returned (.int .i64 r1)) w0)
 (onSome t0 fun a0 =>
 LdS w0 a0 fun s0p s0l _ =>
 IdxC s0p s0l r0 4 fun a1 =>
 LdI .u32 (World.drew w0) a1 fun n0 =>
 onSome t0 fun a2 =>
 LdI .i64 (World.drew w0) (Addr.add a2 2) fun n1 =>
 StC (World.drew w0) a1 (.int .u32 (IntKind.wrap .u32 (n0 + 1))) fun w1 =>
 StC w1 (Addr.add a1 1) (.bool false) fun w2 =>
 StC w2 (Addr.add a1 2) (.int .i64 0) fun w3 =>
 StC w3 (Addr.add a1 3) (.int .i64 n1) fun w4 =>
 onSome t0 fun a3 =>
 StC w4 (Addr.add a3 2) (.int .i64 (IntKind.wrap .i64 (r0 + 1))) fun w5 =>
 onSome t0 fun a4 =>
 LdI .i64 w5 (Addr.add a4 3) fun n2 =>
 onSome t0 fun a5 =>
 StC w5 (Addr.add a5 3) (.int .i64 (IntKind.wrap .i64 (n2 - 1))) fun w6 =>
 R (.returned (.int .i64 0)) w6)
def S_handle_Table_Free_ann : Ann := (.seq .leaf (.seq .leaf (.seq .leaf (.seq .leaf (.seq (.draw 12) .leaf)))))
theorem S_handle_Table_Free_ok (t0 : Option Addr) (h0 : Int) (w : World) (R : Ending -> World -> Prop) (h : S_handle_Table_Free t0 h0 w R) : Calls Tryz.prog 120 #[.pointer t0, .int .u64 h0] w R :=
 calls_of_X (c := bodyOf Tryz.f120) (an := S_handle_Table_Free_ann) wide_ok Tryz.func120 (by kernel_rfl) (by kernel_rfl) (cast (by kernel_rfl) h)
def S_arena_Arena_Keep (a0 : Option Addr) (w : World) (R : Ending -> World -> Prop) : Prop :=
 Calls Tryz.prog 147 #[.pointer a0] w fun e0 w0 =>
 ∃ (r0 : Int), ∃ (r1 : Int), ∃ (r2 : Int), ∃ (r3 : Bool), ∃ (r4 : Int), ∃ (r5 : Int), e0 = .returned (.tuple #[.agg #[.int .i64 r0, .int .i64 r1, .int .i64 r2, .bool r3, .int .i64 r4], .int .i64 r5]) /\
 NewC (.cells #[.int .i64 0, .int .i64 0, .int .i64 0, .bool false, .int .i64 0] 115 (0, 0)) w0 fun b0 w1 =>
 StC w1 (⟨b0, 0, none⟩) (.int .i64 r0) fun w2 =>
 StC w2 (Addr.add (⟨b0, 0, none⟩) 1) (.int .i64 r1) fun w3 =>
 StC w3 (Addr.add (⟨b0, 0, none⟩) 2) (.int .i64 r2) fun w4 =>
 StC w4 (Addr.add (⟨b0, 0, none⟩) 3) (.bool r3) fun w5 =>
 StC w5 (Addr.add (⟨b0, 0, none⟩) 4) (.int .i64 r4) fun w6 =>
 cond (r5 != 0)
 (R (.returned (.tuple #[.int .i64 0, .int .i64 0, .int .i64 r5])) w6)
 (onSome a0 fun a1 =>
 LdI .i64 (World.drew w6) (Addr.add a1 4) fun n0 =>
 onSome a0 fun a2 =>
 LdI .i64 (World.drew w6) (Addr.add a2 3) fun n1 =>
 Calls Tryz.prog 133 #[.pointer a0, .int .i64 n0, .bool false] (World.drew w6) fun e1 w7 =>
 e1 = .returned (.tuple #[]) /\
 onSome a0 fun a3 =>
 LdS (World.drew w7) a3 fun s0p s0l s0c =>
 SlC s0p s0c n1 (Nat.cast s0l : Int) (Nat.cast s0c : Int) 1 fun s1p s1l s1c =>
 onSome a0 fun a4 =>
 LdS (World.drew w7) a4 fun s2p _ s2c =>
 LdI .i64 (World.drew w7) (Addr.add (⟨b0, 0, none⟩) 2) fun n2 =>
 SlC s2p s2c n0 (IntKind.wrap .i64 ((IntKind.wrap .i64 (n0 + 1)) + n2)) (Nat.cast s2c : Int) 1 fun s3p s3l s3c =>
 RunI Tryz.prog .i64 (Builtin.copy_ #[25, 25] 3 #[.slice s1p s1l s1c, .slice s3p s3l s3c]) (World.drew w7) fun _ w8 =>
 Calls Tryz.prog 133 #[.pointer a0, .int .i64 n1, .bool true] w8 fun e2 w9 =>
 e2 = .returned (.tuple #[]) /\
 ∃ C0 : World -> Prop, C0 (World.drew w9) /\
 LdIQ .i64 C0 (Addr.add (⟨b0, 0, none⟩) 2) fun n4 =>
 LdIQ .i64 C0 (Addr.add (⟨b0, 0, none⟩) 2) fun n5 =>
 onSome a0 fun a5 =>
 StC (World.drew w9) (Addr.add a5 3) (.int .i64 (IntKind.wrap .i64 ((IntKind.wrap .i64 (n1 + 1)) + n4))) fun w10 =>
 C0 w10 /\
 onSome a0 fun a6 =>
 StC w10 (Addr.add a6 4) (.int .i64 (IntKind.wrap .i64 ((IntKind.wrap .i64 (n0 + 1)) + n5))) fun w11 =>
 C0 w11 /\
 R (.returned (.tuple #[.int .i64 n0, .int .i64 n1, .int .i64 0])) w11)
def S_arena_Arena_Keep_ann : Ann := (.seq .leaf (.seq .leaf (.seq .leaf (.seq (.draw 10) (.seq .leaf (.seq (.draw 17) (.seq .leaf (.seq .any .leaf))))))))
theorem S_arena_Arena_Keep_ok (a0 : Option Addr) (w : World) (R : Ending -> World -> Prop) (h : S_arena_Arena_Keep a0 w R) : Calls Tryz.prog 121 #[.pointer a0] w R :=
 calls_of_X (c := bodyOf Tryz.f121) (an := S_arena_Arena_Keep_ann) wide_ok Tryz.func121 (by kernel_rfl) (by kernel_rfl) (cast (by kernel_rfl) h)
def S_handle_Table_Move (t0 : Option Addr) (h0 : Int) (at0 : Int) (w : World) (R : Ending -> World -> Prop) : Prop :=
 Calls Tryz.prog 97 #[.pointer t0, .int .u64 h0] w fun e0 w0 =>
 ∃ (r0 : Int), ∃ (r1 : Int), e0 = .returned (.tuple #[.int .i64 r0, .int .i64 r1]) /\
 cond (r1 != 0)
 (R (.returned (.int .i64 r1)) w0)
 (cond (decide (at0 < 0))
 (R (.returned (.int .i64 1)) w0)
 (onSome t0 fun a0 =>
 LdS w0 a0 fun s0p s0l _ =>
 IdxC s0p s0l r0 4 fun a1 =>
 StC w0 (Addr.add a1 2) (.int .i64 at0) fun w1 =>
 R (.returned (.int .i64 0)) w1))
def S_handle_Table_Move_ann : Ann := .leaf
theorem S_handle_Table_Move_ok (t0 : Option Addr) (h0 : Int) (at0 : Int) (w : World) (R : Ending -> World -> Prop) (h : S_handle_Table_Move t0 h0 at0 w R) : Calls Tryz.prog 122 #[.pointer t0, .int .u64 h0, .int .i64 at0] w R :=
 calls_of_X (c := bodyOf Tryz.f122) (an := S_handle_Table_Move_ann) wide_ok Tryz.func122 (by kernel_rfl) (by kernel_rfl) (cast (by kernel_rfl) h)
def S_handle_Table_handle (t0 : Option Addr) (i0 : Int) (w : World) (R : Ending -> World -> Prop) : Prop :=
 onSome t0 fun a0 =>
 LdS w a0 fun s0p s0l _ =>
 IdxC s0p s0l i0 4 fun a1 =>
 LdI .u32 w a1 fun n0 =>
 R (.returned (.int .u64 (bOr .u64 (bShl .u64 (IntKind.wrap .u64 n0) 32) (IntKind.wrap .u64 (IntKind.wrap .i64 (i0 + 1)))))) w
def S_handle_Table_handle_ann : Ann := .leaf
theorem S_handle_Table_handle_ok (t0 : Option Addr) (i0 : Int) (w : World) (R : Ending -> World -> Prop) (h : S_handle_Table_handle t0 i0 w R) : Calls Tryz.prog 123 #[.pointer t0, .int .i64 i0] w R :=
 calls_of_X (c := bodyOf Tryz.f123) (an := S_handle_Table_handle_ann) wide_ok Tryz.func123 (by kernel_rfl) (by kernel_rfl) (cast (by kernel_rfl) h)
def S_arena_Arena_from (a0 : Option Addr) (at0 : Int) (w : World) (R : Ending -> World -> Prop) : Prop :=
 onSome a0 fun a1 =>
 LdB w (Addr.add a1 5) fun b0 =>
 cond b0
 (onSome a0 fun a2 =>
 LdI .i64 w (Addr.add a2 3) fun n0 =>
 cond (at0 == n0)
 (onSome a0 fun a3 =>
 LdI .i64 w (Addr.add a3 4) fun n1 =>
 R (.returned (.int .i64 n1)) w)
 (R (.returned (.int .i64 at0)) w))
 (R (.returned (.int .i64 at0)) w)
def S_arena_Arena_from_ann : Ann := .leaf
theorem S_arena_Arena_from_ok (a0 : Option Addr) (at0 : Int) (w : World) (R : Ending -> World -> Prop) (h : S_arena_Arena_from a0 at0 w R) : Calls Tryz.prog 124 #[.pointer a0, .int .i64 at0] w R :=
 calls_of_X (c := bodyOf Tryz.f124) (an := S_arena_Arena_from_ann) wide_ok Tryz.func124 (by kernel_rfl) (by kernel_rfl) (cast (by kernel_rfl) h)
def S_arena_Arena_is (a0 : Option Addr) (at0 : Int) (w : World) (R : Ending -> World -> Prop) : Prop :=
 cond (decide (at0 ≥ 0))
 (onSome a0 fun a1 =>
 LdS w a1 fun _ s0l _ =>
 cond (decide (at0 < (Nat.cast s0l : Int)))
 (onSome a0 fun a2 =>
 LdS w (Addr.add a2 1) fun s1p s1l _ =>
 DivC 64
 (IdxC s1p s1l (IntKind.wrap .i64 (Int.tdiv at0 64)) 1 fun a3 =>
 LdI .u64 w a3 fun n0 =>
 DivC 64
 (ShC (Int.tmod at0 64)
 (R (.returned (.bool ((bAnd .u64 (bShr .u64 n0 (Int.tmod at0 64)) 1) == 1))) w))))
 (R (.returned (.bool false)) w))
 (R (.returned (.bool false)) w)
def S_arena_Arena_is_ann : Ann := .leaf
theorem S_arena_Arena_is_ok (a0 : Option Addr) (at0 : Int) (w : World) (R : Ending -> World -> Prop) (h : S_arena_Arena_is a0 at0 w R) : Calls Tryz.prog 125 #[.pointer a0, .int .i64 at0] w R :=
 calls_of_X (c := bodyOf Tryz.f125) (an := S_arena_Arena_is_ann) wide_ok Tryz.func125 (by kernel_rfl) (by kernel_rfl) (cast (by kernel_rfl) h)
def S_arena_unpacked (w0 : Int) (w : World) (R : Ending -> World -> Prop) : Prop :=
 NewC (.cells #[.int .i64 0, .int .i64 0, .int .i64 0, .bool false, .int .i64 0] 115 (0, 0)) w fun b0 w1 =>
 StC w1 (⟨b0, 0, none⟩) (.int .i64 (IntKind.wrap .i64 (bAnd .u64 w0 255))) fun w2 =>
 StC w2 (Addr.add (⟨b0, 0, none⟩) 1) (.int .i64 (IntKind.wrap .i64 (bAnd .u64 (bShr .u64 w0 9) 8191))) fun w3 =>
 StC w3 (Addr.add (⟨b0, 0, none⟩) 2) (.int .i64 (IntKind.wrap .i64 (bAnd .u64 (bShr .u64 w0 22) 8191))) fun w4 =>
 StC w4 (Addr.add (⟨b0, 0, none⟩) 3) (.bool ((bAnd .u64 (bShr .u64 w0 8) 1) == 1)) fun w5 =>
 StC w5 (Addr.add (⟨b0, 0, none⟩) 4) (.int .i64 (IntKind.wrap .i64 (bAnd .u64 (bShr .u64 w0 35) 1048575))) fun w6 =>
 LdI .i64 w6 (⟨b0, 0, none⟩) fun n0 =>
 LdI .i64 w6 (Addr.add (⟨b0, 0, none⟩) 1) fun n1 =>
 LdI .i64 w6 (Addr.add (⟨b0, 0, none⟩) 2) fun n2 =>
 LdB w6 (Addr.add (⟨b0, 0, none⟩) 3) fun b1 =>
 LdI .i64 w6 (Addr.add (⟨b0, 0, none⟩) 4) fun n3 =>
 R (.returned (.agg #[.int .i64 n0, .int .i64 n1, .int .i64 n2, .bool b1, .int .i64 n3])) w6
def S_arena_unpacked_ann : Ann := .leaf
theorem S_arena_unpacked_ok (w0 : Int) (w : World) (R : Ending -> World -> Prop) (h : S_arena_unpacked w0 w R) : Calls Tryz.prog 126 #[.int .u64 w0] w R :=
 calls_of_X (c := bodyOf Tryz.f126) (an := S_arena_unpacked_ann) wide_ok Tryz.func126 (by kernel_rfl) (by kernel_rfl) (cast (by kernel_rfl) h)
def S_heap_Heap_walk_1 (y0 : Int) (fv0 : Addr) (fv1 : Addr) (fv2 : Addr) (w : World) (R : Ending -> World -> Prop) : Prop :=
 LdP w fv0 fun p0 =>
 Calls Tryz.prog 75 #[.pointer p0, .int .u64 y0] w fun e0 w0 =>
 ∃ (r0 : Int), ∃ (r1 : Int), ∃ (r2 : Int), ∃ (r3 : Int), ∃ (r4 : Bool), ∃ (r5 : Int), ∃ (r6 : Int), e0 = .returned (.tuple #[.int .i64 r0, .agg #[.int .i64 r1, .int .i64 r2, .int .i64 r3, .bool r4, .int .i64 r5], .int .i64 r6]) /\
 NewC (.cells #[.int .i64 0, .int .i64 0, .int .i64 0, .bool false, .int .i64 0] 115 (0, 0)) w0 fun b0 w1 =>
 StC w1 (⟨b0, 0, none⟩) (.int .i64 r1) fun w2 =>
 StC w2 (Addr.add (⟨b0, 0, none⟩) 1) (.int .i64 r2) fun w3 =>
 StC w3 (Addr.add (⟨b0, 0, none⟩) 2) (.int .i64 r3) fun w4 =>
 StC w4 (Addr.add (⟨b0, 0, none⟩) 3) (.bool r4) fun w5 =>
 StC w5 (Addr.add (⟨b0, 0, none⟩) 4) (.int .i64 r5) fun w6 =>
 cond (r6 != 0)
 (R (.returned (.tuple #[])) w6)
 (LdM w6 fv1 fun m0 =>
 ∃ (n0 : Int), ∃ (b1 : Bool), (Instr.lookup 123 (.map m0) (.int .u64 y0) true).run Tryz.prog w6 = .ok (.tuple #[.int .i64 n0, .bool b1]) w6 /\
 cond (!b1)
 (LdM w6 fv1 fun m1 =>
 LdS w6 fv2 fun _ s0l _ =>
 RunN Tryz.prog (Instr.mapUpdate 123 (.map m1) (.int .u64 y0) (.int .i64 (Nat.cast s0l : Int))) w6 fun w7 =>
 LdS w7 fv2 fun s1p s1l s1c =>
 NewC (.cells #[.int .u64 y0] 32 (0, 0)) w7 fun b2 w8 =>
 RunS Tryz.prog (Builtin.append_ #[25, 25] 25 #[.slice s1p s1l s1c, .slice (some (⟨b2, 0, none⟩)) 1 1]) w8 fun s2p s2l s2c w9 =>
 StC w9 fv2 (.slice s2p s2l s2c) fun w10 =>
 R (.returned (.tuple #[])) w10)
 (R (.returned (.tuple #[])) w6))
def S_heap_Heap_walk_1_ann : Ann := .leaf
theorem S_heap_Heap_walk_1_ok (y0 : Int) (fv0 : Addr) (fv1 : Addr) (fv2 : Addr) (w : World) (R : Ending -> World -> Prop) (h : S_heap_Heap_walk_1 y0 fv0 fv1 fv2 w R) : Calls Tryz.prog 127 #[.int .u64 y0, .pointer (some fv0), .pointer (some fv1), .pointer (some fv2)] w R :=
 calls_of_X (c := bodyOf Tryz.f127) (an := S_heap_Heap_walk_1_ann) wide_ok Tryz.func127 (by kernel_rfl) (by kernel_rfl) (cast (by kernel_rfl) h)
def S_arena_Arena_Get (a0 : Option Addr) (at0 : Int) (i0 : Int) (w : World) (R : Ending -> World -> Prop) : Prop :=
 Calls Tryz.prog 134 #[.pointer a0, .int .i64 at0, .int .i64 i0] w fun e0 w0 =>
 ∃ (r0 : Int), ∃ (r1 : Int), e0 = .returned (.tuple #[.int .i64 r0, .int .i64 r1]) /\
 cond (r1 != 0)
 (R (.returned (.tuple #[.int .u64 0, .int .i64 r1])) w0)
 (onSome a0 fun a1 =>
 LdS w0 a1 fun s0p s0l _ =>
 IdxC s0p s0l r0 1 fun a2 =>
 LdI .u64 w0 a2 fun n0 =>
 R (.returned (.tuple #[.int .u64 n0, .int .i64 0])) w0)
def S_arena_Arena_Get_ann : Ann := .leaf
theorem S_arena_Arena_Get_ok (a0 : Option Addr) (at0 : Int) (i0 : Int) (w : World) (R : Ending -> World -> Prop) (h : S_arena_Arena_Get a0 at0 i0 w R) : Calls Tryz.prog 128 #[.pointer a0, .int .i64 at0, .int .i64 i0] w R :=
 calls_of_X (c := bodyOf Tryz.f128) (an := S_arena_Arena_Get_ann) wide_ok Tryz.func128 (by kernel_rfl) (by kernel_rfl) (cast (by kernel_rfl) h)
def S_arena_New (words0 : Int) (w : World) (R : Ending -> World -> Prop) : Prop :=
 cond (decide (words0 < 1))
 (R (.returned (.tuple #[.pointer none, .int .i64 1])) w)
 (cond (decide (words0 > 1048576))
 (R (.returned (.tuple #[.pointer none, .int .i64 1])) w)
 (∃ C0 : World -> Prop, C0 (World.drew w) /\
 DivC 64
 ((RunS Tryz.prog (Instr.makeSlice 25 (.int .i64 words0) (.int .i64 words0)) (World.drew w) fun s0p s0l s0c w0 =>
 C0 w0 /\
 RunS Tryz.prog (Instr.makeSlice 25 (.int .i64 (IntKind.wrap .i64 ((IntKind.wrap .i64 (Int.tdiv words0 64)) + 1))) (.int .i64 (IntKind.wrap .i64 ((IntKind.wrap .i64 (Int.tdiv words0 64)) + 1)))) w0 fun s1p s1l s1c w1 =>
 C0 w1 /\
 NewC (.cells #[.slice s0p s0l s0c, .slice s1p s1l s1c, .int .i64 0, .int .i64 0, .int .i64 0, .bool false] 108 (0, 0)) w1 fun b0 w2 =>
 C0 w2 /\
 R (.returned (.tuple #[.pointer (some (⟨b0, 0, none⟩)), .int .i64 0])) w2) /\
 (RunS Tryz.prog (Instr.makeSlice 25 (.int .i64 (IntKind.wrap .i64 ((IntKind.wrap .i64 (Int.tdiv words0 64)) + 1))) (.int .i64 (IntKind.wrap .i64 ((IntKind.wrap .i64 (Int.tdiv words0 64)) + 1)))) (World.drew w) fun s2p s2l s2c w3 =>
 C0 w3 /\
 RunS Tryz.prog (Instr.makeSlice 25 (.int .i64 words0) (.int .i64 words0)) w3 fun s3p s3l s3c w4 =>
 C0 w4 /\
 NewC (.cells #[.slice s3p s3l s3c, .slice s2p s2l s2c, .int .i64 0, .int .i64 0, .int .i64 0, .bool false] 108 (0, 0)) w4 fun b1 w5 =>
 C0 w5 /\
 R (.returned (.tuple #[.pointer (some (⟨b1, 0, none⟩)), .int .i64 0])) w5))))
def S_arena_New_ann : Ann := (.seq .leaf (.seq .leaf (.seq .any .leaf)))
theorem S_arena_New_ok (words0 : Int) (w : World) (R : Ending -> World -> Prop) (h : S_arena_New words0 w R) : Calls Tryz.prog 129 #[.int .i64 words0] w R :=
 calls_of_X (c := bodyOf Tryz.f129) (an := S_arena_New_ann) wide_ok Tryz.func129 (by kernel_rfl) (by kernel_rfl) (cast (by kernel_rfl) h)
def S_handle_New_l0 (R : Ending -> World -> Prop) (b0 : Nat) (s1l : Nat) (n0 : Int) (w2 : World) (I0 : Int -> World -> Prop) (M0 : Int -> World -> Nat) : Prop :=
 cond (decide (n0 < (Nat.cast s1l : Int)))
 (LdS w2 (⟨b0, 0, none⟩) fun s2p s2l _ =>
 IdxC s2p s2l n0 4 fun a0 =>
 StC w2 a0 (.int .u32 1) fun w3 =>
 I0 (IntKind.wrap .i64 (n0 + 1)) w3 /\ M0 (IntKind.wrap .i64 (n0 + 1)) w3 < M0 n0 w2)
 (R (.returned (.tuple #[.pointer (some (⟨b0, 0, none⟩)), .int .i64 0])) w2)
def S_handle_New (slots0 : Int) (w : World) (R : Ending -> World -> Prop) : Prop :=
 cond (decide (slots0 < 1))
 (R (.returned (.tuple #[.pointer none, .int .i64 1])) w)
 (cond (decide (slots0 > 1048576))
 (R (.returned (.tuple #[.pointer none, .int .i64 1])) w)
 (RunS Tryz.prog (Instr.makeSlice 109 (.int .i64 slots0) (.int .i64 slots0)) w fun s0p s0l s0c w0 =>
 NewC (.cells #[.slice s0p s0l s0c, .int .i64 0, .int .i64 0, .int .i64 0] 111 (0, 0)) w0 fun b0 w1 =>
 LdS w1 (⟨b0, 0, none⟩) fun _ s1l _ =>
 ∃ (I0 : Int -> World -> Prop) (M0 : Int -> World -> Nat), I0 0 w1 /\
 ∀ (n0 : Int) (w2 : World), I0 n0 w2 ->
 S_handle_New_l0 R b0 s1l n0 w2 I0 M0))
def S_handle_New_ann : Ann := (.seq .leaf (.seq .leaf (.seq .leaf (.seq (.seq .leaf (.block (.loop [4, 20] [(21, (.int .i64))] .leaf))) .leaf))))
theorem S_handle_New_ok (slots0 : Int) (w : World) (R : Ending -> World -> Prop) (h : S_handle_New slots0 w R) : Calls Tryz.prog 130 #[.int .i64 slots0] w R :=
 calls_of_X (c := bodyOf Tryz.f130) (an := S_handle_New_ann) wide_ok Tryz.func130 (by kernel_rfl) (by kernel_rfl) (cast (by kernel_rfl) h)
def S_handle_Table_next (t0 : Option Addr) (w : World) (R : Ending -> World -> Prop) : Prop :=
 onSome t0 fun a0 =>
 LdI .i64 w (Addr.add a0 2) fun n0 =>
 cond (decide (n0 > 0))
 (onSome t0 fun a1 =>
 LdI .i64 w (Addr.add a1 2) fun n1 =>
 R (.returned (.int .i64 (IntKind.wrap .i64 (n1 - 1)))) w)
 (onSome t0 fun a2 =>
 LdI .i64 w (Addr.add a2 1) fun n2 =>
 R (.returned (.int .i64 n2)) w)
def S_handle_Table_next_ann : Ann := .leaf
theorem S_handle_Table_next_ok (t0 : Option Addr) (w : World) (R : Ending -> World -> Prop) (h : S_handle_Table_next t0 w R) : Calls Tryz.prog 131 #[.pointer t0] w R :=
 calls_of_X (c := bodyOf Tryz.f131) (an := S_handle_Table_next_ann) wide_ok Tryz.func131 (by kernel_rfl) (by kernel_rfl) (cast (by kernel_rfl) h)
def S_arena_packed (h0 : Int) (h1 : Int) (h2 : Int) (h3 : Bool) (h4 : Int) (w : World) (R : Ending -> World -> Prop) : Prop :=
 NewC (.cells #[.int .i64 h0, .int .i64 h1, .int .i64 h2, .bool h3, .int .i64 h4] 115 (0, 0)) w fun b0 w0 =>
 LdI .i64 w0 (⟨b0, 0, none⟩) fun n0 =>
 LdI .i64 w0 (Addr.add (⟨b0, 0, none⟩) 1) fun n1 =>
 LdI .i64 w0 (Addr.add (⟨b0, 0, none⟩) 2) fun n2 =>
 LdI .i64 w0 (Addr.add (⟨b0, 0, none⟩) 4) fun n3 =>
 LdB w0 (Addr.add (⟨b0, 0, none⟩) 3) fun b1 =>
 cond b1
 (R (.returned (.int .u64 (bOr .u64 (bOr .u64 (bOr .u64 (bOr .u64 (IntKind.wrap .u64 n0) (bShl .u64 (IntKind.wrap .u64 n1) 9)) (bShl .u64 (IntKind.wrap .u64 n2) 22)) (bShl .u64 (IntKind.wrap .u64 n3) 35)) 256))) w0)
 (R (.returned (.int .u64 (bOr .u64 (bOr .u64 (bOr .u64 (IntKind.wrap .u64 n0) (bShl .u64 (IntKind.wrap .u64 n1) 9)) (bShl .u64 (IntKind.wrap .u64 n2) 22)) (bShl .u64 (IntKind.wrap .u64 n3) 35)))) w0)
def S_arena_packed_ann : Ann := .leaf
theorem S_arena_packed_ok (h0 : Int) (h1 : Int) (h2 : Int) (h3 : Bool) (h4 : Int) (w : World) (R : Ending -> World -> Prop) (h : S_arena_packed h0 h1 h2 h3 h4 w R) : Calls Tryz.prog 132 #[.agg #[.int .i64 h0, .int .i64 h1, .int .i64 h2, .bool h3, .int .i64 h4]] w R :=
 calls_of_X (c := bodyOf Tryz.f132) (an := S_arena_packed_ann) wide_ok Tryz.func132 (by kernel_rfl) (by kernel_rfl) (cast (by kernel_rfl) h)
def S_arena_Arena_set (a0 : Option Addr) (at0 : Int) (on0 : Bool) (w : World) (R : Ending -> World -> Prop) : Prop :=
 DivC 64
 (ShC (Int.tmod at0 64)
 (cond on0
 (onSome a0 fun a1 =>
 LdS w (Addr.add a1 1) fun s0p s0l _ =>
 DivC 64
 (IdxC s0p s0l (IntKind.wrap .i64 (Int.tdiv at0 64)) 1 fun a2 =>
 LdI .u64 w a2 fun n0 =>
 IdxC s0p s0l (IntKind.wrap .i64 (Int.tdiv at0 64)) 1 fun a3 =>
 StC w a3 (.int .u64 (bOr .u64 n0 (bShl .u64 1 (Int.tmod at0 64)))) fun w0 =>
 R (.returned (.tuple #[])) w0))
 (onSome a0 fun a4 =>
 LdS w (Addr.add a4 1) fun s1p s1l _ =>
 DivC 64
 (IdxC s1p s1l (IntKind.wrap .i64 (Int.tdiv at0 64)) 1 fun a5 =>
 LdI .u64 w a5 fun n1 =>
 IdxC s1p s1l (IntKind.wrap .i64 (Int.tdiv at0 64)) 1 fun a6 =>
 StC w a6 (.int .u64 (bAndNot .u64 n1 (bShl .u64 1 (Int.tmod at0 64)))) fun w1 =>
 R (.returned (.tuple #[])) w1))))
def S_arena_Arena_set_ann : Ann := .leaf
theorem S_arena_Arena_set_ok (a0 : Option Addr) (at0 : Int) (on0 : Bool) (w : World) (R : Ending -> World -> Prop) (h : S_arena_Arena_set a0 at0 on0 w R) : Calls Tryz.prog 133 #[.pointer a0, .int .i64 at0, .bool on0] w R :=
 calls_of_X (c := bodyOf Tryz.f133) (an := S_arena_Arena_set_ann) wide_ok Tryz.func133 (by kernel_rfl) (by kernel_rfl) (cast (by kernel_rfl) h)
def S_arena_Arena_word (a0 : Option Addr) (at0 : Int) (i0 : Int) (w : World) (R : Ending -> World -> Prop) : Prop :=
 Calls Tryz.prog 77 #[.pointer a0, .int .i64 at0] w fun e0 w0 =>
 ∃ (r0 : Int), ∃ (r1 : Int), ∃ (r2 : Int), ∃ (r3 : Bool), ∃ (r4 : Int), ∃ (r5 : Int), e0 = .returned (.tuple #[.agg #[.int .i64 r0, .int .i64 r1, .int .i64 r2, .bool r3, .int .i64 r4], .int .i64 r5]) /\
 NewC (.cells #[.int .i64 0, .int .i64 0, .int .i64 0, .bool false, .int .i64 0] 115 (0, 0)) w0 fun b0 w1 =>
 StC w1 (⟨b0, 0, none⟩) (.int .i64 r0) fun w2 =>
 StC w2 (Addr.add (⟨b0, 0, none⟩) 1) (.int .i64 r1) fun w3 =>
 StC w3 (Addr.add (⟨b0, 0, none⟩) 2) (.int .i64 r2) fun w4 =>
 StC w4 (Addr.add (⟨b0, 0, none⟩) 3) (.bool r3) fun w5 =>
 StC w5 (Addr.add (⟨b0, 0, none⟩) 4) (.int .i64 r4) fun w6 =>
 cond (r5 != 0)
 (R (.returned (.tuple #[.int .i64 0, .int .i64 1])) w6)
 (cond (decide (i0 < 0))
 (R (.returned (.tuple #[.int .i64 0, .int .i64 1])) w6)
 (LdI .i64 w6 (Addr.add (⟨b0, 0, none⟩) 2) fun n0 =>
 cond (decide (i0 ≥ n0))
 (R (.returned (.tuple #[.int .i64 0, .int .i64 1])) w6)
 (R (.returned (.tuple #[.int .i64 (IntKind.wrap .i64 ((IntKind.wrap .i64 (at0 + 1)) + i0)), .int .i64 0])) w6)))
def S_arena_Arena_word_ann : Ann := .leaf
theorem S_arena_Arena_word_ok (a0 : Option Addr) (at0 : Int) (i0 : Int) (w : World) (R : Ending -> World -> Prop) (h : S_arena_Arena_word a0 at0 i0 w R) : Calls Tryz.prog 134 #[.pointer a0, .int .i64 at0, .int .i64 i0] w R :=
 calls_of_X (c := bodyOf Tryz.f134) (an := S_arena_Arena_word_ann) wide_ok Tryz.func134 (by kernel_rfl) (by kernel_rfl) (cast (by kernel_rfl) h)
def S_arena_Arena_behind (a0 : Option Addr) (w : World) (R : Ending -> World -> Prop) : Prop :=
 NewC (.cells #[.int .i64 0, .int .i64 0, .int .i64 0, .bool false, .int .i64 0] 115 (0, 0)) w fun b0 w0 =>
 onSome a0 fun a1 =>
 LdB w0 (Addr.add a1 5) fun b1 =>
 cond (!b1)
 (StC w0 (⟨b0, 0, none⟩) (.int .i64 0) fun w1 =>
 StC w1 (Addr.add (⟨b0, 0, none⟩) 1) (.int .i64 0) fun w2 =>
 StC w2 (Addr.add (⟨b0, 0, none⟩) 2) (.int .i64 0) fun w3 =>
 StC w3 (Addr.add (⟨b0, 0, none⟩) 3) (.bool false) fun w4 =>
 StC w4 (Addr.add (⟨b0, 0, none⟩) 4) (.int .i64 0) fun w5 =>
 LdI .i64 w5 (⟨b0, 0, none⟩) fun n0 =>
 LdI .i64 w5 (Addr.add (⟨b0, 0, none⟩) 1) fun n1 =>
 LdI .i64 w5 (Addr.add (⟨b0, 0, none⟩) 2) fun n2 =>
 LdB w5 (Addr.add (⟨b0, 0, none⟩) 3) fun b2 =>
 LdI .i64 w5 (Addr.add (⟨b0, 0, none⟩) 4) fun n3 =>
 R (.returned (.tuple #[.agg #[.int .i64 n0, .int .i64 n1, .int .i64 n2, .bool b2, .int .i64 n3], .int .i64 16])) w5)
 (onSome a0 fun a2 =>
 LdI .i64 (World.drew w0) (Addr.add a2 4) fun n4 =>
 onSome a0 fun a3 =>
 LdI .i64 (World.drew w0) (Addr.add a3 2) fun n5 =>
 cond (n4 == n5)
 (StC (World.drew w0) (⟨b0, 0, none⟩) (.int .i64 0) fun w6 =>
 StC w6 (Addr.add (⟨b0, 0, none⟩) 1) (.int .i64 0) fun w7 =>
 StC w7 (Addr.add (⟨b0, 0, none⟩) 2) (.int .i64 0) fun w8 =>
 StC w8 (Addr.add (⟨b0, 0, none⟩) 3) (.bool false) fun w9 =>
 StC w9 (Addr.add (⟨b0, 0, none⟩) 4) (.int .i64 0) fun w10 =>
 LdI .i64 w10 (⟨b0, 0, none⟩) fun n6 =>
 LdI .i64 w10 (Addr.add (⟨b0, 0, none⟩) 1) fun n7 =>
 LdI .i64 w10 (Addr.add (⟨b0, 0, none⟩) 2) fun n8 =>
 LdB w10 (Addr.add (⟨b0, 0, none⟩) 3) fun b3 =>
 LdI .i64 w10 (Addr.add (⟨b0, 0, none⟩) 4) fun n9 =>
 R (.returned (.tuple #[.agg #[.int .i64 n6, .int .i64 n7, .int .i64 n8, .bool b3, .int .i64 n9], .int .i64 17])) w10)
 (onSome a0 fun a4 =>
 LdS (World.drew (World.drew w0)) a4 fun s0p s0l _ =>
 onSome a0 fun a5 =>
 LdI .i64 (World.drew (World.drew w0)) (Addr.add a5 4) fun n10 =>
 IdxC s0p s0l n10 1 fun a6 =>
 LdI .u64 (World.drew (World.drew w0)) a6 fun n11 =>
 Calls Tryz.prog 126 #[.int .u64 n11] (World.drew (World.drew w0)) fun e0 w11 =>
 ∃ (r0 : Int), ∃ (r1 : Int), ∃ (r2 : Int), ∃ (r3 : Bool), ∃ (r4 : Int), e0 = .returned (.agg #[.int .i64 r0, .int .i64 r1, .int .i64 r2, .bool r3, .int .i64 r4]) /\
 StC w11 (⟨b0, 0, none⟩) (.int .i64 r0) fun w12 =>
 StC w12 (Addr.add (⟨b0, 0, none⟩) 1) (.int .i64 r1) fun w13 =>
 StC w13 (Addr.add (⟨b0, 0, none⟩) 2) (.int .i64 r2) fun w14 =>
 StC w14 (Addr.add (⟨b0, 0, none⟩) 3) (.bool r3) fun w15 =>
 StC w15 (Addr.add (⟨b0, 0, none⟩) 4) (.int .i64 r4) fun w16 =>
 LdI .i64 w16 (⟨b0, 0, none⟩) fun n12 =>
 LdI .i64 w16 (Addr.add (⟨b0, 0, none⟩) 1) fun n13 =>
 LdI .i64 w16 (Addr.add (⟨b0, 0, none⟩) 2) fun n14 =>
 LdB w16 (Addr.add (⟨b0, 0, none⟩) 3) fun b4 =>
 LdI .i64 w16 (Addr.add (⟨b0, 0, none⟩) 4) fun n15 =>
 R (.returned (.tuple #[.agg #[.int .i64 n12, .int .i64 n13, .int .i64 n14, .bool b4, .int .i64 n15], .int .i64 0])) w16))
def S_arena_Arena_behind_ann : Ann := (.seq .leaf (.seq (.block (.seq .leaf (.cond .leaf (.seq (.draw 10) .leaf)))) (.seq (.draw 10) .leaf)))
theorem S_arena_Arena_behind_ok (a0 : Option Addr) (w : World) (R : Ending -> World -> Prop) (h : S_arena_Arena_behind a0 w R) : Calls Tryz.prog 147 #[.pointer a0] w R :=
 calls_of_X (c := bodyOf Tryz.f147) (an := S_arena_Arena_behind_ann) wide_ok Tryz.func147 (by kernel_rfl) (by kernel_rfl) (cast (by kernel_rfl) h)
end Go.Proofs.YtpicofkhioalkaaGreat
