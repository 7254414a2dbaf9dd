/- The second reading of functions of this seat's program, written out by a program (gen.py). -/
import Derived.Test.YtpicofkhioalkaaGreatG
import Derived.KernelRfl
set_option maxRecDepth 100000
namespace Go.Proofs.YtpicofkhioalkaaGreat
open Go Go.Lw
def S_tree_Take (h0 : Option Addr) (t0 : Int) (key0p : Option Addr) (key0l : Nat) (key0c : Nat) (w : World) (R : Ending -> World -> Prop) : Prop :=
 NewC (.cells #[.int .u64 0] 32 (0, 0)) w fun b0 w0 =>
 NewC (.cells #[.bool false] 4 (0, 0)) w0 fun b1 w1 =>
 NewC (.cells #[.int .i64 0] 31 (0, 0)) w1 fun b2 w2 =>
 Calls Tryz.prog 40 #[.pointer h0, .int .u64 t0, .slice key0p key0l key0c] w2 fun e0 w3 =>
 ∃ (r0 : Option Addr), ∃ (r1 : Int), ∃ (r2 : Int), e0 = .returned (.tuple #[.agg #[.pointer r0, .int .u64 r1], .int .i64 r2]) /\
 NewC (.cells #[.pointer none, .int .u64 0] 73 (0, 0)) w3 fun b3 w4 =>
 StC w4 (⟨b3, 0, none⟩) (.pointer r0) fun w5 =>
 StC w5 (Addr.add (⟨b3, 0, none⟩) 1) (.int .u64 r1) fun w6 =>
 StC w6 (⟨b2, 0, none⟩) (.int .i64 r2) fun w7 =>
 LdI .i64 w7 (⟨b2, 0, none⟩) fun n0 =>
 cond (n0 != 0)
 (∃ C0 : World -> Prop, C0 (World.drew w7) /\
 LdIQ .i64 C0 (⟨b2, 0, none⟩) fun n1 =>
 StC (World.drew w7) (⟨b0, 0, none⟩) (.int .u64 0) fun w8 =>
 C0 w8 /\
 StC w8 (⟨b1, 0, none⟩) (.bool false) fun w9 =>
 C0 w9 /\
 StC w9 (⟨b2, 0, none⟩) (.int .i64 n1) fun w10 =>
 LdI .u64 w10 (⟨b0, 0, none⟩) fun n2 =>
 LdB w10 (⟨b1, 0, none⟩) fun b4 =>
 LdI .i64 w10 (⟨b2, 0, none⟩) fun n3 =>
 R (.returned (.tuple #[.int .u64 n2, .bool b4, .int .i64 n3])) w10)
 (LdP w7 (⟨b3, 0, none⟩) fun p0 =>
 LdI .u64 w7 (Addr.add (⟨b3, 0, none⟩) 1) fun n4 =>
 RunStr Tryz.prog (convert 28 9 (.slice key0p key0l key0c)) w7 fun t1 =>
 Calls Tryz.prog 43 #[.agg #[.pointer p0, .int .u64 n4], .string t1] w7 fun e1 w11 =>
 ∃ (r3 : Int), ∃ (r4 : Bool), e1 = .returned (.tuple #[.int .u64 r3, .bool r4]) /\
 StC w11 (⟨b0, 0, none⟩) (.int .u64 r3) fun w12 =>
 StC w12 (⟨b1, 0, none⟩) (.bool r4) fun w13 =>
 ∃ C1 : World -> Prop, C1 (World.drew w13) /\
 LdIQ .u64 C1 (⟨b0, 0, none⟩) fun n5 =>
 LdBQ C1 (⟨b1, 0, none⟩) fun b5 =>
 StC (World.drew w13) (⟨b0, 0, none⟩) (.int .u64 n5) fun w14 =>
 C1 w14 /\
 StC w14 (⟨b1, 0, none⟩) (.bool b5) fun w15 =>
 StC w15 (⟨b2, 0, none⟩) (.int .i64 0) fun w16 =>
 LdI .u64 w16 (⟨b0, 0, none⟩) fun n6 =>
 LdB w16 (⟨b1, 0, none⟩) fun b6 =>
 LdI .i64 w16 (⟨b2, 0, none⟩) fun n7 =>
 R (.returned (.tuple #[.int .u64 n6, .bool b6, .int .i64 n7])) w16)
def S_tree_Take_anl : List Ann := [.leaf, .leaf, (.seq .leaf (.cond (.seq .anyl .leaf) .leaf)), (.seq .leaf (.seq .anyl .leaf))]
theorem S_tree_Take_ok (h0 : Option Addr) (t0 : Int) (key0p : Option Addr) (key0l : Nat) (key0c : Nat) (w : World) (R : Ending -> World -> Prop) (h : S_tree_Take h0 t0 key0p key0l key0c w R) : Calls Tryz.prog 10 #[.pointer h0, .int .u64 t0, .slice key0p key0l key0c] w R :=
 calls_of_XD (c := bodyOf Tryz.f10) (ans := S_tree_Take_anl) wide_ok (idle_of Tryz.func41 (by kernel_rfl) (by kernel_rfl)) Tryz.func10 (by kernel_rfl) (by kernel_rfl) (cast (by kernel_rfl) h)
def S_tree_Put (h0 : Option Addr) (t0 : Int) (key0p : Option Addr) (key0l : Nat) (key0c : Nat) (x0 : Int) (w : World) (R : Ending -> World -> Prop) : Prop :=
 NewC (.cells #[.int .u64 0] 32 (0, 0)) w fun b0 w0 =>
 NewC (.cells #[.bool false] 4 (0, 0)) w0 fun b1 w1 =>
 NewC (.cells #[.int .i64 0] 31 (0, 0)) w1 fun b2 w2 =>
 Calls Tryz.prog 40 #[.pointer h0, .int .u64 t0, .slice key0p key0l key0c] w2 fun e0 w3 =>
 ∃ (r0 : Option Addr), ∃ (r1 : Int), ∃ (r2 : Int), e0 = .returned (.tuple #[.agg #[.pointer r0, .int .u64 r1], .int .i64 r2]) /\
 NewC (.cells #[.pointer none, .int .u64 0] 73 (0, 0)) w3 fun b3 w4 =>
 StC w4 (⟨b3, 0, none⟩) (.pointer r0) fun w5 =>
 StC w5 (Addr.add (⟨b3, 0, none⟩) 1) (.int .u64 r1) fun w6 =>
 StC w6 (⟨b2, 0, none⟩) (.int .i64 r2) fun w7 =>
 LdI .i64 w7 (⟨b2, 0, none⟩) fun n0 =>
 cond (n0 != 0)
 (∃ C0 : World -> Prop, C0 (World.drew w7) /\
 LdIQ .i64 C0 (⟨b2, 0, none⟩) fun n1 =>
 StC (World.drew w7) (⟨b0, 0, none⟩) (.int .u64 0) fun w8 =>
 C0 w8 /\
 StC w8 (⟨b1, 0, none⟩) (.bool false) fun w9 =>
 C0 w9 /\
 StC w9 (⟨b2, 0, none⟩) (.int .i64 n1) fun w10 =>
 LdI .u64 w10 (⟨b0, 0, none⟩) fun n2 =>
 LdB w10 (⟨b1, 0, none⟩) fun b4 =>
 LdI .i64 w10 (⟨b2, 0, none⟩) fun n3 =>
 R (.returned (.tuple #[.int .u64 n2, .bool b4, .int .i64 n3])) w10)
 (Calls Tryz.prog 24 #[.pointer h0] w7 fun e1 w11 =>
 ∃ (r3 : Option Addr), e1 = .returned (.pointer r3) /\
 Calls Tryz.prog 44 #[.pointer r3, .int .u64 x0] w11 fun e2 w12 =>
 ∃ (r4 : Int), ∃ (r5 : Int), e2 = .returned (.tuple #[.int .i64 r4, .int .i64 r5]) /\
 cond (x0 != 0)
 (cond (r5 != 0)
 (StC w12 (⟨b0, 0, none⟩) (.int .u64 0) fun w13 =>
 StC w13 (⟨b1, 0, none⟩) (.bool false) fun w14 =>
 StC w14 (⟨b2, 0, none⟩) (.int .i64 r5) fun w15 =>
 LdI .u64 w15 (⟨b0, 0, none⟩) fun n4 =>
 LdB w15 (⟨b1, 0, none⟩) fun b5 =>
 LdI .i64 w15 (⟨b2, 0, none⟩) fun n5 =>
 R (.returned (.tuple #[.int .u64 n4, .bool b5, .int .i64 n5])) w15)
 (LdP w12 (⟨b3, 0, none⟩) fun p0 =>
 LdI .u64 w12 (Addr.add (⟨b3, 0, none⟩) 1) fun n6 =>
 Calls Tryz.prog 46 #[.agg #[.pointer p0, .int .u64 n6], .int .i64 (Nat.cast key0l : Int)] w12 fun e3 w16 =>
 ∃ (r6 : Int), ∃ (r7 : Int), e3 = .returned (.tuple #[.int .i64 r6, .int .i64 r7]) /\
 Calls Tryz.prog 48 #[.pointer h0, .int .i64 r6, .int .i64 r7] w16 fun e4 w17 =>
 ∃ (r8 : Bool), e4 = .returned (.bool r8) /\
 Calls Tryz.prog 47 #[.bool r8, .int .i64 5] w17 fun e5 w18 =>
 e5 = .returned (.tuple #[]) /\
 LdP w18 (⟨b3, 0, none⟩) fun p1 =>
 LdI .u64 w18 (Addr.add (⟨b3, 0, none⟩) 1) fun n7 =>
 RunStr Tryz.prog (convert 28 9 (.slice key0p key0l key0c)) w18 fun t1 =>
 Calls Tryz.prog 49 #[.agg #[.pointer p1, .int .u64 n7], .string t1, .int .u64 x0] w18 fun e6 w19 =>
 ∃ (r9 : Int), ∃ (r10 : Bool), e6 = .returned (.tuple #[.int .u64 r9, .bool r10]) /\
 StC w19 (⟨b0, 0, none⟩) (.int .u64 r9) fun w20 =>
 StC w20 (⟨b1, 0, none⟩) (.bool r10) fun w21 =>
 ∃ C1 : World -> Prop, C1 (World.drew w21) /\
 LdIQ .u64 C1 (⟨b0, 0, none⟩) fun n8 =>
 LdBQ C1 (⟨b1, 0, none⟩) fun b6 =>
 StC (World.drew w21) (⟨b0, 0, none⟩) (.int .u64 n8) fun w22 =>
 C1 w22 /\
 StC w22 (⟨b1, 0, none⟩) (.bool b6) fun w23 =>
 StC w23 (⟨b2, 0, none⟩) (.int .i64 0) fun w24 =>
 LdI .u64 w24 (⟨b0, 0, none⟩) fun n9 =>
 LdB w24 (⟨b1, 0, none⟩) fun b7 =>
 LdI .i64 w24 (⟨b2, 0, none⟩) fun n10 =>
 R (.returned (.tuple #[.int .u64 n9, .bool b7, .int .i64 n10])) w24))
 (LdP w12 (⟨b3, 0, none⟩) fun p2 =>
 LdI .u64 w12 (Addr.add (⟨b3, 0, none⟩) 1) fun n11 =>
 Calls Tryz.prog 46 #[.agg #[.pointer p2, .int .u64 n11], .int .i64 (Nat.cast key0l : Int)] w12 fun e7 w25 =>
 ∃ (r11 : Int), ∃ (r12 : Int), e7 = .returned (.tuple #[.int .i64 r11, .int .i64 r12]) /\
 Calls Tryz.prog 48 #[.pointer h0, .int .i64 r11, .int .i64 r12] w25 fun e8 w26 =>
 ∃ (r13 : Bool), e8 = .returned (.bool r13) /\
 Calls Tryz.prog 47 #[.bool r13, .int .i64 5] w26 fun e9 w27 =>
 e9 = .returned (.tuple #[]) /\
 LdP w27 (⟨b3, 0, none⟩) fun p3 =>
 LdI .u64 w27 (Addr.add (⟨b3, 0, none⟩) 1) fun n12 =>
 RunStr Tryz.prog (convert 28 9 (.slice key0p key0l key0c)) w27 fun t2 =>
 Calls Tryz.prog 49 #[.agg #[.pointer p3, .int .u64 n12], .string t2, .int .u64 x0] w27 fun e10 w28 =>
 ∃ (r14 : Int), ∃ (r15 : Bool), e10 = .returned (.tuple #[.int .u64 r14, .bool r15]) /\
 StC w28 (⟨b0, 0, none⟩) (.int .u64 r14) fun w29 =>
 StC w29 (⟨b1, 0, none⟩) (.bool r15) fun w30 =>
 ∃ C2 : World -> Prop, C2 (World.drew w30) /\
 LdIQ .u64 C2 (⟨b0, 0, none⟩) fun n13 =>
 LdBQ C2 (⟨b1, 0, none⟩) fun b8 =>
 StC (World.drew w30) (⟨b0, 0, none⟩) (.int .u64 n13) fun w31 =>
 C2 w31 /\
 StC w31 (⟨b1, 0, none⟩) (.bool b8) fun w32 =>
 StC w32 (⟨b2, 0, none⟩) (.int .i64 0) fun w33 =>
 LdI .u64 w33 (⟨b0, 0, none⟩) fun n14 =>
 LdB w33 (⟨b1, 0, none⟩) fun b9 =>
 LdI .i64 w33 (⟨b2, 0, none⟩) fun n15 =>
 R (.returned (.tuple #[.int .u64 n14, .bool b9, .int .i64 n15])) w33))
def S_tree_Put_anl : List Ann := [.leaf, .leaf, (.seq .leaf (.cond (.seq .anyl .leaf) .leaf)), .leaf, (.seq .leaf (.seq .leaf (.seq .leaf (.seq .anyl .leaf))))]
theorem S_tree_Put_ok (h0 : Option Addr) (t0 : Int) (key0p : Option Addr) (key0l : Nat) (key0c : Nat) (x0 : Int) (w : World) (R : Ending -> World -> Prop) (h : S_tree_Put h0 t0 key0p key0l key0c x0 w R) : Calls Tryz.prog 11 #[.pointer h0, .int .u64 t0, .slice key0p key0l key0c, .int .u64 x0] w R :=
 calls_of_XD (c := bodyOf Tryz.f11) (ans := S_tree_Put_anl) wide_ok (idle_of Tryz.func45 (by kernel_rfl) (by kernel_rfl)) Tryz.func11 (by kernel_rfl) (by kernel_rfl) (cast (by kernel_rfl) h)
def S_tree_Count (h0 : Option Addr) (t0 : Int) (w : World) (R : Ending -> World -> Prop) : Prop :=
 NewC (.cells #[.int .i64 0] 3 (0, 0)) w fun b0 w0 =>
 NewC (.cells #[.int .i64 0] 31 (0, 0)) w0 fun b1 w1 =>
 Calls Tryz.prog 40 #[.pointer h0, .int .u64 t0, .slice none 0 0] w1 fun e0 w2 =>
 ∃ (r0 : Option Addr), ∃ (r1 : Int), ∃ (r2 : Int), e0 = .returned (.tuple #[.agg #[.pointer r0, .int .u64 r1], .int .i64 r2]) /\
 NewC (.cells #[.pointer none, .int .u64 0] 73 (0, 0)) w2 fun b2 w3 =>
 StC w3 (⟨b2, 0, none⟩) (.pointer r0) fun w4 =>
 StC w4 (Addr.add (⟨b2, 0, none⟩) 1) (.int .u64 r1) fun w5 =>
 StC w5 (⟨b1, 0, none⟩) (.int .i64 r2) fun w6 =>
 LdI .i64 w6 (⟨b1, 0, none⟩) fun n0 =>
 cond (n0 != 0)
 (∃ C0 : World -> Prop, C0 (World.drew w6) /\
 LdIQ .i64 C0 (⟨b1, 0, none⟩) fun n1 =>
 StC (World.drew w6) (⟨b0, 0, none⟩) (.int .i64 0) fun w7 =>
 C0 w7 /\
 StC w7 (⟨b1, 0, none⟩) (.int .i64 n1) fun w8 =>
 LdI .i64 w8 (⟨b0, 0, none⟩) fun n2 =>
 LdI .i64 w8 (⟨b1, 0, none⟩) fun n3 =>
 R (.returned (.tuple #[.int .i64 n2, .int .i64 n3])) w8)
 (LdP w6 (⟨b2, 0, none⟩) fun p0 =>
 LdI .u64 w6 (Addr.add (⟨b2, 0, none⟩) 1) fun n4 =>
 Calls Tryz.prog 51 #[.agg #[.pointer p0, .int .u64 n4]] w6 fun e1 w9 =>
 ∃ (r3 : Int), e1 = .returned (.int .i64 r3) /\
 StC w9 (⟨b0, 0, none⟩) (.int .i64 r3) fun w10 =>
 StC w10 (⟨b1, 0, none⟩) (.int .i64 0) fun w11 =>
 LdI .i64 w11 (⟨b0, 0, none⟩) fun n5 =>
 LdI .i64 w11 (⟨b1, 0, none⟩) fun n6 =>
 R (.returned (.tuple #[.int .i64 n5, .int .i64 n6])) w11)
def S_tree_Count_anl : List Ann := [.leaf, .leaf, (.seq .leaf (.cond (.seq .anyl .leaf) .leaf)), .leaf]
theorem S_tree_Count_ok (h0 : Option Addr) (t0 : Int) (w : World) (R : Ending -> World -> Prop) (h : S_tree_Count h0 t0 w R) : Calls Tryz.prog 12 #[.pointer h0, .int .u64 t0] w R :=
 calls_of_XD (c := bodyOf Tryz.f12) (ans := S_tree_Count_anl) wide_ok (idle_of Tryz.func50 (by kernel_rfl) (by kernel_rfl)) Tryz.func12 (by kernel_rfl) (by kernel_rfl) (cast (by kernel_rfl) h)
def S_tree_Seek_j0 (R : Ending -> World -> Prop) (b0 : Nat) (b1 : Nat) (b2 : Nat) (b3 : Nat) (b4 : Nat) (l0p : Option Addr) (l0l : Nat) (i0 : Int) (w26 : World) : Prop :=
 ∃ C1 : World -> Prop, C1 (World.drew w26) /\
 ∃ (p3 : Option Addr), ∃ (n11 : Int), (∀ (w27 : World), C1 w27 ->
 LdP w27 (⟨b4, 0, none⟩) fun p4 =>
 LdI .u64 w27 (Addr.add (⟨b4, 0, none⟩) 1) fun n12 =>
 Value.agg #[.pointer p4, .int .u64 n12] = .agg #[.pointer p3, .int .u64 n11]) /\
 IdxC l0p l0l i0 2 fun a0 =>
 LdIQ .u64 C1 a0 fun n13 =>
 IdxC l0p l0l i0 2 fun a1 =>
 LdIQ .u64 C1 (Addr.add a1 1) fun n14 =>
 Calls Tryz.prog 58 #[.agg #[.pointer p3, .int .u64 n11], .int .u64 n13] (World.drew w26) fun e4 w28 =>
 ∃ (r9 : ByteArray), e4 = .returned (.string r9) /\
 C1 w28 /\
 RunS Tryz.prog (convert 9 28 (.string r9)) w28 fun s3p s3l s3c w29 =>
 C1 w29 /\
 StC w29 (⟨b0, 0, none⟩) (.slice s3p s3l s3c) fun w30 =>
 C1 w30 /\
 StC w30 (⟨b1, 0, none⟩) (.int .u64 n14) fun w31 =>
 StC w31 (⟨b2, 0, none⟩) (.bool true) fun w32 =>
 StC w32 (⟨b3, 0, none⟩) (.int .i64 0) fun w33 =>
 LdS w33 (⟨b0, 0, none⟩) fun s4p s4l s4c =>
 LdI .u64 w33 (⟨b1, 0, none⟩) fun n15 =>
 LdB w33 (⟨b2, 0, none⟩) fun b9 =>
 LdI .i64 w33 (⟨b3, 0, none⟩) fun n16 =>
 R (.returned (.tuple #[.slice s4p s4l s4c, .int .u64 n15, .bool b9, .int .i64 n16])) w33
def S_tree_Seek (h0 : Option Addr) (t0 : Int) (key0p : Option Addr) (key0l : Nat) (key0c : Nat) (w : World) (R : Ending -> World -> Prop) : Prop :=
 NewC (.cells #[.slice none 0 0] 28 (0, 0)) w fun b0 w0 =>
 NewC (.cells #[.int .u64 0] 32 (0, 0)) w0 fun b1 w1 =>
 NewC (.cells #[.bool false] 4 (0, 0)) w1 fun b2 w2 =>
 NewC (.cells #[.int .i64 0] 31 (0, 0)) w2 fun b3 w3 =>
 Calls Tryz.prog 40 #[.pointer h0, .int .u64 t0, .slice key0p key0l key0c] w3 fun e0 w4 =>
 ∃ (r0 : Option Addr), ∃ (r1 : Int), ∃ (r2 : Int), e0 = .returned (.tuple #[.agg #[.pointer r0, .int .u64 r1], .int .i64 r2]) /\
 NewC (.cells #[.pointer none, .int .u64 0] 73 (0, 0)) w4 fun b4 w5 =>
 StC w5 (⟨b4, 0, none⟩) (.pointer r0) fun w6 =>
 StC w6 (Addr.add (⟨b4, 0, none⟩) 1) (.int .u64 r1) fun w7 =>
 StC w7 (⟨b3, 0, none⟩) (.int .i64 r2) fun w8 =>
 LdI .i64 w8 (⟨b3, 0, none⟩) fun n0 =>
 cond (n0 != 0)
 (∃ C0 : World -> Prop, C0 (World.drew w8) /\
 LdIQ .i64 C0 (⟨b3, 0, none⟩) fun n1 =>
 StC (World.drew w8) (⟨b0, 0, none⟩) (.slice none 0 0) fun w9 =>
 C0 w9 /\
 StC w9 (⟨b1, 0, none⟩) (.int .u64 0) fun w10 =>
 C0 w10 /\
 StC w10 (⟨b2, 0, none⟩) (.bool false) fun w11 =>
 C0 w11 /\
 StC w11 (⟨b3, 0, none⟩) (.int .i64 n1) fun w12 =>
 LdS w12 (⟨b0, 0, none⟩) fun s0p s0l s0c =>
 LdI .u64 w12 (⟨b1, 0, none⟩) fun n2 =>
 LdB w12 (⟨b2, 0, none⟩) fun b5 =>
 LdI .i64 w12 (⟨b3, 0, none⟩) fun n3 =>
 R (.returned (.tuple #[.slice s0p s0l s0c, .int .u64 n2, .bool b5, .int .i64 n3])) w12)
 (RunStr Tryz.prog (convert 28 9 (.slice key0p key0l key0c)) w8 fun t1 =>
 NewC (.cells #[.string (⟨#[]⟩ : ByteArray)] 9 (0, 0)) w8 fun b6 w13 =>
 StC w13 (⟨b6, 0, none⟩) (.string t1) fun w14 =>
 LdP w14 (⟨b4, 0, none⟩) fun p0 =>
 LdI .u64 w14 (Addr.add (⟨b4, 0, none⟩) 1) fun n4 =>
 Calls Tryz.prog 53 #[.agg #[.pointer p0, .int .u64 n4], .func (.func 54) #[] #[.pointer (some (⟨b4, 0, none⟩)), .pointer (some (⟨b6, 0, none⟩))]] w14 fun e1 w15 =>
 ∃ (r3p : Option Addr), ∃ (r3l : Nat), ∃ (r3c : Nat), ∃ (r4 : Int), ∃ (r5p : Option Addr), ∃ (r5l : Nat), ∃ (r5c : Nat), e1 = .returned (.tuple #[.slice r3p r3l r3c, .int .u64 r4, .slice r5p r5l r5c]) /\
 cond (r4 == 0)
 (StC w15 (⟨b0, 0, none⟩) (.slice none 0 0) fun w16 =>
 StC w16 (⟨b1, 0, none⟩) (.int .u64 0) fun w17 =>
 StC w17 (⟨b2, 0, none⟩) (.bool false) fun w18 =>
 StC w18 (⟨b3, 0, none⟩) (.int .i64 0) fun w19 =>
 LdS w19 (⟨b0, 0, none⟩) fun s1p s1l s1c =>
 LdI .u64 w19 (⟨b1, 0, none⟩) fun n5 =>
 LdB w19 (⟨b2, 0, none⟩) fun b7 =>
 LdI .i64 w19 (⟨b3, 0, none⟩) fun n6 =>
 R (.returned (.tuple #[.slice s1p s1l s1c, .int .u64 n5, .bool b7, .int .i64 n6])) w19)
 (LdP w15 (⟨b4, 0, none⟩) fun p1 =>
 LdI .u64 w15 (Addr.add (⟨b4, 0, none⟩) 1) fun n7 =>
 LdStr w15 (⟨b6, 0, none⟩) fun t2 =>
 Calls Tryz.prog 56 #[.agg #[.pointer p1, .int .u64 n7], .slice r5p r5l r5c, .string t2] w15 fun e2 w20 =>
 ∃ (r6 : Int), ∃ (r7 : Bool), e2 = .returned (.tuple #[.int .i64 r6, .bool r7]) /\
 ∀ k0 : Option Addr -> Nat -> Nat -> Int -> World -> Prop,
 (∀ (l0p : Option Addr) (l0l : Nat) (l0c : Nat) (i0 : Int) (w26 : World), S_tree_Seek_j0 R b0 b1 b2 b3 b4 l0p l0l i0 w26 -> k0 l0p l0l l0c i0 w26) ->
 cond (r6 == (Nat.cast r5l : Int))
 (LdP w20 (⟨b4, 0, none⟩) fun p2 =>
 LdI .u64 w20 (Addr.add (⟨b4, 0, none⟩) 1) fun n8 =>
 Calls Tryz.prog 57 #[.agg #[.pointer p2, .int .u64 n8], .slice r3p r3l r3c, .int .i64 1] w20 fun e3 w21 =>
 ∃ (r8p : Option Addr), ∃ (r8l : Nat), ∃ (r8c : Nat), e3 = .returned (.slice r8p r8l r8c) /\
 cond ((Nat.cast r8l : Int) == 0)
 (StC w21 (⟨b0, 0, none⟩) (.slice none 0 0) fun w22 =>
 StC w22 (⟨b1, 0, none⟩) (.int .u64 0) fun w23 =>
 StC w23 (⟨b2, 0, none⟩) (.bool false) fun w24 =>
 StC w24 (⟨b3, 0, none⟩) (.int .i64 0) fun w25 =>
 LdS w25 (⟨b0, 0, none⟩) fun s2p s2l s2c =>
 LdI .u64 w25 (⟨b1, 0, none⟩) fun n9 =>
 LdB w25 (⟨b2, 0, none⟩) fun b8 =>
 LdI .i64 w25 (⟨b3, 0, none⟩) fun n10 =>
 R (.returned (.tuple #[.slice s2p s2l s2c, .int .u64 n9, .bool b8, .int .i64 n10])) w25)
 (k0 r8p r8l r8c 0 w21))
 (k0 r5p r5l r5c r6 w20)))
def S_tree_Seek_anl : List Ann := [.leaf, .leaf, (.seq .leaf (.cond (.seq .anyl .leaf) .leaf)), (.seq .leaf (.seq .leaf (.seq .leaf (.seq .leaf (.join [6, 7, 8, 9, 10] [(14, .slice), (15, (.int .i64))] .leaf (.seq .anyl .leaf))))))]
theorem S_tree_Seek_ok (h0 : Option Addr) (t0 : Int) (key0p : Option Addr) (key0l : Nat) (key0c : Nat) (w : World) (R : Ending -> World -> Prop) (h : S_tree_Seek h0 t0 key0p key0l key0c w R) : Calls Tryz.prog 13 #[.pointer h0, .int .u64 t0, .slice key0p key0l key0c] w R :=
 calls_of_XD (c := bodyOf Tryz.f13) (ans := S_tree_Seek_anl) wide_ok (idle_of Tryz.func52 (by kernel_rfl) (by kernel_rfl)) Tryz.func13 (by kernel_rfl) (by kernel_rfl) (cast (by kernel_rfl) h)
def S_tree_Last_j0 (R : Ending -> World -> Prop) (b0 : Nat) (b1 : Nat) (b2 : Nat) (b3 : Nat) (b4 : Nat) (l0p : Option Addr) (l0l : Nat) (i1 : Int) (w23 : World) : Prop :=
 cond (i1 == 0)
 (StC w23 (⟨b0, 0, none⟩) (.slice none 0 0) fun w24 =>
 StC w24 (⟨b1, 0, none⟩) (.int .u64 0) fun w25 =>
 StC w25 (⟨b2, 0, none⟩) (.bool false) fun w26 =>
 StC w26 (⟨b3, 0, none⟩) (.int .i64 0) fun w27 =>
 LdS w27 (⟨b0, 0, none⟩) fun s2p s2l s2c =>
 LdI .u64 w27 (⟨b1, 0, none⟩) fun n9 =>
 LdB w27 (⟨b2, 0, none⟩) fun b8 =>
 LdI .i64 w27 (⟨b3, 0, none⟩) fun n10 =>
 R (.returned (.tuple #[.slice s2p s2l s2c, .int .u64 n9, .bool b8, .int .i64 n10])) w27)
 (∃ C1 : World -> Prop, C1 (World.drew w23) /\
 ∃ (p3 : Option Addr), ∃ (n11 : Int), (∀ (w28 : World), C1 w28 ->
 LdP w28 (⟨b4, 0, none⟩) fun p4 =>
 LdI .u64 w28 (Addr.add (⟨b4, 0, none⟩) 1) fun n12 =>
 Value.agg #[.pointer p4, .int .u64 n12] = .agg #[.pointer p3, .int .u64 n11]) /\
 IdxC l0p l0l (IntKind.wrap .i64 (i1 - 1)) 2 fun a0 =>
 LdIQ .u64 C1 a0 fun n13 =>
 IdxC l0p l0l (IntKind.wrap .i64 (i1 - 1)) 2 fun a1 =>
 LdIQ .u64 C1 (Addr.add a1 1) fun n14 =>
 Calls Tryz.prog 58 #[.agg #[.pointer p3, .int .u64 n11], .int .u64 n13] (World.drew w23) fun e4 w29 =>
 ∃ (r9 : ByteArray), e4 = .returned (.string r9) /\
 C1 w29 /\
 RunS Tryz.prog (convert 9 28 (.string r9)) w29 fun s3p s3l s3c w30 =>
 C1 w30 /\
 StC w30 (⟨b0, 0, none⟩) (.slice s3p s3l s3c) fun w31 =>
 C1 w31 /\
 StC w31 (⟨b1, 0, none⟩) (.int .u64 n14) fun w32 =>
 StC w32 (⟨b2, 0, none⟩) (.bool true) fun w33 =>
 StC w33 (⟨b3, 0, none⟩) (.int .i64 0) fun w34 =>
 LdS w34 (⟨b0, 0, none⟩) fun s4p s4l s4c =>
 LdI .u64 w34 (⟨b1, 0, none⟩) fun n15 =>
 LdB w34 (⟨b2, 0, none⟩) fun b9 =>
 LdI .i64 w34 (⟨b3, 0, none⟩) fun n16 =>
 R (.returned (.tuple #[.slice s4p s4l s4c, .int .u64 n15, .bool b9, .int .i64 n16])) w34)
def S_tree_Last_j1 (R : Ending -> World -> Prop) (b0 : Nat) (b1 : Nat) (b2 : Nat) (b3 : Nat) (b4 : Nat) (r3p : Option Addr) (r3l : Nat) (r3c : Nat) (r5p : Option Addr) (r5l : Nat) (r5c : Nat) (i0 : Int) (w21 : World) : Prop :=
 ∀ k1 : Option Addr -> Nat -> Nat -> Int -> World -> Prop,
 (∀ (l0p : Option Addr) (l0l : Nat) (l0c : Nat) (i1 : Int) (w23 : World), S_tree_Last_j0 R b0 b1 b2 b3 b4 l0p l0l i1 w23 -> k1 l0p l0l l0c i1 w23) ->
 cond (i0 == 0)
 (LdP w21 (⟨b4, 0, none⟩) fun p2 =>
 LdI .u64 w21 (Addr.add (⟨b4, 0, none⟩) 1) fun n8 =>
 Calls Tryz.prog 57 #[.agg #[.pointer p2, .int .u64 n8], .slice r3p r3l r3c, .int .i64 (-1)] w21 fun e3 w22 =>
 ∃ (r8p : Option Addr), ∃ (r8l : Nat), ∃ (r8c : Nat), e3 = .returned (.slice r8p r8l r8c) /\
 k1 r8p r8l r8c (Nat.cast r8l : Int) w22)
 (k1 r5p r5l r5c i0 w21)
def S_tree_Last (h0 : Option Addr) (t0 : Int) (key0p : Option Addr) (key0l : Nat) (key0c : Nat) (w : World) (R : Ending -> World -> Prop) : Prop :=
 NewC (.cells #[.slice none 0 0] 28 (0, 0)) w fun b0 w0 =>
 NewC (.cells #[.int .u64 0] 32 (0, 0)) w0 fun b1 w1 =>
 NewC (.cells #[.bool false] 4 (0, 0)) w1 fun b2 w2 =>
 NewC (.cells #[.int .i64 0] 31 (0, 0)) w2 fun b3 w3 =>
 Calls Tryz.prog 40 #[.pointer h0, .int .u64 t0, .slice key0p key0l key0c] w3 fun e0 w4 =>
 ∃ (r0 : Option Addr), ∃ (r1 : Int), ∃ (r2 : Int), e0 = .returned (.tuple #[.agg #[.pointer r0, .int .u64 r1], .int .i64 r2]) /\
 NewC (.cells #[.pointer none, .int .u64 0] 73 (0, 0)) w4 fun b4 w5 =>
 StC w5 (⟨b4, 0, none⟩) (.pointer r0) fun w6 =>
 StC w6 (Addr.add (⟨b4, 0, none⟩) 1) (.int .u64 r1) fun w7 =>
 StC w7 (⟨b3, 0, none⟩) (.int .i64 r2) fun w8 =>
 LdI .i64 w8 (⟨b3, 0, none⟩) fun n0 =>
 cond (n0 != 0)
 (∃ C0 : World -> Prop, C0 (World.drew w8) /\
 LdIQ .i64 C0 (⟨b3, 0, none⟩) fun n1 =>
 StC (World.drew w8) (⟨b0, 0, none⟩) (.slice none 0 0) fun w9 =>
 C0 w9 /\
 StC w9 (⟨b1, 0, none⟩) (.int .u64 0) fun w10 =>
 C0 w10 /\
 StC w10 (⟨b2, 0, none⟩) (.bool false) fun w11 =>
 C0 w11 /\
 StC w11 (⟨b3, 0, none⟩) (.int .i64 n1) fun w12 =>
 LdS w12 (⟨b0, 0, none⟩) fun s0p s0l s0c =>
 LdI .u64 w12 (⟨b1, 0, none⟩) fun n2 =>
 LdB w12 (⟨b2, 0, none⟩) fun b5 =>
 LdI .i64 w12 (⟨b3, 0, none⟩) fun n3 =>
 R (.returned (.tuple #[.slice s0p s0l s0c, .int .u64 n2, .bool b5, .int .i64 n3])) w12)
 (RunStr Tryz.prog (convert 28 9 (.slice key0p key0l key0c)) w8 fun t1 =>
 NewC (.cells #[.string (⟨#[]⟩ : ByteArray)] 9 (0, 0)) w8 fun b6 w13 =>
 StC w13 (⟨b6, 0, none⟩) (.string t1) fun w14 =>
 LdP w14 (⟨b4, 0, none⟩) fun p0 =>
 LdI .u64 w14 (Addr.add (⟨b4, 0, none⟩) 1) fun n4 =>
 Calls Tryz.prog 53 #[.agg #[.pointer p0, .int .u64 n4], .func (.func 60) #[] #[.pointer (some (⟨b6, 0, none⟩)), .pointer (some (⟨b4, 0, none⟩))]] w14 fun e1 w15 =>
 ∃ (r3p : Option Addr), ∃ (r3l : Nat), ∃ (r3c : Nat), ∃ (r4 : Int), ∃ (r5p : Option Addr), ∃ (r5l : Nat), ∃ (r5c : Nat), e1 = .returned (.tuple #[.slice r3p r3l r3c, .int .u64 r4, .slice r5p r5l r5c]) /\
 cond (r4 == 0)
 (StC w15 (⟨b0, 0, none⟩) (.slice none 0 0) fun w16 =>
 StC w16 (⟨b1, 0, none⟩) (.int .u64 0) fun w17 =>
 StC w17 (⟨b2, 0, none⟩) (.bool false) fun w18 =>
 StC w18 (⟨b3, 0, none⟩) (.int .i64 0) fun w19 =>
 LdS w19 (⟨b0, 0, none⟩) fun s1p s1l s1c =>
 LdI .u64 w19 (⟨b1, 0, none⟩) fun n5 =>
 LdB w19 (⟨b2, 0, none⟩) fun b7 =>
 LdI .i64 w19 (⟨b3, 0, none⟩) fun n6 =>
 R (.returned (.tuple #[.slice s1p s1l s1c, .int .u64 n5, .bool b7, .int .i64 n6])) w19)
 (∀ k0 : Int -> World -> Prop,
 (∀ (i0 : Int) (w21 : World), S_tree_Last_j1 R b0 b1 b2 b3 b4 r3p r3l r3c r5p r5l r5c i0 w21 -> k0 i0 w21) ->
 LdStr w15 (⟨b6, 0, none⟩) fun t2 =>
 cond (!(t2.toList == (⟨#[]⟩ : ByteArray).toList))
 (LdP w15 (⟨b4, 0, none⟩) fun p1 =>
 LdI .u64 w15 (Addr.add (⟨b4, 0, none⟩) 1) fun n7 =>
 LdStr w15 (⟨b6, 0, none⟩) fun t3 =>
 Calls Tryz.prog 56 #[.agg #[.pointer p1, .int .u64 n7], .slice r5p r5l r5c, .string t3] w15 fun e2 w20 =>
 ∃ (r6 : Int), ∃ (r7 : Bool), e2 = .returned (.tuple #[.int .i64 r6, .bool r7]) /\
 k0 r6 w20)
 (k0 (Nat.cast r5l : Int) w15)))
def S_tree_Last_anl : List Ann := [.leaf, .leaf, (.seq .leaf (.cond (.seq .anyl .leaf) .leaf)), (.seq .leaf (.seq .leaf (.seq .leaf (.seq .leaf (.join [6, 7, 8, 9, 10, 12, 14] [(15, (.int .i64))] .leaf (.join [6, 7, 8, 9, 10] [(14, .slice), (15, (.int .i64))] .leaf (.seq .leaf (.seq .anyl .leaf))))))))]
theorem S_tree_Last_ok (h0 : Option Addr) (t0 : Int) (key0p : Option Addr) (key0l : Nat) (key0c : Nat) (w : World) (R : Ending -> World -> Prop) (h : S_tree_Last h0 t0 key0p key0l key0c w R) : Calls Tryz.prog 14 #[.pointer h0, .int .u64 t0, .slice key0p key0l key0c] w R :=
 calls_of_XD (c := bodyOf Tryz.f14) (ans := S_tree_Last_anl) wide_ok (idle_of Tryz.func59 (by kernel_rfl) (by kernel_rfl)) Tryz.func14 (by kernel_rfl) (by kernel_rfl) (cast (by kernel_rfl) h)
def S_tree_Get (h0 : Option Addr) (t0 : Int) (key0p : Option Addr) (key0l : Nat) (key0c : Nat) (w : World) (R : Ending -> World -> Prop) : Prop :=
 NewC (.cells #[.int .u64 0] 32 (0, 0)) w fun b0 w0 =>
 NewC (.cells #[.bool false] 4 (0, 0)) w0 fun b1 w1 =>
 NewC (.cells #[.int .i64 0] 31 (0, 0)) w1 fun b2 w2 =>
 Calls Tryz.prog 40 #[.pointer h0, .int .u64 t0, .slice key0p key0l key0c] w2 fun e0 w3 =>
 ∃ (r0 : Option Addr), ∃ (r1 : Int), ∃ (r2 : Int), e0 = .returned (.tuple #[.agg #[.pointer r0, .int .u64 r1], .int .i64 r2]) /\
 NewC (.cells #[.pointer none, .int .u64 0] 73 (0, 0)) w3 fun b3 w4 =>
 StC w4 (⟨b3, 0, none⟩) (.pointer r0) fun w5 =>
 StC w5 (Addr.add (⟨b3, 0, none⟩) 1) (.int .u64 r1) fun w6 =>
 StC w6 (⟨b2, 0, none⟩) (.int .i64 r2) fun w7 =>
 LdI .i64 w7 (⟨b2, 0, none⟩) fun n0 =>
 cond (n0 != 0)
 (∃ C0 : World -> Prop, C0 (World.drew w7) /\
 LdIQ .i64 C0 (⟨b2, 0, none⟩) fun n1 =>
 StC (World.drew w7) (⟨b0, 0, none⟩) (.int .u64 0) fun w8 =>
 C0 w8 /\
 StC w8 (⟨b1, 0, none⟩) (.bool false) fun w9 =>
 C0 w9 /\
 StC w9 (⟨b2, 0, none⟩) (.int .i64 n1) fun w10 =>
 LdI .u64 w10 (⟨b0, 0, none⟩) fun n2 =>
 LdB w10 (⟨b1, 0, none⟩) fun b4 =>
 LdI .i64 w10 (⟨b2, 0, none⟩) fun n3 =>
 R (.returned (.tuple #[.int .u64 n2, .bool b4, .int .i64 n3])) w10)
 (RunStr Tryz.prog (convert 28 9 (.slice key0p key0l key0c)) w7 fun t1 =>
 NewC (.cells #[.string (⟨#[]⟩ : ByteArray)] 9 (0, 0)) w7 fun b5 w11 =>
 StC w11 (⟨b5, 0, none⟩) (.string t1) fun w12 =>
 LdP w12 (⟨b3, 0, none⟩) fun p0 =>
 LdI .u64 w12 (Addr.add (⟨b3, 0, none⟩) 1) fun n4 =>
 Calls Tryz.prog 53 #[.agg #[.pointer p0, .int .u64 n4], .func (.func 62) #[] #[.pointer (some (⟨b3, 0, none⟩)), .pointer (some (⟨b5, 0, none⟩))]] w12 fun e1 w13 =>
 ∃ (r3p : Option Addr), ∃ (r3l : Nat), ∃ (r3c : Nat), ∃ (r4 : Int), ∃ (r5p : Option Addr), ∃ (r5l : Nat), ∃ (r5c : Nat), e1 = .returned (.tuple #[.slice r3p r3l r3c, .int .u64 r4, .slice r5p r5l r5c]) /\
 cond (r4 == 0)
 (StC w13 (⟨b0, 0, none⟩) (.int .u64 0) fun w14 =>
 StC w14 (⟨b1, 0, none⟩) (.bool false) fun w15 =>
 StC w15 (⟨b2, 0, none⟩) (.int .i64 0) fun w16 =>
 LdI .u64 w16 (⟨b0, 0, none⟩) fun n5 =>
 LdB w16 (⟨b1, 0, none⟩) fun b6 =>
 LdI .i64 w16 (⟨b2, 0, none⟩) fun n6 =>
 R (.returned (.tuple #[.int .u64 n5, .bool b6, .int .i64 n6])) w16)
 (LdP w13 (⟨b3, 0, none⟩) fun p1 =>
 LdI .u64 w13 (Addr.add (⟨b3, 0, none⟩) 1) fun n7 =>
 LdStr w13 (⟨b5, 0, none⟩) fun t2 =>
 Calls Tryz.prog 56 #[.agg #[.pointer p1, .int .u64 n7], .slice r5p r5l r5c, .string t2] w13 fun e2 w17 =>
 ∃ (r6 : Int), ∃ (r7 : Bool), e2 = .returned (.tuple #[.int .i64 r6, .bool r7]) /\
 cond r7
 (IdxC r5p r5l r6 2 fun a0 =>
 LdI .u64 w17 (Addr.add a0 1) fun n8 =>
 StC w17 (⟨b0, 0, none⟩) (.int .u64 n8) fun w18 =>
 StC w18 (⟨b1, 0, none⟩) (.bool true) fun w19 =>
 StC w19 (⟨b2, 0, none⟩) (.int .i64 0) fun w20 =>
 LdI .u64 w20 (⟨b0, 0, none⟩) fun n9 =>
 LdB w20 (⟨b1, 0, none⟩) fun b7 =>
 LdI .i64 w20 (⟨b2, 0, none⟩) fun n10 =>
 R (.returned (.tuple #[.int .u64 n9, .bool b7, .int .i64 n10])) w20)
 (StC w17 (⟨b0, 0, none⟩) (.int .u64 0) fun w21 =>
 StC w21 (⟨b1, 0, none⟩) (.bool false) fun w22 =>
 StC w22 (⟨b2, 0, none⟩) (.int .i64 0) fun w23 =>
 LdI .u64 w23 (⟨b0, 0, none⟩) fun n11 =>
 LdB w23 (⟨b1, 0, none⟩) fun b8 =>
 LdI .i64 w23 (⟨b2, 0, none⟩) fun n12 =>
 R (.returned (.tuple #[.int .u64 n11, .bool b8, .int .i64 n12])) w23)))
def S_tree_Get_anl : List Ann := [.leaf, .leaf, (.seq .leaf (.cond (.seq .anyl .leaf) .leaf)), .leaf]
theorem S_tree_Get_ok (h0 : Option Addr) (t0 : Int) (key0p : Option Addr) (key0l : Nat) (key0c : Nat) (w : World) (R : Ending -> World -> Prop) (h : S_tree_Get h0 t0 key0p key0l key0c w R) : Calls Tryz.prog 15 #[.pointer h0, .int .u64 t0, .slice key0p key0l key0c] w R :=
 calls_of_XD (c := bodyOf Tryz.f15) (ans := S_tree_Get_anl) wide_ok (idle_of Tryz.func61 (by kernel_rfl) (by kernel_rfl)) Tryz.func15 (by kernel_rfl) (by kernel_rfl) (cast (by kernel_rfl) h)
def S_slide_New (h0 : Option Addr) (w : World) (R : Ending -> World -> Prop) : Prop :=
 Calls Tryz.prog 64 #[.pointer h0] w fun e0 w0 =>
 ∃ (r0 : Option Addr), e0 = .returned (.pointer r0) /\
 NewC (.cells #[.pointer h0, .pointer r0, .int .i64 0, .int .i64 0, .int .i64 0] 101 (0, 0)) w0 fun b0 w1 =>
 R (.returned (.pointer (some (⟨b0, 0, none⟩)))) w1
def S_slide_New_ann : Ann := .leaf
theorem S_slide_New_ok (h0 : Option Addr) (w : World) (R : Ending -> World -> Prop) (h : S_slide_New h0 w R) : Calls Tryz.prog 21 #[.pointer h0] w R :=
 calls_of_X (c := bodyOf Tryz.f21) (an := S_slide_New_ann) wide_ok Tryz.func21 (by kernel_rfl) (by kernel_rfl) (cast (by kernel_rfl) h)
def S_slide_Collector_Full (c0 : Option Addr) (w : World) (R : Ending -> World -> Prop) : Prop :=
 onSome c0 fun a0 =>
 LdP w a0 fun p0 =>
 Calls Tryz.prog 22 #[.pointer p0] w fun e0 w0 =>
 ∃ (r0 : Option Addr), e0 = .returned (.pointer r0) /\
 Calls Tryz.prog 23 #[.pointer r0] w0 fun e1 w1 =>
 ∃ (r1 : Int), e1 = .returned (.int .i64 r1) /\
 Calls Tryz.prog 65 #[.pointer c0] w1 fun e2 w2 =>
 e2 = .returned (.tuple #[]) /\
 Calls Tryz.prog 30 #[.pointer c0] w2 fun e3 w3 =>
 ∃ (r2 : Int), e3 = .returned (.int .i64 r2) /\
 cond (r2 != 0)
 (R (.returned (.tuple #[.int .i64 0, .int .i64 r2])) w3)
 (Calls Tryz.prog 65 #[.pointer c0] w3 fun e4 w4 =>
 e4 = .returned (.tuple #[]) /\
 onSome c0 fun a1 =>
 LdP w4 a1 fun p1 =>
 Calls Tryz.prog 22 #[.pointer p1] w4 fun e5 w5 =>
 ∃ (r3 : Option Addr), e5 = .returned (.pointer r3) /\
 Calls Tryz.prog 23 #[.pointer r3] w5 fun e6 w6 =>
 ∃ (r4 : Int), e6 = .returned (.int .i64 r4) /\
 R (.returned (.tuple #[.int .i64 (IntKind.wrap .i64 (r4 - r1)), .int .i64 0])) w6)
def S_slide_Collector_Full_ann : Ann := .leaf
theorem S_slide_Collector_Full_ok (c0 : Option Addr) (w : World) (R : Ending -> World -> Prop) (h : S_slide_Collector_Full c0 w R) : Calls Tryz.prog 27 #[.pointer c0] w R :=
 calls_of_X (c := bodyOf Tryz.f27) (an := S_slide_Collector_Full_ann) wide_ok Tryz.func27 (by kernel_rfl) (by kernel_rfl) (cast (by kernel_rfl) h)
def S_slide_Collector_Phase (c0 : Option Addr) (w : World) (R : Ending -> World -> Prop) : Prop :=
 onSome c0 fun a0 =>
 LdI .i64 w (Addr.add a0 2) fun n0 =>
 R (.returned (.int .i64 n0)) w
def S_slide_Collector_Phase_ann : Ann := .leaf
theorem S_slide_Collector_Phase_ok (c0 : Option Addr) (w : World) (R : Ending -> World -> Prop) (h : S_slide_Collector_Phase c0 w R) : Calls Tryz.prog 29 #[.pointer c0] w R :=
 calls_of_X (c := bodyOf Tryz.f29) (an := S_slide_Collector_Phase_ann) wide_ok Tryz.func29 (by kernel_rfl) (by kernel_rfl) (cast (by kernel_rfl) h)
def S_slide_Collector_Start (c0 : Option Addr) (w : World) (R : Ending -> World -> Prop) : Prop :=
 onSome c0 fun a0 =>
 LdI .i64 w (Addr.add a0 2) fun n0 =>
 cond (n0 != 0)
 (R (.returned (.int .i64 16)) w)
 (onSome c0 fun a1 =>
 StC w (Addr.add a1 2) (.int .i64 1) fun w0 =>
 onSome c0 fun a2 =>
 LdP w0 (Addr.add a2 1) fun p0 =>
 Calls Tryz.prog 66 #[.pointer p0] w0 fun e0 w1 =>
 ∃ (r0 : Int), e0 = .returned (.int .i64 r0) /\
 R (.returned (.int .i64 r0)) w1)
def S_slide_Collector_Start_ann : Ann := .leaf
theorem S_slide_Collector_Start_ok (c0 : Option Addr) (w : World) (R : Ending -> World -> Prop) (h : S_slide_Collector_Start c0 w R) : Calls Tryz.prog 30 #[.pointer c0] w R :=
 calls_of_X (c := bodyOf Tryz.f30) (an := S_slide_Collector_Start_ann) wide_ok Tryz.func30 (by kernel_rfl) (by kernel_rfl) (cast (by kernel_rfl) h)
def S_slide_Collector_Step_g0 (c0 : Option Addr) (R : Ending -> World -> Prop) (I0 : Nat -> Int -> World -> Prop) (M0 : Int -> World -> Nat) (n3 : Int) (w6 : World) : Prop :=
 Calls Tryz.prog 72 #[.pointer c0] w6 fun e5 w7 =>
 ∃ (r4 : Bool), e5 = .returned (.bool r4) /\
 cond r4
 (R (.returned (.tuple #[.bool true, .int .i64 0])) w7)
 (cond (decide ((IntKind.wrap .i64 (n3 - 1)) > 0))
 (I0 0 (IntKind.wrap .i64 (n3 - 1)) w7 /\ M0 (IntKind.wrap .i64 (n3 - 1)) w7 < M0 n3 w6)
 (R (.returned (.tuple #[.bool false, .int .i64 0])) w7))
def S_slide_Collector_Step_g1 (c0 : Option Addr) (R : Ending -> World -> Prop) (n4 : Int) (w8 : World) : Prop :=
 onSome c0 fun a7 =>
 LdP w8 (Addr.add a7 1) fun p4 =>
 Calls Tryz.prog 71 #[.pointer p4, .int .i64 n4] w8 fun e6 w9 =>
 ∃ (r5 : Bool), ∃ (r6 : Int), e6 = .returned (.tuple #[.bool r5, .int .i64 r6]) /\
 R (.returned (.tuple #[.bool false, .int .i64 0])) w9
def S_slide_Collector_Step (c0 : Option Addr) (n0 : Int) (w : World) (R : Ending -> World -> Prop) : Prop :=
 ∃ (I0 : Nat -> Int -> World -> Prop) (M0 : Int -> World -> Nat),
 (onSome c0 fun a0 =>
 LdI .i64 w (Addr.add a0 2) fun n1 =>
 cond (n1 == 0)
 (R (.returned (.tuple #[.bool false, .int .i64 16])) w)
 (cond (decide (n0 < 1))
 (R (.returned (.tuple #[.bool false, .int .i64 1])) w)
 (onSome c0 fun a1 =>
 LdI .i64 w (Addr.add a1 2) fun n2 =>
 cond (n2 == 2)
 (I0 0 n0 w)
 (onSome c0 fun a2 =>
 LdP w (Addr.add a2 1) fun p0 =>
 Calls Tryz.prog 67 #[.pointer p0] w fun e0 w0 =>
 ∃ (r0 : Int), e0 = .returned (.int .i64 r0) /\
 cond (decide (r0 > 0))
 (I0 1 n0 w0)
 (onSome c0 fun a3 =>
 LdP w0 (Addr.add a3 1) fun p1 =>
 Calls Tryz.prog 68 #[.pointer p1] w0 fun e1 w1 =>
 ∃ (r1 : Int), e1 = .returned (.int .i64 r1) /\
 onSome c0 fun a4 =>
 LdP w1 a4 fun p2 =>
 Calls Tryz.prog 22 #[.pointer p2] w1 fun e2 w2 =>
 ∃ (r2 : Option Addr), e2 = .returned (.pointer r2) /\
 Calls Tryz.prog 69 #[.pointer r2] w2 fun e3 w3 =>
 ∃ (r3 : Int), e3 = .returned (.int .i64 r3) /\
 onSome c0 fun a5 =>
 LdP w3 a5 fun p3 =>
 Calls Tryz.prog 70 #[.pointer p3, .iface 52 (.pointer c0)] w3 fun e4 w4 =>
 e4 = .returned (.tuple #[]) /\
 onSome c0 fun a6 =>
 StC w4 (Addr.add a6 2) (.int .i64 2) fun w5 =>
 I0 0 n0 w5))))) /\
 (∀ (n3 : Int) (w6 : World), I0 0 n3 w6 ->
 S_slide_Collector_Step_g0 c0 R I0 M0 n3 w6) /\
 (∀ (n4 : Int) (w8 : World), I0 1 n4 w8 ->
 S_slide_Collector_Step_g1 c0 R n4 w8) /\ True
def S_slide_Collector_Step_anp : Ann := .leaf
def S_slide_Collector_Step_ann : Ann := .leaf
def S_slide_Collector_Step_anl : List (Nat × Ann) := [(0, .leaf), (1, .leaf)]
theorem S_slide_Collector_Step_ok (c0 : Option Addr) (n0 : Int) (w : World) (R : Ending -> World -> Prop) (h : S_slide_Collector_Step c0 n0 w R) : Calls Tryz.prog 31 #[.pointer c0, .int .i64 n0] w R :=
 calls_of_Xs (pre := preOf Tryz.f31) (c := scopeOf Tryz.f31) (anp := S_slide_Collector_Step_anp) (an := S_slide_Collector_Step_ann) (ks := [0]) (ts := [(1, (.int .i64))]) (ls := S_slide_Collector_Step_anl) wide_ok Tryz.func31 (by kernel_rfl) (by kernel_rfl) (cast (by kernel_rfl) h)
def S_tree_Make (h0 : Option Addr) (w : World) (R : Ending -> World -> Prop) : Prop :=
 Calls Tryz.prog 37 #[.pointer h0, .int .i64 20, .int .i64 1, .int .i64 3] w fun e0 w0 =>
 ∃ (r0 : Int), ∃ (r1 : Int), e0 = .returned (.tuple #[.int .u64 r0, .int .i64 r1]) /\
 cond (r1 != 0)
 (R (.returned (.tuple #[.int .u64 0, .int .i64 5])) w0)
 (R (.returned (.tuple #[.int .u64 r0, .int .i64 0])) w0)
def S_tree_Make_ann : Ann := .leaf
theorem S_tree_Make_ok (h0 : Option Addr) (w : World) (R : Ending -> World -> Prop) (h : S_tree_Make h0 w R) : Calls Tryz.prog 35 #[.pointer h0] w R :=
 calls_of_X (c := bodyOf Tryz.f35) (an := S_tree_Make_ann) wide_ok Tryz.func35 (by kernel_rfl) (by kernel_rfl) (cast (by kernel_rfl) h)
def S_tree_of (h0 : Option Addr) (t0 : Int) (key0p : Option Addr) (key0l : Nat) (key0c : Nat) (w : World) (R : Ending -> World -> Prop) : Prop :=
 NewC (.cells #[.pointer none, .int .u64 0] 73 (0, 0)) w fun b0 w0 =>
 Calls Tryz.prog 82 #[.pointer h0, .int .u64 t0] w0 fun e0 w1 =>
 ∃ (r0 : Int), ∃ (r1 : Int), ∃ (r2 : Int), ∃ (r3 : Int), e0 = .returned (.tuple #[.int .i64 r0, .int .i64 r1, .int .i64 r2, .int .i64 r3]) /\
 cond (r3 != 0)
 (StC w1 (⟨b0, 0, none⟩) (.pointer none) fun w2 =>
 StC w2 (Addr.add (⟨b0, 0, none⟩) 1) (.int .u64 0) fun w3 =>
 LdP w3 (⟨b0, 0, none⟩) fun p0 =>
 LdI .u64 w3 (Addr.add (⟨b0, 0, none⟩) 1) fun n0 =>
 R (.returned (.tuple #[.agg #[.pointer p0, .int .u64 n0], .int .i64 r3])) w3)
 (cond (r0 != 20)
 (StC w1 (⟨b0, 0, none⟩) (.pointer none) fun w4 =>
 StC w4 (Addr.add (⟨b0, 0, none⟩) 1) (.int .u64 0) fun w5 =>
 LdP w5 (⟨b0, 0, none⟩) fun p1 =>
 LdI .u64 w5 (Addr.add (⟨b0, 0, none⟩) 1) fun n1 =>
 R (.returned (.tuple #[.agg #[.pointer p1, .int .u64 n1], .int .i64 7])) w5)
 (cond (decide ((Nat.cast key0l : Int) > 16384))
 (StC w1 (⟨b0, 0, none⟩) (.pointer none) fun w6 =>
 StC w6 (Addr.add (⟨b0, 0, none⟩) 1) (.int .u64 0) fun w7 =>
 LdP w7 (⟨b0, 0, none⟩) fun p2 =>
 LdI .u64 w7 (Addr.add (⟨b0, 0, none⟩) 1) fun n2 =>
 R (.returned (.tuple #[.agg #[.pointer p2, .int .u64 n2], .int .i64 1])) w7)
 (cond (r1 != 1)
 (StC w1 (⟨b0, 0, none⟩) (.pointer none) fun w8 =>
 StC w8 (Addr.add (⟨b0, 0, none⟩) 1) (.int .u64 0) fun w9 =>
 LdP w9 (⟨b0, 0, none⟩) fun p3 =>
 LdI .u64 w9 (Addr.add (⟨b0, 0, none⟩) 1) fun n3 =>
 R (.returned (.tuple #[.agg #[.pointer p3, .int .u64 n3], .int .i64 4])) w9)
 (cond (r2 != 3)
 (StC w1 (⟨b0, 0, none⟩) (.pointer none) fun w10 =>
 StC w10 (Addr.add (⟨b0, 0, none⟩) 1) (.int .u64 0) fun w11 =>
 LdP w11 (⟨b0, 0, none⟩) fun p4 =>
 LdI .u64 w11 (Addr.add (⟨b0, 0, none⟩) 1) fun n4 =>
 R (.returned (.tuple #[.agg #[.pointer p4, .int .u64 n4], .int .i64 4])) w11)
 (StC w1 (⟨b0, 0, none⟩) (.pointer h0) fun w12 =>
 StC w12 (Addr.add (⟨b0, 0, none⟩) 1) (.int .u64 t0) fun w13 =>
 LdP w13 (⟨b0, 0, none⟩) fun p5 =>
 LdI .u64 w13 (Addr.add (⟨b0, 0, none⟩) 1) fun n5 =>
 R (.returned (.tuple #[.agg #[.pointer p5, .int .u64 n5], .int .i64 0])) w13)))))
def S_tree_of_ann : Ann := .leaf
theorem S_tree_of_ok (h0 : Option Addr) (t0 : Int) (key0p : Option Addr) (key0l : Nat) (key0c : Nat) (w : World) (R : Ending -> World -> Prop) (h : S_tree_of h0 t0 key0p key0l key0c w R) : Calls Tryz.prog 40 #[.pointer h0, .int .u64 t0, .slice key0p key0l key0c] w R :=
 calls_of_X (c := bodyOf Tryz.f40) (an := S_tree_of_ann) wide_ok Tryz.func40 (by kernel_rfl) (by kernel_rfl) (cast (by kernel_rfl) h)
def S_tree_tree_take (t0 : Option Addr) (t1 : Int) (key0 : ByteArray) (w : World) (R : Ending -> World -> Prop) : Prop :=
 NewC (.cells #[.pointer t0, .int .u64 t1] 73 (0, 0)) w fun b0 w0 =>
 NewC (.cells #[.string key0] 9 (0, 0)) w0 fun b1 w1 =>
 LdP w1 (⟨b0, 0, none⟩) fun p0 =>
 LdI .u64 w1 (Addr.add (⟨b0, 0, none⟩) 1) fun n0 =>
 Calls Tryz.prog 53 #[.agg #[.pointer p0, .int .u64 n0], .func (.func 91) #[] #[.pointer (some (⟨b0, 0, none⟩)), .pointer (some (⟨b1, 0, none⟩))]] w1 fun e0 w2 =>
 ∃ (r0p : Option Addr), ∃ (r0l : Nat), ∃ (r0c : Nat), ∃ (r1 : Int), ∃ (r2p : Option Addr), ∃ (r2l : Nat), ∃ (r2c : Nat), e0 = .returned (.tuple #[.slice r0p r0l r0c, .int .u64 r1, .slice r2p r2l r2c]) /\
 cond (r1 == 0)
 (R (.returned (.tuple #[.int .u64 0, .bool false])) w2)
 (LdP w2 (⟨b0, 0, none⟩) fun p1 =>
 LdI .u64 w2 (Addr.add (⟨b0, 0, none⟩) 1) fun n1 =>
 LdStr w2 (⟨b1, 0, none⟩) fun t2 =>
 Calls Tryz.prog 56 #[.agg #[.pointer p1, .int .u64 n1], .slice r2p r2l r2c, .string t2] w2 fun e1 w3 =>
 ∃ (r3 : Int), ∃ (r4 : Bool), e1 = .returned (.tuple #[.int .i64 r3, .bool r4]) /\
 cond (!r4)
 (R (.returned (.tuple #[.int .u64 0, .bool false])) w3)
 (IdxC r2p r2l r3 2 fun a0 =>
 LdI .u64 w3 (Addr.add a0 1) fun n2 =>
 ∃ C0 : World -> Prop, C0 (World.drew w3) /\
 ∃ (p2 : Option Addr), ∃ (n3 : Int), (∀ (w4 : World), C0 w4 ->
 LdP w4 (⟨b0, 0, none⟩) fun p3 =>
 LdI .u64 w4 (Addr.add (⟨b0, 0, none⟩) 1) fun n4 =>
 Value.agg #[.pointer p3, .int .u64 n4] = .agg #[.pointer p2, .int .u64 n3]) /\
 ∃ (p4 : Option Addr), ∃ (n5 : Int), (∀ (w5 : World), C0 w5 ->
 LdP w5 (⟨b0, 0, none⟩) fun p5 =>
 LdI .u64 w5 (Addr.add (⟨b0, 0, none⟩) 1) fun n6 =>
 Value.agg #[.pointer p5, .int .u64 n6] = .agg #[.pointer p4, .int .u64 n5]) /\
 ∃ (p6 : Option Addr), ∃ (n7 : Int), (∀ (w6 : World), C0 w6 ->
 LdP w6 (⟨b0, 0, none⟩) fun p7 =>
 LdI .u64 w6 (Addr.add (⟨b0, 0, none⟩) 1) fun n8 =>
 Value.agg #[.pointer p7, .int .u64 n8] = .agg #[.pointer p6, .int .u64 n7]) /\
 ∃ (p8 : Option Addr), ∃ (n9 : Int), (∀ (w7 : World), C0 w7 ->
 LdP w7 (⟨b0, 0, none⟩) fun p9 =>
 LdI .u64 w7 (Addr.add (⟨b0, 0, none⟩) 1) fun n10 =>
 Value.agg #[.pointer p9, .int .u64 n10] = .agg #[.pointer p8, .int .u64 n9]) /\
 Calls Tryz.prog 93 #[.agg #[.pointer p4, .int .u64 n5]] (World.drew w3) fun e2 w8 =>
 ∃ (r5 : Int), e2 = .returned (.int .u64 r5) /\
 C0 w8 /\
 Calls Tryz.prog 51 #[.agg #[.pointer p6, .int .u64 n7]] w8 fun e3 w9 =>
 ∃ (r6 : Int), e3 = .returned (.int .i64 r6) /\
 C0 w9 /\
 Calls Tryz.prog 94 #[.agg #[.pointer p8, .int .u64 n9]] w9 fun e4 w10 =>
 ∃ (r7 : Int), e4 = .returned (.int .i64 r7) /\
 C0 w10 /\
 Calls Tryz.prog 92 #[.agg #[.pointer p2, .int .u64 n3], .int .u64 r5, .int .i64 (IntKind.wrap .i64 (r6 - 1)), .int .i64 r7] w10 fun e5 w11 =>
 e5 = .returned (.tuple #[]) /\
 C0 w11 /\
 ∃ C1 : World -> Prop, C1 (World.drew w11) /\
 ∃ (p10 : Option Addr), ∃ (n11 : Int), (∀ (w12 : World), C1 w12 ->
 LdP w12 (⟨b0, 0, none⟩) fun p11 =>
 LdI .u64 w12 (Addr.add (⟨b0, 0, none⟩) 1) fun n12 =>
 Value.agg #[.pointer p11, .int .u64 n12] = .agg #[.pointer p10, .int .u64 n11]) /\
 Calls Tryz.prog 96 #[.slice r2p r2l r2c, .int .i64 r3, .int .i64 (IntKind.wrap .i64 (r3 + 1))] (World.drew w11) fun e6 w13 =>
 ∃ (r8p : Option Addr), ∃ (r8l : Nat), ∃ (r8c : Nat), e6 = .returned (.slice r8p r8l r8c) /\
 C1 w13 /\
 Calls Tryz.prog 95 #[.agg #[.pointer p10, .int .u64 n11], .slice r0p r0l r0c, .int .u64 r1, .slice r8p r8l r8c, .bool false] w13 fun e7 w14 =>
 e7 = .returned (.tuple #[]) /\
 R (.returned (.tuple #[.int .u64 n2, .bool true])) w14))
def S_tree_tree_take_ann : Ann := (.seq .leaf (.seq .leaf (.seq .leaf (.seq .leaf (.seq .leaf (.seq .leaf (.seq .anyl (.seq .anyl .leaf))))))))
theorem S_tree_tree_take_ok (t0 : Option Addr) (t1 : Int) (key0 : ByteArray) (w : World) (R : Ending -> World -> Prop) (h : S_tree_tree_take t0 t1 key0 w R) : Calls Tryz.prog 43 #[.agg #[.pointer t0, .int .u64 t1], .string key0] w R :=
 calls_of_X (c := bodyOf Tryz.f43) (an := S_tree_tree_take_ann) wide_ok Tryz.func43 (by kernel_rfl) (by kernel_rfl) (cast (by kernel_rfl) h)
def S_tree_tree_room (t0 : Option Addr) (t1 : Int) (n0 : Int) (w : World) (R : Ending -> World -> Prop) : Prop :=
 NewC (.cells #[.pointer t0, .int .u64 t1] 73 (0, 0)) w fun b0 w0 =>
 LdP w0 (⟨b0, 0, none⟩) fun p0 =>
 LdI .u64 w0 (Addr.add (⟨b0, 0, none⟩) 1) fun n1 =>
 Calls Tryz.prog 94 #[.agg #[.pointer p0, .int .u64 n1]] w0 fun e0 w1 =>
 ∃ (r0 : Int), e0 = .returned (.int .i64 r0) /\
 DivC 8
 (R (.returned (.tuple #[.int .i64 (IntKind.wrap .i64 ((IntKind.wrap .i64 ((IntKind.wrap .i64 ((IntKind.wrap .i64 (r0 + 1)) * 26)) + 3)) + (IntKind.wrap .i64 (Int.tdiv n0 8)))), .int .i64 (IntKind.wrap .i64 ((IntKind.wrap .i64 (r0 + 1)) + 1))])) w1)
def S_tree_tree_room_ann : Ann := .leaf
theorem S_tree_tree_room_ok (t0 : Option Addr) (t1 : Int) (n0 : Int) (w : World) (R : Ending -> World -> Prop) (h : S_tree_tree_room t0 t1 n0 w R) : Calls Tryz.prog 46 #[.agg #[.pointer t0, .int .u64 t1], .int .i64 n0] w R :=
 calls_of_X (c := bodyOf Tryz.f46) (an := S_tree_tree_room_ann) wide_ok Tryz.func46 (by kernel_rfl) (by kernel_rfl) (cast (by kernel_rfl) h)
def S_tree_must (holds0 : Bool) (e0 : Int) (w : World) (R : Ending -> World -> Prop) : Prop :=
 cond (!holds0)
 (False)
 (R (.returned (.tuple #[])) w)
def S_tree_must_ann : Ann := .leaf
theorem S_tree_must_ok (holds0 : Bool) (e0 : Int) (w : World) (R : Ending -> World -> Prop) (h : S_tree_must holds0 e0 w R) : Calls Tryz.prog 47 #[.bool holds0, .int .i64 e0] w R :=
 calls_of_X (c := bodyOf Tryz.f47) (an := S_tree_must_ann) wide_ok Tryz.func47 (by kernel_rfl) (by kernel_rfl) (cast (by kernel_rfl) h)
def S_doc_Room (h0 : Option Addr) (words0 : Int) (slots0 : Int) (w : World) (R : Ending -> World -> Prop) : Prop :=
 Calls Tryz.prog 22 #[.pointer h0] w fun e0 w0 =>
 ∃ (r0 : Option Addr), e0 = .returned (.pointer r0) /\
 Calls Tryz.prog 23 #[.pointer r0] w0 fun e1 w1 =>
 ∃ (r1 : Int), e1 = .returned (.int .i64 r1) /\
 cond (decide (r1 ≥ words0))
 (Calls Tryz.prog 24 #[.pointer h0] w1 fun e2 w2 =>
 ∃ (r2 : Option Addr), e2 = .returned (.pointer r2) /\
 Calls Tryz.prog 25 #[.pointer r2] w2 fun e3 w3 =>
 ∃ (r3 : Int), e3 = .returned (.int .i64 r3) /\
 Calls Tryz.prog 24 #[.pointer h0] w3 fun e4 w4 =>
 ∃ (r4 : Option Addr), e4 = .returned (.pointer r4) /\
 Calls Tryz.prog 26 #[.pointer r4] w4 fun e5 w5 =>
 ∃ (r5 : Int), e5 = .returned (.int .i64 r5) /\
 R (.returned (.bool (decide ((IntKind.wrap .i64 (r3 - r5)) ≥ slots0)))) w5)
 (R (.returned (.bool false)) w1)
def S_doc_Room_ann : Ann := .leaf
theorem S_doc_Room_ok (h0 : Option Addr) (words0 : Int) (slots0 : Int) (w : World) (R : Ending -> World -> Prop) (h : S_doc_Room h0 words0 slots0 w R) : Calls Tryz.prog 48 #[.pointer h0, .int .i64 words0, .int .i64 slots0] w R :=
 calls_of_X (c := bodyOf Tryz.f48) (an := S_doc_Room_ann) wide_ok Tryz.func48 (by kernel_rfl) (by kernel_rfl) (cast (by kernel_rfl) h)
def S_tree_tree_put (t0 : Option Addr) (t1 : Int) (key0 : ByteArray) (x0 : Int) (w : World) (R : Ending -> World -> Prop) : Prop :=
 NewC (.cells #[.pointer t0, .int .u64 t1] 73 (0, 0)) w fun b0 w0 =>
 NewC (.cells #[.string key0] 9 (0, 0)) w0 fun b1 w1 =>
 LdP w1 (⟨b0, 0, none⟩) fun p0 =>
 LdI .u64 w1 (Addr.add (⟨b0, 0, none⟩) 1) fun n0 =>
 Calls Tryz.prog 53 #[.agg #[.pointer p0, .int .u64 n0], .func (.func 98) #[] #[.pointer (some (⟨b0, 0, none⟩)), .pointer (some (⟨b1, 0, none⟩))]] w1 fun e0 w2 =>
 ∃ (r0p : Option Addr), ∃ (r0l : Nat), ∃ (r0c : Nat), ∃ (r1 : Int), ∃ (r2p : Option Addr), ∃ (r2l : Nat), ∃ (r2c : Nat), e0 = .returned (.tuple #[.slice r0p r0l r0c, .int .u64 r1, .slice r2p r2l r2c]) /\
 cond (r1 == 0)
 (∃ C0 : World -> Prop, C0 (World.drew w2) /\
 ∃ (p1 : Option Addr), ∃ (n1 : Int), (∀ (w3 : World), C0 w3 ->
 LdP w3 (⟨b0, 0, none⟩) fun p2 =>
 LdI .u64 w3 (Addr.add (⟨b0, 0, none⟩) 1) fun n2 =>
 Value.agg #[.pointer p2, .int .u64 n2] = .agg #[.pointer p1, .int .u64 n1]) /\
 ∃ (p3 : Option Addr), ∃ (n3 : Int), (∀ (w4 : World), C0 w4 ->
 LdP w4 (⟨b0, 0, none⟩) fun p4 =>
 LdI .u64 w4 (Addr.add (⟨b0, 0, none⟩) 1) fun n4 =>
 Value.agg #[.pointer p4, .int .u64 n4] = .agg #[.pointer p3, .int .u64 n3]) /\
 ∃ (p5 : Option Addr), ∃ (n5 : Int), (∀ (w5 : World), C0 w5 ->
 LdP w5 (⟨b0, 0, none⟩) fun p6 =>
 LdI .u64 w5 (Addr.add (⟨b0, 0, none⟩) 1) fun n6 =>
 Value.agg #[.pointer p6, .int .u64 n6] = .agg #[.pointer p5, .int .u64 n5]) /\
 ∃ (t2 : ByteArray), (∀ (w6 : World), C0 w6 ->
 LdStr w6 (⟨b1, 0, none⟩) fun t3 =>
 Value.string t3 = .string t2) /\
 Calls Tryz.prog 100 #[.agg #[.pointer p5, .int .u64 n5], .string t2] (World.drew w2) fun e1 w7 =>
 ∃ (r3 : Int), e1 = .returned (.int .u64 r3) /\
 C0 w7 /\
 NewC (.cells #[.int .u64 r3, .int .u64 x0] 96 (0, 0)) w7 fun b2 w8 =>
 C0 w8 /\
 Calls Tryz.prog 99 #[.agg #[.pointer p3, .int .u64 n3], .slice (some (⟨b2, 0, none⟩)) 1 1, .bool false] w8 fun e2 w9 =>
 ∃ (r4 : Int), e2 = .returned (.int .u64 r4) /\
 C0 w9 /\
 Calls Tryz.prog 92 #[.agg #[.pointer p1, .int .u64 n1], .int .u64 r4, .int .i64 1, .int .i64 1] w9 fun e3 w10 =>
 e3 = .returned (.tuple #[]) /\
 C0 w10 /\
 R (.returned (.tuple #[.int .u64 0, .bool false])) w10)
 (LdP w2 (⟨b0, 0, none⟩) fun p7 =>
 LdI .u64 w2 (Addr.add (⟨b0, 0, none⟩) 1) fun n7 =>
 LdStr w2 (⟨b1, 0, none⟩) fun t4 =>
 Calls Tryz.prog 56 #[.agg #[.pointer p7, .int .u64 n7], .slice r2p r2l r2c, .string t4] w2 fun e4 w11 =>
 ∃ (r5 : Int), ∃ (r6 : Bool), e4 = .returned (.tuple #[.int .i64 r5, .bool r6]) /\
 cond r6
 (IdxC r2p r2l r5 2 fun a0 =>
 LdI .u64 w11 (Addr.add a0 1) fun n8 =>
 IdxC r2p r2l r5 2 fun a1 =>
 StC w11 (Addr.add a1 1) (.int .u64 x0) fun w12 =>
 LdP w12 (⟨b0, 0, none⟩) fun p8 =>
 LdI .u64 w12 (Addr.add (⟨b0, 0, none⟩) 1) fun n9 =>
 Calls Tryz.prog 101 #[.agg #[.pointer p8, .int .u64 n9], .int .u64 r1, .slice r2p r2l r2c] w12 fun e5 w13 =>
 e5 = .returned (.tuple #[]) /\
 R (.returned (.tuple #[.int .u64 n8, .bool true])) w13)
 (∃ C1 : World -> Prop, C1 (World.drew w11) /\
 ∃ (p9 : Option Addr), ∃ (n10 : Int), (∀ (w14 : World), C1 w14 ->
 LdP w14 (⟨b0, 0, none⟩) fun p10 =>
 LdI .u64 w14 (Addr.add (⟨b0, 0, none⟩) 1) fun n11 =>
 Value.agg #[.pointer p10, .int .u64 n11] = .agg #[.pointer p9, .int .u64 n10]) /\
 ∃ (p11 : Option Addr), ∃ (n12 : Int), (∀ (w15 : World), C1 w15 ->
 LdP w15 (⟨b0, 0, none⟩) fun p12 =>
 LdI .u64 w15 (Addr.add (⟨b0, 0, none⟩) 1) fun n13 =>
 Value.agg #[.pointer p12, .int .u64 n13] = .agg #[.pointer p11, .int .u64 n12]) /\
 ∃ (p13 : Option Addr), ∃ (n14 : Int), (∀ (w16 : World), C1 w16 ->
 LdP w16 (⟨b0, 0, none⟩) fun p14 =>
 LdI .u64 w16 (Addr.add (⟨b0, 0, none⟩) 1) fun n15 =>
 Value.agg #[.pointer p14, .int .u64 n15] = .agg #[.pointer p13, .int .u64 n14]) /\
 ∃ (p15 : Option Addr), ∃ (n16 : Int), (∀ (w17 : World), C1 w17 ->
 LdP w17 (⟨b0, 0, none⟩) fun p16 =>
 LdI .u64 w17 (Addr.add (⟨b0, 0, none⟩) 1) fun n17 =>
 Value.agg #[.pointer p16, .int .u64 n17] = .agg #[.pointer p15, .int .u64 n16]) /\
 Calls Tryz.prog 93 #[.agg #[.pointer p11, .int .u64 n12]] (World.drew w11) fun e6 w18 =>
 ∃ (r7 : Int), e6 = .returned (.int .u64 r7) /\
 C1 w18 /\
 Calls Tryz.prog 51 #[.agg #[.pointer p13, .int .u64 n14]] w18 fun e7 w19 =>
 ∃ (r8 : Int), e7 = .returned (.int .i64 r8) /\
 C1 w19 /\
 Calls Tryz.prog 94 #[.agg #[.pointer p15, .int .u64 n16]] w19 fun e8 w20 =>
 ∃ (r9 : Int), e8 = .returned (.int .i64 r9) /\
 C1 w20 /\
 Calls Tryz.prog 92 #[.agg #[.pointer p9, .int .u64 n10], .int .u64 r7, .int .i64 (IntKind.wrap .i64 (r8 + 1)), .int .i64 r9] w20 fun e9 w21 =>
 e9 = .returned (.tuple #[]) /\
 C1 w21 /\
 LdP w21 (⟨b0, 0, none⟩) fun p17 =>
 LdI .u64 w21 (Addr.add (⟨b0, 0, none⟩) 1) fun n18 =>
 LdStr w21 (⟨b1, 0, none⟩) fun t5 =>
 Calls Tryz.prog 100 #[.agg #[.pointer p17, .int .u64 n18], .string t5] w21 fun e10 w22 =>
 ∃ (r10 : Int), e10 = .returned (.int .u64 r10) /\
 NewC (.cells #[.int .u64 r10, .int .u64 x0] 96 (0, 0)) w22 fun b3 w23 =>
 Calls Tryz.prog 102 #[.slice r2p r2l r2c, .int .i64 r5, .slice (some (⟨b3, 0, none⟩)) 1 1] w23 fun e11 w24 =>
 ∃ (r11p : Option Addr), ∃ (r11l : Nat), ∃ (r11c : Nat), e11 = .returned (.slice r11p r11l r11c) /\
 LdP w24 (⟨b0, 0, none⟩) fun p18 =>
 LdI .u64 w24 (Addr.add (⟨b0, 0, none⟩) 1) fun n19 =>
 Calls Tryz.prog 103 #[.agg #[.pointer p18, .int .u64 n19], .slice r0p r0l r0c, .int .u64 r1, .slice r11p r11l r11c, .bool false] w24 fun e12 w25 =>
 e12 = .returned (.tuple #[]) /\
 R (.returned (.tuple #[.int .u64 0, .bool false])) w25))
def S_tree_tree_put_ann : Ann := (.seq .leaf (.seq .leaf (.seq (.seq .leaf (.cond (.seq .anyl .leaf) .leaf)) (.seq .leaf (.seq .leaf (.seq .anyl .leaf))))))
theorem S_tree_tree_put_ok (t0 : Option Addr) (t1 : Int) (key0 : ByteArray) (x0 : Int) (w : World) (R : Ending -> World -> Prop) (h : S_tree_tree_put t0 t1 key0 x0 w R) : Calls Tryz.prog 49 #[.agg #[.pointer t0, .int .u64 t1], .string key0, .int .u64 x0] w R :=
 calls_of_X (c := bodyOf Tryz.f49) (an := S_tree_tree_put_ann) wide_ok Tryz.func49 (by kernel_rfl) (by kernel_rfl) (cast (by kernel_rfl) h)
def S_tree_tree_count (t0 : Option Addr) (t1 : Int) (w : World) (R : Ending -> World -> Prop) : Prop :=
 NewC (.cells #[.pointer t0, .int .u64 t1] 73 (0, 0)) w fun b0 w0 =>
 LdP w0 (⟨b0, 0, none⟩) fun p0 =>
 LdI .u64 w0 (Addr.add (⟨b0, 0, none⟩) 1) fun n0 =>
 LdI .u64 w0 (Addr.add (⟨b0, 0, none⟩) 1) fun n1 =>
 Calls Tryz.prog 104 #[.agg #[.pointer p0, .int .u64 n0], .int .u64 n1, .int .i64 0] w0 fun e0 w1 =>
 ∃ (r0 : Int), e0 = .returned (.int .i64 r0) /\
 R (.returned (.int .i64 r0)) w1
def S_tree_tree_count_ann : Ann := .leaf
theorem S_tree_tree_count_ok (t0 : Option Addr) (t1 : Int) (w : World) (R : Ending -> World -> Prop) (h : S_tree_tree_count t0 t1 w R) : Calls Tryz.prog 51 #[.agg #[.pointer t0, .int .u64 t1]] w R :=
 calls_of_X (c := bodyOf Tryz.f51) (an := S_tree_tree_count_ann) wide_ok Tryz.func51 (by kernel_rfl) (by kernel_rfl) (cast (by kernel_rfl) h)
def S_tree_tree_down_l0 (choose0f : Nat) (choose0c : Array Value) (R : Ending -> World -> Prop) (b0 : Nat) (r1 : Int) (way0p : Option Addr) (way0l : Nat) (way0c : Nat) (x0 : Int) (n2 : Int) (w3 : World) (I0 : Option Addr -> Nat -> Nat -> Int -> Int -> World -> Prop) (M0 : Option Addr -> Nat -> Nat -> Int -> Int -> World -> Nat) : Prop :=
 cond (decide (n2 < (IntKind.wrap .i64 (r1 - 1))))
 (LdP w3 (⟨b0, 0, none⟩) fun p2 =>
 LdI .u64 w3 (Addr.add (⟨b0, 0, none⟩) 1) fun n3 =>
 Calls Tryz.prog 105 #[.agg #[.pointer p2, .int .u64 n3], .int .u64 x0, .bool true] w3 fun e2 w4 =>
 ∃ (r2p : Option Addr), ∃ (r2l : Nat), ∃ (r2c : Nat), e2 = .returned (.slice r2p r2l r2c) /\
 Calls Tryz.prog 47 #[.bool (decide ((Nat.cast r2l : Int) > 0)), .int .i64 4] w4 fun e3 w5 =>
 e3 = .returned (.tuple #[]) /\
 FnQ Tryz.prog choose0f ((#[] ++ #[.slice r2p r2l r2c]) ++ choose0c) w5 fun E0 w6 =>
 ∃ (r3 : Int), E0 (.int .i64 r3) /\
 NewC (.cells #[.int .u64 x0, .slice r2p r2l r2c, .int .i64 r3] 152 (0, 0)) w6 fun b1 w7 =>
 RunS Tryz.prog (Builtin.append_ #[85, 85] 85 #[.slice way0p way0l way0c, .slice (some (⟨b1, 0, none⟩)) 1 1]) w7 fun s0p s0l s0c w8 =>
 IdxC r2p r2l r3 2 fun a0 =>
 LdI .u64 w8 (Addr.add a0 1) fun n4 =>
 I0 s0p s0l s0c n4 (IntKind.wrap .i64 (n2 + 1)) w8 /\ M0 s0p s0l s0c n4 (IntKind.wrap .i64 (n2 + 1)) w8 < M0 way0p way0l way0c x0 n2 w3)
 (LdP w3 (⟨b0, 0, none⟩) fun p3 =>
 LdI .u64 w3 (Addr.add (⟨b0, 0, none⟩) 1) fun n5 =>
 Calls Tryz.prog 105 #[.agg #[.pointer p3, .int .u64 n5], .int .u64 x0, .bool false] w3 fun e4 w9 =>
 ∃ (r4p : Option Addr), ∃ (r4l : Nat), ∃ (r4c : Nat), e4 = .returned (.slice r4p r4l r4c) /\
 R (.returned (.tuple #[.slice way0p way0l way0c, .int .u64 x0, .slice r4p r4l r4c])) w9)
def S_tree_tree_down (t0 : Option Addr) (t1 : Int) (choose0f : Nat) (choose0c : Array Value) (w : World) (R : Ending -> World -> Prop) : Prop :=
 NewC (.cells #[.pointer t0, .int .u64 t1] 73 (0, 0)) w fun b0 w0 =>
 LdP w0 (⟨b0, 0, none⟩) fun p0 =>
 LdI .u64 w0 (Addr.add (⟨b0, 0, none⟩) 1) fun n0 =>
 Calls Tryz.prog 93 #[.agg #[.pointer p0, .int .u64 n0]] w0 fun e0 w1 =>
 ∃ (r0 : Int), e0 = .returned (.int .u64 r0) /\
 cond (r0 == 0)
 (R (.returned (.tuple #[.slice none 0 0, .int .u64 0, .slice none 0 0])) w1)
 (LdP w1 (⟨b0, 0, none⟩) fun p1 =>
 LdI .u64 w1 (Addr.add (⟨b0, 0, none⟩) 1) fun n1 =>
 Calls Tryz.prog 94 #[.agg #[.pointer p1, .int .u64 n1]] w1 fun e1 w2 =>
 ∃ (r1 : Int), e1 = .returned (.int .i64 r1) /\
 ∃ (I0 : Option Addr -> Nat -> Nat -> Int -> Int -> World -> Prop) (M0 : Option Addr -> Nat -> Nat -> Int -> Int -> World -> Nat), I0 none 0 0 r0 0 w2 /\
 ∀ (way0p : Option Addr) (way0l : Nat) (way0c : Nat) (x0 : Int) (n2 : Int) (w3 : World), I0 way0p way0l way0c x0 n2 w3 ->
 S_tree_tree_down_l0 choose0f choose0c R b0 r1 way0p way0l way0c x0 n2 w3 I0 M0)
def S_tree_tree_down_ann : Ann := (.seq .leaf (.seq .leaf (.seq .leaf (.seq (.seq .leaf (.block (.loop [1, 2, 16] [(4, .slice), (7, (.int .u64)), (17, (.int .i64))] .leaf))) .leaf))))
theorem S_tree_tree_down_ok (t0 : Option Addr) (t1 : Int) (choose0f : Nat) (choose0c : Array Value) (w : World) (R : Ending -> World -> Prop) (h : S_tree_tree_down t0 t1 choose0f choose0c w R) : Calls Tryz.prog 53 #[.agg #[.pointer t0, .int .u64 t1], .func (.func choose0f) #[] choose0c] w R :=
 calls_of_X (c := bodyOf Tryz.f53) (an := S_tree_tree_down_ann) wide_ok Tryz.func53 (by kernel_rfl) (by kernel_rfl) (cast (by kernel_rfl) h)
def S_tree_Seek_2 (l0p : Option Addr) (l0l : Nat) (l0c : Nat) (fv0 : Addr) (fv1 : Addr) (w : World) (R : Ending -> World -> Prop) : Prop :=
 LdP w fv0 fun p0 =>
 LdI .u64 w (Addr.add fv0 1) fun n0 =>
 LdStr w fv1 fun t0 =>
 Calls Tryz.prog 55 #[.agg #[.pointer p0, .int .u64 n0], .slice l0p l0l l0c, .string t0] w fun e0 w0 =>
 ∃ (r0 : Int), e0 = .returned (.int .i64 r0) /\
 R (.returned (.int .i64 r0)) w0
def S_tree_Seek_2_ann : Ann := .leaf
theorem S_tree_Seek_2_ok (l0p : Option Addr) (l0l : Nat) (l0c : Nat) (fv0 : Addr) (fv1 : Addr) (w : World) (R : Ending -> World -> Prop) (h : S_tree_Seek_2 l0p l0l l0c fv0 fv1 w R) : Calls Tryz.prog 54 #[.slice l0p l0l l0c, .pointer (some fv0), .pointer (some fv1)] w R :=
 calls_of_X (c := bodyOf Tryz.f54) (an := S_tree_Seek_2_ann) wide_ok Tryz.func54 (by kernel_rfl) (by kernel_rfl) (cast (by kernel_rfl) h)
def S_tree_tree_way (t0 : Option Addr) (t1 : Int) (l0p : Option Addr) (l0l : Nat) (l0c : Nat) (key0 : ByteArray) (w : World) (R : Ending -> World -> Prop) : Prop :=
 NewC (.cells #[.pointer t0, .int .u64 t1] 73 (0, 0)) w fun b0 w0 =>
 LdP w0 (⟨b0, 0, none⟩) fun p0 =>
 LdI .u64 w0 (Addr.add (⟨b0, 0, none⟩) 1) fun n0 =>
 Calls Tryz.prog 56 #[.agg #[.pointer p0, .int .u64 n0], .slice l0p l0l l0c, .string key0] w0 fun e0 w1 =>
 ∃ (r0 : Int), ∃ (r1 : Bool), e0 = .returned (.tuple #[.int .i64 r0, .bool r1]) /\
 cond r1
 (R (.returned (.int .i64 r0)) w1)
 (R (.returned (.int .i64 (iMax 0 (IntKind.wrap .i64 (r0 - 1))))) w1)
def S_tree_tree_way_ann : Ann := .leaf
theorem S_tree_tree_way_ok (t0 : Option Addr) (t1 : Int) (l0p : Option Addr) (l0l : Nat) (l0c : Nat) (key0 : ByteArray) (w : World) (R : Ending -> World -> Prop) (h : S_tree_tree_way t0 t1 l0p l0l l0c key0 w R) : Calls Tryz.prog 55 #[.agg #[.pointer t0, .int .u64 t1], .slice l0p l0l l0c, .string key0] w R :=
 calls_of_X (c := bodyOf Tryz.f55) (an := S_tree_tree_way_ann) wide_ok Tryz.func55 (by kernel_rfl) (by kernel_rfl) (cast (by kernel_rfl) h)
def S_tree_tree_at (t0 : Option Addr) (t1 : Int) (l0p : Option Addr) (l0l : Nat) (l0c : Nat) (key0 : ByteArray) (w : World) (R : Ending -> World -> Prop) : Prop :=
 NewC (.cells #[.pointer t0, .int .u64 t1] 73 (0, 0)) w fun b0 w0 =>
 Calls Tryz.prog 106 #[.slice l0p l0l l0c, .string key0, .func (.func 107) #[] #[.pointer (some (⟨b0, 0, none⟩))]] w0 fun e0 w1 =>
 ∃ (r0 : Int), ∃ (r1 : Bool), e0 = .returned (.tuple #[.int .i64 r0, .bool r1]) /\
 R (.returned (.tuple #[.int .i64 r0, .bool r1])) w1
def S_tree_tree_at_ann : Ann := .leaf
theorem S_tree_tree_at_ok (t0 : Option Addr) (t1 : Int) (l0p : Option Addr) (l0l : Nat) (l0c : Nat) (key0 : ByteArray) (w : World) (R : Ending -> World -> Prop) (h : S_tree_tree_at t0 t1 l0p l0l l0c key0 w R) : Calls Tryz.prog 56 #[.agg #[.pointer t0, .int .u64 t1], .slice l0p l0l l0c, .string key0] w R :=
 calls_of_X (c := bodyOf Tryz.f56) (an := S_tree_tree_at_ann) wide_ok Tryz.func56 (by kernel_rfl) (by kernel_rfl) (cast (by kernel_rfl) h)
def S_tree_tree_beside_j0 (x0 : Int) (j0 : Int) (w2 : World) (I1 : Int -> Int -> World -> Prop) (M1 : Int -> Int -> World -> Nat) (x1 : Int) (w5 : World) : Prop :=
 I1 x1 (IntKind.wrap .i64 (j0 + 1)) w5 /\ M1 x1 (IntKind.wrap .i64 (j0 + 1)) w5 < M1 x0 j0 w2
def S_tree_tree_beside_l0 (way0l : Nat) (by0 : Int) (R : Ending -> World -> Prop) (b0 : Nat) (x0 : Int) (j0 : Int) (w2 : World) (I1 : Int -> Int -> World -> Prop) (M1 : Int -> Int -> World -> Nat) : Prop :=
 cond (decide (j0 < (Nat.cast way0l : Int)))
 (∀ k2 : Int -> World -> Prop,
 (∀ (x1 : Int) (w5 : World), S_tree_tree_beside_j0 x0 j0 w2 I1 M1 x1 w5 -> k2 x1 w5) ->
 LdP w2 (⟨b0, 0, none⟩) fun p0 =>
 LdI .u64 w2 (Addr.add (⟨b0, 0, none⟩) 1) fun n2 =>
 Calls Tryz.prog 105 #[.agg #[.pointer p0, .int .u64 n2], .int .u64 x0, .bool true] w2 fun e0 w3 =>
 ∃ (r0p : Option Addr), ∃ (r0l : Nat), ∃ (r0c : Nat), e0 = .returned (.slice r0p r0l r0c) /\
 Calls Tryz.prog 47 #[.bool (decide ((Nat.cast r0l : Int) > 0)), .int .i64 4] w3 fun e1 w4 =>
 e1 = .returned (.tuple #[]) /\
 IdxC r0p r0l 0 2 fun a4 =>
 LdI .u64 w4 (Addr.add a4 1) fun n3 =>
 cond (decide (by0 < 0))
 (IdxC r0p r0l (IntKind.wrap .i64 ((Nat.cast r0l : Int) - 1)) 2 fun a5 =>
 LdI .u64 w4 (Addr.add a5 1) fun n4 =>
 k2 n4 w4)
 (k2 n3 w4))
 (LdP w2 (⟨b0, 0, none⟩) fun p1 =>
 LdI .u64 w2 (Addr.add (⟨b0, 0, none⟩) 1) fun n5 =>
 Calls Tryz.prog 105 #[.agg #[.pointer p1, .int .u64 n5], .int .u64 x0, .bool false] w2 fun e2 w6 =>
 ∃ (r1p : Option Addr), ∃ (r1l : Nat), ∃ (r1c : Nat), e2 = .returned (.slice r1p r1l r1c) /\
 R (.returned (.slice r1p r1l r1c)) w6)
def S_tree_tree_beside_j1 (k0 : Int) (w1 : World) (I0 : Int -> World -> Prop) (M0 : Int -> World -> Nat) (w7 : World) : Prop :=
 I0 (IntKind.wrap .i64 (k0 - 1)) w7 /\ M0 (IntKind.wrap .i64 (k0 - 1)) w7 < M0 k0 w1
def S_tree_tree_beside_l1 (way0p : Option Addr) (way0l : Nat) (by0 : Int) (R : Ending -> World -> Prop) (b0 : Nat) (k0 : Int) (w1 : World) (I0 : Int -> World -> Prop) (M0 : Int -> World -> Nat) : Prop :=
 cond (decide (k0 ≥ 0))
 (∀ k1 : World -> Prop,
 (∀ (w7 : World), S_tree_tree_beside_j1 k0 w1 I0 M0 w7 -> k1 w7) ->
 IdxC way0p way0l k0 3 fun a0 =>
 LdI .i64 w1 (Addr.add a0 2) fun n0 =>
 cond (decide ((IntKind.wrap .i64 (n0 + by0)) < 0))
 (k1 w1)
 (IdxC way0p way0l k0 3 fun a1 =>
 LdS w1 (Addr.add a1 1) fun _ s0l _ =>
 cond (decide ((IntKind.wrap .i64 (n0 + by0)) ≥ (Nat.cast s0l : Int)))
 (k1 w1)
 (IdxC way0p way0l k0 3 fun a2 =>
 LdS w1 (Addr.add a2 1) fun s1p s1l _ =>
 IdxC s1p s1l (IntKind.wrap .i64 (n0 + by0)) 2 fun a3 =>
 LdI .u64 w1 (Addr.add a3 1) fun n1 =>
 ∃ (I1 : Int -> Int -> World -> Prop) (M1 : Int -> Int -> World -> Nat), I1 n1 (IntKind.wrap .i64 (k0 + 1)) w1 /\
 ∀ (x0 : Int) (j0 : Int) (w2 : World), I1 x0 j0 w2 ->
 S_tree_tree_beside_l0 way0l by0 R b0 x0 j0 w2 I1 M1)))
 (R (.returned (.slice none 0 0)) w1)
def S_tree_tree_beside (t0 : Option Addr) (t1 : Int) (way0p : Option Addr) (way0l : Nat) (way0c : Nat) (by0 : Int) (w : World) (R : Ending -> World -> Prop) : Prop :=
 NewC (.cells #[.pointer t0, .int .u64 t1] 73 (0, 0)) w fun b0 w0 =>
 ∃ (I0 : Int -> World -> Prop) (M0 : Int -> World -> Nat), I0 (IntKind.wrap .i64 ((Nat.cast way0l : Int) - 1)) w0 /\
 ∀ (k0 : Int) (w1 : World), I0 k0 w1 ->
 S_tree_tree_beside_l1 way0p way0l by0 R b0 k0 w1 I0 M0
def S_tree_tree_beside_ann : Ann := (.seq .leaf (.seq (.seq .leaf (.block (.loop [1, 2, 3] [(7, (.int .i64))] (.seq .leaf (.seq (.jblock [1, 2, 3, 7] [] (.seq .leaf (.seq .leaf (.seq .leaf (.seq (.seq .leaf (.block (.loop [1, 2, 3] [(9, (.int .u64)), (10, (.int .i64))] (.seq .leaf (.seq (.jblock [1, 2, 3, 10] [(9, (.int .u64))] .leaf .leaf) .leaf))))) .leaf)))) .leaf) .leaf))))) .leaf))
theorem S_tree_tree_beside_ok (t0 : Option Addr) (t1 : Int) (way0p : Option Addr) (way0l : Nat) (way0c : Nat) (by0 : Int) (w : World) (R : Ending -> World -> Prop) (h : S_tree_tree_beside t0 t1 way0p way0l way0c by0 w R) : Calls Tryz.prog 57 #[.agg #[.pointer t0, .int .u64 t1], .slice way0p way0l way0c, .int .i64 by0] w R :=
 calls_of_X (c := bodyOf Tryz.f57) (an := S_tree_tree_beside_ann) wide_ok Tryz.func57 (by kernel_rfl) (by kernel_rfl) (cast (by kernel_rfl) h)
def S_tree_tree_key_l0 (x0 : Int) (R : Ending -> World -> Prop) (b0 : Nat) (r2 : Int) (l0p : Option Addr) (l0l : Nat) (l0c : Nat) (n0 : Int) (w5 : World) (I0 : Option Addr -> Nat -> Nat -> Int -> World -> Prop) (M0 : Option Addr -> Nat -> Nat -> Int -> World -> Nat) : Prop :=
 cond (decide (n0 < r2))
 (LdP w5 (⟨b0, 0, none⟩) fun p1 =>
 Calls Tryz.prog 110 #[.pointer p1, .int .u64 x0, .int .i64 n0] w5 fun e3 w6 =>
 ∃ (r4 : Int), ∃ (r5 : Int), e3 = .returned (.tuple #[.int .u64 r4, .int .i64 r5]) /\
 NewC (.cells #[.int .u64 r4] 32 (0, 0)) w6 fun b1 w7 =>
 RunS Tryz.prog (Builtin.append_ #[25, 25] 25 #[.slice l0p l0l l0c, .slice (some (⟨b1, 0, none⟩)) 1 1]) w7 fun s1p s1l s1c w8 =>
 I0 s1p s1l s1c (IntKind.wrap .i64 (n0 + 1)) w8 /\ M0 s1p s1l s1c (IntKind.wrap .i64 (n0 + 1)) w8 < M0 l0p l0l l0c n0 w5)
 (Calls Tryz.prog 111 #[.slice l0p l0l l0c] w5 fun e4 w9 =>
 ∃ (r6 : ByteArray), ∃ (r7 : Bool), e4 = .returned (.tuple #[.string r6, .bool r7]) /\
 cond r7
 (Calls Tryz.prog 47 #[.bool (decide ((Nat.cast r6.size : Int) <= 16384)), .int .i64 4] w9 fun e5 w10 =>
 e5 = .returned (.tuple #[]) /\
 R (.returned (.string r6)) w10)
 (Calls Tryz.prog 47 #[.bool false, .int .i64 4] w9 fun e6 w11 =>
 e6 = .returned (.tuple #[]) /\
 R (.returned (.string r6)) w11))
def S_tree_tree_key_l1 (x0 : Int) (R : Ending -> World -> Prop) (b0 : Nat) (r2 : Int) (l1p : Option Addr) (l1l : Nat) (l1c : Nat) (n1 : Int) (w14 : World) (I1 : Option Addr -> Nat -> Nat -> Int -> World -> Prop) (M1 : Option Addr -> Nat -> Nat -> Int -> World -> Nat) : Prop :=
 cond (decide (n1 < r2))
 (LdP w14 (⟨b0, 0, none⟩) fun p2 =>
 Calls Tryz.prog 110 #[.pointer p2, .int .u64 x0, .int .i64 n1] w14 fun e8 w15 =>
 ∃ (r8 : Int), ∃ (r9 : Int), e8 = .returned (.tuple #[.int .u64 r8, .int .i64 r9]) /\
 NewC (.cells #[.int .u64 r8] 32 (0, 0)) w15 fun b2 w16 =>
 RunS Tryz.prog (Builtin.append_ #[25, 25] 25 #[.slice l1p l1l l1c, .slice (some (⟨b2, 0, none⟩)) 1 1]) w16 fun s3p s3l s3c w17 =>
 I1 s3p s3l s3c (IntKind.wrap .i64 (n1 + 1)) w17 /\ M1 s3p s3l s3c (IntKind.wrap .i64 (n1 + 1)) w17 < M1 l1p l1l l1c n1 w14)
 (Calls Tryz.prog 111 #[.slice l1p l1l l1c] w14 fun e9 w18 =>
 ∃ (r10 : ByteArray), ∃ (r11 : Bool), e9 = .returned (.tuple #[.string r10, .bool r11]) /\
 cond r11
 (Calls Tryz.prog 47 #[.bool (decide ((Nat.cast r10.size : Int) <= 16384)), .int .i64 4] w18 fun e10 w19 =>
 e10 = .returned (.tuple #[]) /\
 R (.returned (.string r10)) w19)
 (Calls Tryz.prog 47 #[.bool false, .int .i64 4] w18 fun e11 w20 =>
 e11 = .returned (.tuple #[]) /\
 R (.returned (.string r10)) w20))
def S_tree_tree_key_l2 (x0 : Int) (R : Ending -> World -> Prop) (b0 : Nat) (r2 : Int) (l2p : Option Addr) (l2l : Nat) (l2c : Nat) (n2 : Int) (w23 : World) (I2 : Option Addr -> Nat -> Nat -> Int -> World -> Prop) (M2 : Option Addr -> Nat -> Nat -> Int -> World -> Nat) : Prop :=
 cond (decide (n2 < r2))
 (LdP w23 (⟨b0, 0, none⟩) fun p3 =>
 Calls Tryz.prog 110 #[.pointer p3, .int .u64 x0, .int .i64 n2] w23 fun e13 w24 =>
 ∃ (r12 : Int), ∃ (r13 : Int), e13 = .returned (.tuple #[.int .u64 r12, .int .i64 r13]) /\
 NewC (.cells #[.int .u64 r12] 32 (0, 0)) w24 fun b3 w25 =>
 RunS Tryz.prog (Builtin.append_ #[25, 25] 25 #[.slice l2p l2l l2c, .slice (some (⟨b3, 0, none⟩)) 1 1]) w25 fun s5p s5l s5c w26 =>
 I2 s5p s5l s5c (IntKind.wrap .i64 (n2 + 1)) w26 /\ M2 s5p s5l s5c (IntKind.wrap .i64 (n2 + 1)) w26 < M2 l2p l2l l2c n2 w23)
 (Calls Tryz.prog 111 #[.slice l2p l2l l2c] w23 fun e14 w27 =>
 ∃ (r14 : ByteArray), ∃ (r15 : Bool), e14 = .returned (.tuple #[.string r14, .bool r15]) /\
 cond r15
 (Calls Tryz.prog 47 #[.bool (decide ((Nat.cast r14.size : Int) <= 16384)), .int .i64 4] w27 fun e15 w28 =>
 e15 = .returned (.tuple #[]) /\
 R (.returned (.string r14)) w28)
 (Calls Tryz.prog 47 #[.bool false, .int .i64 4] w27 fun e16 w29 =>
 e16 = .returned (.tuple #[]) /\
 R (.returned (.string r14)) w29))
def S_tree_tree_key (t0 : Option Addr) (t1 : Int) (x0 : Int) (w : World) (R : Ending -> World -> Prop) : Prop :=
 NewC (.cells #[.pointer t0, .int .u64 t1] 73 (0, 0)) w fun b0 w0 =>
 LdP w0 (⟨b0, 0, none⟩) fun p0 =>
 Calls Tryz.prog 82 #[.pointer p0, .int .u64 x0] w0 fun e0 w1 =>
 ∃ (r0 : Int), ∃ (r1 : Int), ∃ (r2 : Int), ∃ (r3 : Int), e0 = .returned (.tuple #[.int .i64 r0, .int .i64 r1, .int .i64 r2, .int .i64 r3]) /\
 Calls Tryz.prog 109 #[.int .i64 r3] w1 fun e1 w2 =>
 e1 = .returned (.tuple #[]) /\
 cond (r0 == 23)
 (cond (r1 == 0)
 (Calls Tryz.prog 47 #[.bool (decide (r2 <= 2050)), .int .i64 4] w2 fun e2 w3 =>
 e2 = .returned (.tuple #[]) /\
 RunS Tryz.prog (Instr.makeSlice 25 (.int .i64 0) (.int .i64 r2)) w3 fun s0p s0l s0c w4 =>
 ∃ (I0 : Option Addr -> Nat -> Nat -> Int -> World -> Prop) (M0 : Option Addr -> Nat -> Nat -> Int -> World -> Nat), I0 s0p s0l s0c 0 w4 /\
 ∀ (l0p : Option Addr) (l0l : Nat) (l0c : Nat) (n0 : Int) (w5 : World), I0 l0p l0l l0c n0 w5 ->
 S_tree_tree_key_l0 x0 R b0 r2 l0p l0l l0c n0 w5 I0 M0)
 (Calls Tryz.prog 47 #[.bool false, .int .i64 4] w2 fun e7 w12 =>
 e7 = .returned (.tuple #[]) /\
 RunS Tryz.prog (Instr.makeSlice 25 (.int .i64 0) (.int .i64 r2)) w12 fun s2p s2l s2c w13 =>
 ∃ (I1 : Option Addr -> Nat -> Nat -> Int -> World -> Prop) (M1 : Option Addr -> Nat -> Nat -> Int -> World -> Nat), I1 s2p s2l s2c 0 w13 /\
 ∀ (l1p : Option Addr) (l1l : Nat) (l1c : Nat) (n1 : Int) (w14 : World), I1 l1p l1l l1c n1 w14 ->
 S_tree_tree_key_l1 x0 R b0 r2 l1p l1l l1c n1 w14 I1 M1))
 (Calls Tryz.prog 47 #[.bool false, .int .i64 4] w2 fun e12 w21 =>
 e12 = .returned (.tuple #[]) /\
 RunS Tryz.prog (Instr.makeSlice 25 (.int .i64 0) (.int .i64 r2)) w21 fun s4p s4l s4c w22 =>
 ∃ (I2 : Option Addr -> Nat -> Nat -> Int -> World -> Prop) (M2 : Option Addr -> Nat -> Nat -> Int -> World -> Nat), I2 s4p s4l s4c 0 w22 /\
 ∀ (l2p : Option Addr) (l2l : Nat) (l2c : Nat) (n2 : Int) (w23 : World), I2 l2p l2l l2c n2 w23 ->
 S_tree_tree_key_l2 x0 R b0 r2 l2p l2l l2c n2 w23 I2 M2)
def S_tree_tree_key_ann : Ann := (.seq .leaf (.seq .leaf (.seq .leaf (.seq .leaf (.seq .leaf (.seq (.seq .leaf (.block (.loop [1, 2, 39] [(9, .slice), (40, (.int .i64))] .leaf))) .leaf))))))
theorem S_tree_tree_key_ok (t0 : Option Addr) (t1 : Int) (x0 : Int) (w : World) (R : Ending -> World -> Prop) (h : S_tree_tree_key t0 t1 x0 w R) : Calls Tryz.prog 58 #[.agg #[.pointer t0, .int .u64 t1], .int .u64 x0] w R :=
 calls_of_X (c := bodyOf Tryz.f58) (an := S_tree_tree_key_ann) wide_ok Tryz.func58 (by kernel_rfl) (by kernel_rfl) (cast (by kernel_rfl) h)
def S_tree_Last_2 (l0p : Option Addr) (l0l : Nat) (l0c : Nat) (fv0 : Addr) (fv1 : Addr) (w : World) (R : Ending -> World -> Prop) : Prop :=
 LdStr w fv0 fun t0 =>
 cond (t0.toList == (⟨#[]⟩ : ByteArray).toList)
 (R (.returned (.int .i64 (IntKind.wrap .i64 ((Nat.cast l0l : Int) - 1)))) w)
 (LdP w fv1 fun p0 =>
 LdI .u64 w (Addr.add fv1 1) fun n0 =>
 LdStr w fv0 fun t1 =>
 Calls Tryz.prog 55 #[.agg #[.pointer p0, .int .u64 n0], .slice l0p l0l l0c, .string t1] w fun e0 w0 =>
 ∃ (r0 : Int), e0 = .returned (.int .i64 r0) /\
 R (.returned (.int .i64 r0)) w0)
def S_tree_Last_2_ann : Ann := .leaf
theorem S_tree_Last_2_ok (l0p : Option Addr) (l0l : Nat) (l0c : Nat) (fv0 : Addr) (fv1 : Addr) (w : World) (R : Ending -> World -> Prop) (h : S_tree_Last_2 l0p l0l l0c fv0 fv1 w R) : Calls Tryz.prog 60 #[.slice l0p l0l l0c, .pointer (some fv0), .pointer (some fv1)] w R :=
 calls_of_X (c := bodyOf Tryz.f60) (an := S_tree_Last_2_ann) wide_ok Tryz.func60 (by kernel_rfl) (by kernel_rfl) (cast (by kernel_rfl) h)
def S_tree_Get_2 (l0p : Option Addr) (l0l : Nat) (l0c : Nat) (fv0 : Addr) (fv1 : Addr) (w : World) (R : Ending -> World -> Prop) : Prop :=
 LdP w fv0 fun p0 =>
 LdI .u64 w (Addr.add fv0 1) fun n0 =>
 LdStr w fv1 fun t0 =>
 Calls Tryz.prog 55 #[.agg #[.pointer p0, .int .u64 n0], .slice l0p l0l l0c, .string t0] w fun e0 w0 =>
 ∃ (r0 : Int), e0 = .returned (.int .i64 r0) /\
 R (.returned (.int .i64 r0)) w0
def S_tree_Get_2_ann : Ann := .leaf
theorem S_tree_Get_2_ok (l0p : Option Addr) (l0l : Nat) (l0c : Nat) (fv0 : Addr) (fv1 : Addr) (w : World) (R : Ending -> World -> Prop) (h : S_tree_Get_2 l0p l0l l0c fv0 fv1 w R) : Calls Tryz.prog 62 #[.slice l0p l0l l0c, .pointer (some fv0), .pointer (some fv1)] w R :=
 calls_of_X (c := bodyOf Tryz.f62) (an := S_tree_Get_2_ann) wide_ok Tryz.func62 (by kernel_rfl) (by kernel_rfl) (cast (by kernel_rfl) h)
def S_tree_Check (h0 : Option Addr) (t0 : Int) (w : World) (R : Ending -> World -> Prop) : Prop :=
 NewC (.map #[] 0) w fun m0 w0 =>
 Calls Tryz.prog 112 #[.pointer h0, .int .u64 t0, .map (some m0)] w0 fun e0 w1 =>
 ∃ (r0 : Int), e0 = .returned (.int .i64 r0) /\
 R (.returned (.int .i64 r0)) w1
def S_tree_Check_ann : Ann := .leaf
theorem S_tree_Check_ok (h0 : Option Addr) (t0 : Int) (w : World) (R : Ending -> World -> Prop) (h : S_tree_Check h0 t0 w R) : Calls Tryz.prog 63 #[.pointer h0, .int .u64 t0] w R :=
 calls_of_X (c := bodyOf Tryz.f63) (an := S_tree_Check_ann) wide_ok Tryz.func63 (by kernel_rfl) (by kernel_rfl) (cast (by kernel_rfl) h)
def S_mark_New (h0 : Option Addr) (w : World) (R : Ending -> World -> Prop) : Prop :=
 NewC (.cells #[.pointer h0, .slice none 0 0, .bool false] 162 (0, 0)) w fun b0 w0 =>
 R (.returned (.pointer (some (⟨b0, 0, none⟩)))) w0
def S_mark_New_ann : Ann := .leaf
theorem S_mark_New_ok (h0 : Option Addr) (w : World) (R : Ending -> World -> Prop) (h : S_mark_New h0 w R) : Calls Tryz.prog 64 #[.pointer h0] w R :=
 calls_of_X (c := bodyOf Tryz.f64) (an := S_mark_New_ann) wide_ok Tryz.func64 (by kernel_rfl) (by kernel_rfl) (cast (by kernel_rfl) h)
def S_slide_Collector_end_l0 (c0 : Option Addr) (R : Ending -> World -> Prop) (w0 : World) (I0 : World -> Prop) (M0 : World -> Nat) : Prop :=
 onSome c0 fun a0 =>
 LdI .i64 w0 (Addr.add a0 2) fun n0 =>
 cond (n0 != 0)
 (Calls Tryz.prog 31 #[.pointer c0, .int .i64 1048576] w0 fun e0 w1 =>
 ∃ (r0 : Bool), ∃ (r1 : Int), e0 = .returned (.tuple #[.bool r0, .int .i64 r1]) /\
 cond (r1 != 0)
 (R (.returned (.tuple #[])) w1)
 (I0 w1 /\ M0 w1 < M0 w0))
 (R (.returned (.tuple #[])) w0)
def S_slide_Collector_end (c0 : Option Addr) (w : World) (R : Ending -> World -> Prop) : Prop :=
 ∃ (I0 : World -> Prop) (M0 : World -> Nat), I0 w /\
 ∀ (w0 : World), I0 w0 ->
 S_slide_Collector_end_l0 c0 R w0 I0 M0
def S_slide_Collector_end_ann : Ann := (.block (.loop [0] [] .leaf))
theorem S_slide_Collector_end_ok (c0 : Option Addr) (w : World) (R : Ending -> World -> Prop) (h : S_slide_Collector_end c0 w R) : Calls Tryz.prog 65 #[.pointer c0] w R :=
 calls_of_X (c := bodyOf Tryz.f65) (an := S_slide_Collector_end_ann) wide_ok Tryz.func65 (by kernel_rfl) (by kernel_rfl) (cast (by kernel_rfl) h)
def S_mark_Marker_Start_l0 (r0 : Option Addr) (k0 : World -> Prop) (at0 : Int) (w4 : World) (I0 : Int -> World -> Prop) (M0 : Int -> World -> Nat) : Prop :=
 Calls Tryz.prog 28 #[.pointer r0] w4 fun e2 w5 =>
 ∃ (r2 : Int), e2 = .returned (.int .i64 r2) /\
 cond (at0 != r2)
 (Calls Tryz.prog 113 #[.pointer r0, .int .i64 at0, .bool false] w5 fun e3 w6 =>
 ∃ (r3 : Int), e3 = .returned (.int .i64 r3) /\
 Calls Tryz.prog 79 #[.pointer r0, .int .i64 at0] w6 fun e4 w7 =>
 ∃ (r4 : Int), ∃ (r5 : Int), e4 = .returned (.tuple #[.int .i64 r4, .int .i64 r5]) /\
 cond (r5 != 0)
 (k0 w7)
 (I0 r4 w7 /\ M0 r4 w7 < M0 at0 w4))
 (k0 w5)
def S_mark_Marker_Start_l1 (m0 : Option Addr) (R : Ending -> World -> Prop) (n0 : Int) (w9 : World) (I1 : Int -> World -> Prop) (M1 : Int -> World -> Nat) : Prop :=
 cond (decide (n0 < 16))
 (onSome m0 fun a4 =>
 LdP w9 a4 fun p1 =>
 Calls Tryz.prog 114 #[.pointer p1, .int .i64 n0] w9 fun e5 w10 =>
 ∃ (r6 : Int), ∃ (r7 : Int), e5 = .returned (.tuple #[.int .u64 r6, .int .i64 r7]) /\
 Calls Tryz.prog 115 #[.pointer m0, .int .u64 r6] w10 fun e6 w11 =>
 e6 = .returned (.tuple #[]) /\
 I1 (IntKind.wrap .i64 (n0 + 1)) w11 /\ M1 (IntKind.wrap .i64 (n0 + 1)) w11 < M1 n0 w9)
 (onSome m0 fun a5 =>
 LdP w9 a5 fun p2 =>
 Calls Tryz.prog 70 #[.pointer p2, .iface 98 (.pointer m0)] w9 fun e7 w12 =>
 e7 = .returned (.tuple #[]) /\
 R (.returned (.int .i64 0)) w12)
def S_mark_Marker_Start_j0 (m0 : Option Addr) (R : Ending -> World -> Prop) (w8 : World) : Prop :=
 ∃ (I1 : Int -> World -> Prop) (M1 : Int -> World -> Nat), I1 0 w8 /\
 ∀ (n0 : Int) (w9 : World), I1 n0 w9 ->
 S_mark_Marker_Start_l1 m0 R n0 w9 I1 M1
def S_mark_Marker_Start (m0 : Option Addr) (w : World) (R : Ending -> World -> Prop) : Prop :=
 onSome m0 fun a0 =>
 LdB w (Addr.add a0 2) fun b0 =>
 cond b0
 (R (.returned (.int .i64 16)) w)
 (onSome m0 fun a1 =>
 StC w (Addr.add a1 2) (.bool true) fun w0 =>
 onSome m0 fun a2 =>
 StC w0 (Addr.add a2 1) (.slice none 0 0) fun w1 =>
 onSome m0 fun a3 =>
 LdP w1 a3 fun p0 =>
 Calls Tryz.prog 22 #[.pointer p0] w1 fun e0 w2 =>
 ∃ (r0 : Option Addr), e0 = .returned (.pointer r0) /\
 Calls Tryz.prog 76 #[.pointer r0] w2 fun e1 w3 =>
 ∃ (r1 : Int), e1 = .returned (.int .i64 r1) /\
 ∀ k0 : World -> Prop,
 (∀ (w8 : World), S_mark_Marker_Start_j0 m0 R w8 -> k0 w8) ->
 ∃ (I0 : Int -> World -> Prop) (M0 : Int -> World -> Nat), I0 r1 w3 /\
 ∀ (at0 : Int) (w4 : World), I0 at0 w4 ->
 S_mark_Marker_Start_l0 r0 k0 at0 w4 I0 M0)
def S_mark_Marker_Start_ann : Ann := (.seq .leaf (.seq .leaf (.seq .leaf (.seq .leaf (.seq (.seq .leaf (.jblock [0] [] (.loop [0, 3] [(4, (.int .i64))] .leaf) .leaf)) (.seq (.seq .leaf (.block (.loop [0] [(43, (.int .i64))] .leaf))) .leaf))))))
theorem S_mark_Marker_Start_ok (m0 : Option Addr) (w : World) (R : Ending -> World -> Prop) (h : S_mark_Marker_Start m0 w R) : Calls Tryz.prog 66 #[.pointer m0] w R :=
 calls_of_X (c := bodyOf Tryz.f66) (an := S_mark_Marker_Start_ann) wide_ok Tryz.func66 (by kernel_rfl) (by kernel_rfl) (cast (by kernel_rfl) h)
def S_mark_Marker_Waiting (m0 : Option Addr) (w : World) (R : Ending -> World -> Prop) : Prop :=
 onSome m0 fun a0 =>
 LdS w (Addr.add a0 1) fun _ s0l _ =>
 R (.returned (.int .i64 (Nat.cast s0l : Int))) w
def S_mark_Marker_Waiting_ann : Ann := .leaf
theorem S_mark_Marker_Waiting_ok (m0 : Option Addr) (w : World) (R : Ending -> World -> Prop) (h : S_mark_Marker_Waiting m0 w R) : Calls Tryz.prog 67 #[.pointer m0] w R :=
 calls_of_X (c := bodyOf Tryz.f67) (an := S_mark_Marker_Waiting_ann) wide_ok Tryz.func67 (by kernel_rfl) (by kernel_rfl) (cast (by kernel_rfl) h)
def S_mark_Marker_Stop (m0 : Option Addr) (w : World) (R : Ending -> World -> Prop) : Prop :=
 onSome m0 fun a0 =>
 LdB w (Addr.add a0 2) fun b0 =>
 cond (!b0)
 (R (.returned (.int .i64 16)) w)
 (onSome m0 fun a1 =>
 StC w (Addr.add a1 2) (.bool false) fun w0 =>
 onSome m0 fun a2 =>
 StC w0 (Addr.add a2 1) (.slice none 0 0) fun w1 =>
 onSome m0 fun a3 =>
 LdP w1 a3 fun p0 =>
 Calls Tryz.prog 70 #[.pointer p0, .nilIface] w1 fun e0 w2 =>
 e0 = .returned (.tuple #[]) /\
 R (.returned (.int .i64 0)) w2)
def S_mark_Marker_Stop_ann : Ann := .leaf
theorem S_mark_Marker_Stop_ok (m0 : Option Addr) (w : World) (R : Ending -> World -> Prop) (h : S_mark_Marker_Stop m0 w R) : Calls Tryz.prog 68 #[.pointer m0] w R :=
 calls_of_X (c := bodyOf Tryz.f68) (an := S_mark_Marker_Stop_ann) wide_ok Tryz.func68 (by kernel_rfl) (by kernel_rfl) (cast (by kernel_rfl) h)
def S_mark_Marker_Step_l0 (m0 : Option Addr) (k0 : World -> Prop) (n1 : Int) (w0 : World) (I0 : Int -> World -> Prop) (M0 : Int -> World -> Nat) : Prop :=
 cond (decide (n1 > 0))
 (onSome m0 fun a1 =>
 LdS w0 (Addr.add a1 1) fun _ s0l _ =>
 cond (decide ((Nat.cast s0l : Int) > 0))
 (Calls Tryz.prog 116 #[.pointer m0] w0 fun e0 w1 =>
 e0 = .returned (.tuple #[]) /\
 I0 (IntKind.wrap .i64 (n1 - 1)) w1 /\ M0 (IntKind.wrap .i64 (n1 - 1)) w1 < M0 n1 w0)
 (k0 w0))
 (k0 w0)
def S_mark_Marker_Step_j0 (m0 : Option Addr) (R : Ending -> World -> Prop) (w2 : World) : Prop :=
 onSome m0 fun a2 =>
 LdS w2 (Addr.add a2 1) fun _ s1l _ =>
 R (.returned (.tuple #[.bool ((Nat.cast s1l : Int) == 0), .int .i64 0])) w2
def S_mark_Marker_Step (m0 : Option Addr) (n0 : Int) (w : World) (R : Ending -> World -> Prop) : Prop :=
 onSome m0 fun a0 =>
 LdB w (Addr.add a0 2) fun b0 =>
 cond (!b0)
 (R (.returned (.tuple #[.bool false, .int .i64 16])) w)
 (cond (decide (n0 < 1))
 (R (.returned (.tuple #[.bool false, .int .i64 1])) w)
 (∀ k0 : World -> Prop,
 (∀ (w2 : World), S_mark_Marker_Step_j0 m0 R w2 -> k0 w2) ->
 ∃ (I0 : Int -> World -> Prop) (M0 : Int -> World -> Nat), I0 n0 w /\
 ∀ (n1 : Int) (w0 : World), I0 n1 w0 ->
 S_mark_Marker_Step_l0 m0 k0 n1 w0 I0 M0))
def S_mark_Marker_Step_ann : Ann := (.seq .leaf (.seq .leaf (.seq (.jblock [0] [] (.loop [0] [(1, (.int .i64))] .leaf) .leaf) .leaf)))
theorem S_mark_Marker_Step_ok (m0 : Option Addr) (n0 : Int) (w : World) (R : Ending -> World -> Prop) (h : S_mark_Marker_Step m0 n0 w R) : Calls Tryz.prog 71 #[.pointer m0, .int .i64 n0] w R :=
 calls_of_X (c := bodyOf Tryz.f71) (an := S_mark_Marker_Step_ann) wide_ok Tryz.func71 (by kernel_rfl) (by kernel_rfl) (cast (by kernel_rfl) h)
def S_slide_Collector_slide_j0 (c0 : Option Addr) (R : Ending -> World -> Prop) (r20 : Int) (r21 : Int) (w27 : World) : Prop :=
 cond (r20 != r21)
 (onSome c0 fun a12 =>
 LdI .i64 w27 (Addr.add a12 4) fun n3 =>
 onSome c0 fun a13 =>
 StC w27 (Addr.add a13 4) (.int .i64 (IntKind.wrap .i64 (n3 + 1))) fun w28 =>
 R (.returned (.bool false)) w28)
 (R (.returned (.bool false)) w27)
def S_slide_Collector_slide (c0 : Option Addr) (w : World) (R : Ending -> World -> Prop) : Prop :=
 onSome c0 fun a0 =>
 LdP w a0 fun p0 =>
 Calls Tryz.prog 22 #[.pointer p0] w fun e0 w0 =>
 ∃ (r0 : Option Addr), e0 = .returned (.pointer r0) /\
 Calls Tryz.prog 117 #[.pointer r0] w0 fun e1 w1 =>
 ∃ (r1 : Int), ∃ (r2 : Int), ∃ (r3 : Bool), e1 = .returned (.tuple #[.int .i64 r1, .int .i64 r2, .bool r3]) /\
 Calls Tryz.prog 77 #[.pointer r0, .int .i64 r2] w1 fun e2 w2 =>
 ∃ (r4 : Int), ∃ (r5 : Int), ∃ (r6 : Int), ∃ (r7 : Bool), ∃ (r8 : Int), ∃ (r9 : Int), e2 = .returned (.tuple #[.agg #[.int .i64 r4, .int .i64 r5, .int .i64 r6, .bool r7, .int .i64 r8], .int .i64 r9]) /\
 NewC (.cells #[.int .i64 0, .int .i64 0, .int .i64 0, .bool false, .int .i64 0] 115 (0, 0)) w2 fun b0 w3 =>
 StC w3 (⟨b0, 0, none⟩) (.int .i64 r4) fun w4 =>
 StC w4 (Addr.add (⟨b0, 0, none⟩) 1) (.int .i64 r5) fun w5 =>
 StC w5 (Addr.add (⟨b0, 0, none⟩) 2) (.int .i64 r6) fun w6 =>
 StC w6 (Addr.add (⟨b0, 0, none⟩) 3) (.bool r7) fun w7 =>
 StC w7 (Addr.add (⟨b0, 0, none⟩) 4) (.int .i64 r8) fun w8 =>
 Calls Tryz.prog 28 #[.pointer r0] w8 fun e3 w9 =>
 ∃ (r10 : Int), e3 = .returned (.int .i64 r10) /\
 cond (r2 == r10)
 (Calls Tryz.prog 118 #[.pointer r0] w9 fun e4 w10 =>
 ∃ (r11 : Int), e4 = .returned (.int .i64 r11) /\
 onSome c0 fun a1 =>
 LdP w10 a1 fun p1 =>
 Calls Tryz.prog 70 #[.pointer p1, .nilIface] w10 fun e5 w11 =>
 e5 = .returned (.tuple #[]) /\
 onSome c0 fun a2 =>
 StC w11 (Addr.add a2 2) (.int .i64 0) fun w12 =>
 onSome c0 fun a3 =>
 LdI .i64 w12 (Addr.add a3 3) fun n0 =>
 onSome c0 fun a4 =>
 StC w12 (Addr.add a4 3) (.int .i64 (IntKind.wrap .i64 (n0 + 1))) fun w13 =>
 R (.returned (.bool true)) w13)
 (cond (r9 != 0)
 (Calls Tryz.prog 118 #[.pointer r0] w9 fun e6 w14 =>
 ∃ (r12 : Int), e6 = .returned (.int .i64 r12) /\
 onSome c0 fun a5 =>
 LdP w14 a5 fun p2 =>
 Calls Tryz.prog 70 #[.pointer p2, .nilIface] w14 fun e7 w15 =>
 e7 = .returned (.tuple #[]) /\
 onSome c0 fun a6 =>
 StC w15 (Addr.add a6 2) (.int .i64 0) fun w16 =>
 onSome c0 fun a7 =>
 LdI .i64 w16 (Addr.add a7 3) fun n1 =>
 onSome c0 fun a8 =>
 StC w16 (Addr.add a8 3) (.int .i64 (IntKind.wrap .i64 (n1 + 1))) fun w17 =>
 R (.returned (.bool true)) w17)
 (∃ C0 : World -> Prop, C0 (World.drew w9) /\
 onSome c0 fun a9 =>
 LdPQ C0 a9 fun p3 =>
 LdIQ .i64 C0 (Addr.add (⟨b0, 0, none⟩) 4) fun n2 =>
 Calls Tryz.prog 24 #[.pointer p3] (World.drew w9) fun e8 w18 =>
 ∃ (r13 : Option Addr), e8 = .returned (.pointer r13) /\
 C0 w18 /\
 Calls Tryz.prog 78 #[.pointer r13, .int .i64 n2] w18 fun e9 w19 =>
 ∃ (r14 : Int), ∃ (r15 : Int), e9 = .returned (.tuple #[.int .u64 r14, .int .i64 r15]) /\
 C0 w19 /\
 LdB w19 (Addr.add (⟨b0, 0, none⟩) 3) fun b1 =>
 cond (!b1)
 (Calls Tryz.prog 119 #[.pointer r0] w19 fun e10 w20 =>
 ∃ (r16 : Int), ∃ (r17 : Int), e10 = .returned (.tuple #[.int .i64 r16, .int .i64 r17]) /\
 cond (r15 == 0)
 (onSome c0 fun a10 =>
 LdP w20 a10 fun p4 =>
 Calls Tryz.prog 24 #[.pointer p4] w20 fun e11 w21 =>
 ∃ (r18 : Option Addr), e11 = .returned (.pointer r18) /\
 Calls Tryz.prog 120 #[.pointer r18, .int .u64 r14] w21 fun e12 w22 =>
 ∃ (r19 : Int), e12 = .returned (.int .i64 r19) /\
 R (.returned (.bool false)) w22)
 (R (.returned (.bool false)) w20))
 (Calls Tryz.prog 121 #[.pointer r0] w19 fun e13 w23 =>
 ∃ (r20 : Int), ∃ (r21 : Int), ∃ (r22 : Int), e13 = .returned (.tuple #[.int .i64 r20, .int .i64 r21, .int .i64 r22]) /\
 Calls Tryz.prog 113 #[.pointer r0, .int .i64 r21, .bool false] w23 fun e14 w24 =>
 ∃ (r23 : Int), e14 = .returned (.int .i64 r23) /\
 ∀ k0 : World -> Prop,
 (∀ (w27 : World), S_slide_Collector_slide_j0 c0 R r20 r21 w27 -> k0 w27) ->
 cond (r15 == 0)
 (onSome c0 fun a11 =>
 LdP w24 a11 fun p5 =>
 Calls Tryz.prog 24 #[.pointer p5] w24 fun e15 w25 =>
 ∃ (r24 : Option Addr), e15 = .returned (.pointer r24) /\
 Calls Tryz.prog 122 #[.pointer r24, .int .u64 r14, .int .i64 r21] w25 fun e16 w26 =>
 ∃ (r25 : Int), e16 = .returned (.int .i64 r25) /\
 k0 w26)
 (k0 w24))))
def S_slide_Collector_slide_ann : Ann := (.seq .leaf (.seq .leaf (.seq .leaf (.seq .leaf (.seq .leaf (.seq .anyl (.seq .leaf (.seq .leaf (.seq .leaf (.join [0, 11, 12] [] .leaf .leaf))))))))))
theorem S_slide_Collector_slide_ok (c0 : Option Addr) (w : World) (R : Ending -> World -> Prop) (h : S_slide_Collector_slide c0 w R) : Calls Tryz.prog 72 #[.pointer c0] w R :=
 calls_of_X (c := bodyOf Tryz.f72) (an := S_slide_Collector_slide_ann) wide_ok Tryz.func72 (by kernel_rfl) (by kernel_rfl) (cast (by kernel_rfl) h)
def S_tree_tree_take_1 (l0p : Option Addr) (l0l : Nat) (l0c : Nat) (fv0 : Addr) (fv1 : Addr) (w : World) (R : Ending -> World -> Prop) : Prop :=
 LdP w fv0 fun p0 =>
 LdI .u64 w (Addr.add fv0 1) fun n0 =>
 LdStr w fv1 fun t0 =>
 Calls Tryz.prog 55 #[.agg #[.pointer p0, .int .u64 n0], .slice l0p l0l l0c, .string t0] w fun e0 w0 =>
 ∃ (r0 : Int), e0 = .returned (.int .i64 r0) /\
 R (.returned (.int .i64 r0)) w0
def S_tree_tree_take_1_ann : Ann := .leaf
theorem S_tree_tree_take_1_ok (l0p : Option Addr) (l0l : Nat) (l0c : Nat) (fv0 : Addr) (fv1 : Addr) (w : World) (R : Ending -> World -> Prop) (h : S_tree_tree_take_1 l0p l0l l0c fv0 fv1 w R) : Calls Tryz.prog 91 #[.slice l0p l0l l0c, .pointer (some fv0), .pointer (some fv1)] w R :=
 calls_of_X (c := bodyOf Tryz.f91) (an := S_tree_tree_take_1_ann) wide_ok Tryz.func91 (by kernel_rfl) (by kernel_rfl) (cast (by kernel_rfl) h)
def S_tree_tree_set (t0 : Option Addr) (t1 : Int) (top0 : Int) (count0 : Int) (depth0 : Int) (w : World) (R : Ending -> World -> Prop) : Prop :=
 NewC (.cells #[.pointer t0, .int .u64 t1] 73 (0, 0)) w fun b0 w0 =>
 LdP w0 (⟨b0, 0, none⟩) fun p0 =>
 LdI .u64 w0 (Addr.add (⟨b0, 0, none⟩) 1) fun n0 =>
 Calls Tryz.prog 38 #[.pointer p0, .int .u64 n0, .int .i64 0, .int .u64 top0] w0 fun e0 w1 =>
 ∃ (r0 : Int), e0 = .returned (.int .i64 r0) /\
 LdP w1 (⟨b0, 0, none⟩) fun p1 =>
 LdI .u64 w1 (Addr.add (⟨b0, 0, none⟩) 1) fun n1 =>
 Calls Tryz.prog 39 #[.pointer p1, .int .u64 n1, .int .i64 0, .int .u64 (IntKind.wrap .u64 count0)] w1 fun e1 w2 =>
 ∃ (r1 : Int), e1 = .returned (.int .i64 r1) /\
 LdP w2 (⟨b0, 0, none⟩) fun p2 =>
 LdI .u64 w2 (Addr.add (⟨b0, 0, none⟩) 1) fun n2 =>
 Calls Tryz.prog 39 #[.pointer p2, .int .u64 n2, .int .i64 1, .int .u64 (IntKind.wrap .u64 depth0)] w2 fun e2 w3 =>
 ∃ (r2 : Int), e2 = .returned (.int .i64 r2) /\
 R (.returned (.tuple #[])) w3
def S_tree_tree_set_ann : Ann := .leaf
theorem S_tree_tree_set_ok (t0 : Option Addr) (t1 : Int) (top0 : Int) (count0 : Int) (depth0 : Int) (w : World) (R : Ending -> World -> Prop) (h : S_tree_tree_set t0 t1 top0 count0 depth0 w R) : Calls Tryz.prog 92 #[.agg #[.pointer t0, .int .u64 t1], .int .u64 top0, .int .i64 count0, .int .i64 depth0] w R :=
 calls_of_X (c := bodyOf Tryz.f92) (an := S_tree_tree_set_ann) wide_ok Tryz.func92 (by kernel_rfl) (by kernel_rfl) (cast (by kernel_rfl) h)
def S_tree_tree_top (t0 : Option Addr) (t1 : Int) (w : World) (R : Ending -> World -> Prop) : Prop :=
 NewC (.cells #[.pointer t0, .int .u64 t1] 73 (0, 0)) w fun b0 w0 =>
 LdP w0 (⟨b0, 0, none⟩) fun p0 =>
 LdI .u64 w0 (Addr.add (⟨b0, 0, none⟩) 1) fun n0 =>
 LdI .u64 w0 (Addr.add (⟨b0, 0, none⟩) 1) fun n1 =>
 Calls Tryz.prog 135 #[.agg #[.pointer p0, .int .u64 n0], .int .u64 n1, .int .i64 0] w0 fun e0 w1 =>
 ∃ (r0 : Int), e0 = .returned (.int .u64 r0) /\
 R (.returned (.int .u64 r0)) w1
def S_tree_tree_top_ann : Ann := .leaf
theorem S_tree_tree_top_ok (t0 : Option Addr) (t1 : Int) (w : World) (R : Ending -> World -> Prop) (h : S_tree_tree_top t0 t1 w R) : Calls Tryz.prog 93 #[.agg #[.pointer t0, .int .u64 t1]] w R :=
 calls_of_X (c := bodyOf Tryz.f93) (an := S_tree_tree_top_ann) wide_ok Tryz.func93 (by kernel_rfl) (by kernel_rfl) (cast (by kernel_rfl) h)
def S_tree_tree_depth (t0 : Option Addr) (t1 : Int) (w : World) (R : Ending -> World -> Prop) : Prop :=
 NewC (.cells #[.pointer t0, .int .u64 t1] 73 (0, 0)) w fun b0 w0 =>
 LdP w0 (⟨b0, 0, none⟩) fun p0 =>
 LdI .u64 w0 (Addr.add (⟨b0, 0, none⟩) 1) fun n0 =>
 LdI .u64 w0 (Addr.add (⟨b0, 0, none⟩) 1) fun n1 =>
 Calls Tryz.prog 104 #[.agg #[.pointer p0, .int .u64 n0], .int .u64 n1, .int .i64 1] w0 fun e0 w1 =>
 ∃ (r0 : Int), e0 = .returned (.int .i64 r0) /\
 Calls Tryz.prog 47 #[.bool (decide (r0 <= 12)), .int .i64 4] w1 fun e1 w2 =>
 e1 = .returned (.tuple #[]) /\
 R (.returned (.int .i64 r0)) w2
def S_tree_tree_depth_ann : Ann := .leaf
theorem S_tree_tree_depth_ok (t0 : Option Addr) (t1 : Int) (w : World) (R : Ending -> World -> Prop) (h : S_tree_tree_depth t0 t1 w R) : Calls Tryz.prog 94 #[.agg #[.pointer t0, .int .u64 t1]] w R :=
 calls_of_X (c := bodyOf Tryz.f94) (an := S_tree_tree_depth_ann) wide_ok Tryz.func94 (by kernel_rfl) (by kernel_rfl) (cast (by kernel_rfl) h)
def S_tree_tree_shrunk_j0 (R : Ending -> World -> Prop) (b0 : Nat) (I0 : Nat -> Option Addr -> Nat -> Nat -> Int -> Option Addr -> Nat -> Nat -> Bool -> Addr -> World -> Prop) (b1 : Nat) (s1p : Option Addr) (s1l : Nat) (s1c : Nat) (n6 : Int) (all0p : Option Addr) (all0l : Nat) (all0c : Nat) (w15 : World) : Prop :=
 cond (decide ((Nat.cast all0l : Int) <= 12))
 (LdP (World.drew w15) (⟨b0, 0, none⟩) fun p6 =>
 LdI .u64 (World.drew w15) (Addr.add (⟨b0, 0, none⟩) 1) fun n13 =>
 LdS (World.drew w15) (Addr.add (⟨b1, 0, none⟩) 1) fun s7p s7l _ =>
 IdxC s7p s7l (iMax 0 (IntKind.wrap .i64 (n6 - 1))) 2 fun a4 =>
 LdI .u64 (World.drew w15) (Addr.add a4 1) fun n14 =>
 Calls Tryz.prog 101 #[.agg #[.pointer p6, .int .u64 n13], .int .u64 n14, .slice all0p all0l all0c] (World.drew w15) fun e7 w16 =>
 e7 = .returned (.tuple #[]) /\
 LdS (World.drew w16) (Addr.add (⟨b1, 0, none⟩) 1) fun s8p s8l _ =>
 IdxC all0p all0l 0 2 fun a5 =>
 LdI .u64 (World.drew w16) a5 fun n15 =>
 IdxC s8p s8l (iMax 0 (IntKind.wrap .i64 (n6 - 1))) 2 fun a6 =>
 StC (World.drew w16) a6 (.int .u64 n15) fun w17 =>
 LdS w17 (Addr.add (⟨b1, 0, none⟩) 1) fun s9p s9l s9c =>
 Calls Tryz.prog 138 #[.slice s9p s9l s9c] w17 fun e8 w18 =>
 ∃ (r4p : Option Addr), ∃ (r4l : Nat), ∃ (r4c : Nat), e8 = .returned (.slice r4p r4l r4c) /\
 Calls Tryz.prog 96 #[.slice r4p r4l r4c, .int .i64 (IntKind.wrap .i64 ((iMax 0 (IntKind.wrap .i64 (n6 - 1))) + 1)), .int .i64 (IntKind.wrap .i64 ((iMax 0 (IntKind.wrap .i64 (n6 - 1))) + 2))] w18 fun e9 w19 =>
 ∃ (r5p : Option Addr), ∃ (r5l : Nat), ∃ (r5c : Nat), e9 = .returned (.slice r5p r5l r5c) /\
 LdI .u64 w19 (⟨b1, 0, none⟩) fun n16 =>
 I0 0 s1p s1l s1c n16 r5p r5l r5c true (⟨b1, 0, none⟩) w19)
 (LdP (World.drew w15) (⟨b0, 0, none⟩) fun p7 =>
 LdI .u64 (World.drew w15) (Addr.add (⟨b0, 0, none⟩) 1) fun n17 =>
 LdS (World.drew w15) (Addr.add (⟨b1, 0, none⟩) 1) fun s10p s10l _ =>
 IdxC s10p s10l (iMax 0 (IntKind.wrap .i64 (n6 - 1))) 2 fun a7 =>
 LdI .u64 (World.drew w15) (Addr.add a7 1) fun n18 =>
 DivC 2
 (SlC all0p all0c 0 (IntKind.wrap .i64 (Int.tdiv (Nat.cast all0l : Int) 2)) (Nat.cast all0c : Int) 2 fun s11p s11l s11c =>
 Calls Tryz.prog 101 #[.agg #[.pointer p7, .int .u64 n17], .int .u64 n18, .slice s11p s11l s11c] (World.drew w15) fun e10 w20 =>
 e10 = .returned (.tuple #[]) /\
 LdP (World.drew w20) (⟨b0, 0, none⟩) fun p8 =>
 LdI .u64 (World.drew w20) (Addr.add (⟨b0, 0, none⟩) 1) fun n19 =>
 LdS (World.drew w20) (Addr.add (⟨b1, 0, none⟩) 1) fun s12p s12l _ =>
 IdxC s12p s12l (IntKind.wrap .i64 ((iMax 0 (IntKind.wrap .i64 (n6 - 1))) + 1)) 2 fun a8 =>
 LdI .u64 (World.drew w20) (Addr.add a8 1) fun n20 =>
 DivC 2
 (SlC all0p all0c (IntKind.wrap .i64 (Int.tdiv (Nat.cast all0l : Int) 2)) (Nat.cast all0l : Int) (Nat.cast all0c : Int) 2 fun s13p s13l s13c =>
 Calls Tryz.prog 101 #[.agg #[.pointer p8, .int .u64 n19], .int .u64 n20, .slice s13p s13l s13c] (World.drew w20) fun e11 w21 =>
 e11 = .returned (.tuple #[]) /\
 ∃ C1 : World -> Prop, C1 (World.drew w21) /\
 LdSQ C1 (Addr.add (⟨b1, 0, none⟩) 1) fun s14p s14l _ =>
 LdSQ C1 (Addr.add (⟨b1, 0, none⟩) 1) fun s15p s15l _ =>
 IdxC all0p all0l 0 2 fun a9 =>
 LdIQ .u64 C1 a9 fun n21 =>
 DivC 2
 (IdxC all0p all0l (IntKind.wrap .i64 (Int.tdiv (Nat.cast all0l : Int) 2)) 2 fun a10 =>
 LdIQ .u64 C1 a10 fun n22 =>
 IdxC s14p s14l (iMax 0 (IntKind.wrap .i64 (n6 - 1))) 2 fun a11 =>
 StC (World.drew w21) a11 (.int .u64 n21) fun w22 =>
 C1 w22 /\
 IdxC s15p s15l (IntKind.wrap .i64 ((iMax 0 (IntKind.wrap .i64 (n6 - 1))) + 1)) 2 fun a12 =>
 StC w22 a12 (.int .u64 n22) fun w23 =>
 LdP w23 (⟨b0, 0, none⟩) fun p9 =>
 LdI .u64 w23 (Addr.add (⟨b0, 0, none⟩) 1) fun n23 =>
 LdI .u64 w23 (⟨b1, 0, none⟩) fun n24 =>
 LdS w23 (Addr.add (⟨b1, 0, none⟩) 1) fun s16p s16l s16c =>
 Calls Tryz.prog 101 #[.agg #[.pointer p9, .int .u64 n23], .int .u64 n24, .slice s16p s16l s16c] w23 fun e12 w24 =>
 e12 = .returned (.tuple #[]) /\
 LdP (World.drew w24) (⟨b0, 0, none⟩) fun p10 =>
 LdI .u64 (World.drew w24) (Addr.add (⟨b0, 0, none⟩) 1) fun n25 =>
 LdS (World.drew w24) (Addr.add (⟨b1, 0, none⟩) 1) fun s17p s17l _ =>
 IdxC s17p s17l 0 2 fun a13 =>
 LdI .u64 (World.drew w24) a13 fun n26 =>
 Calls Tryz.prog 137 #[.agg #[.pointer p10, .int .u64 n25], .slice s1p s1l s1c, .int .u64 n26] (World.drew w24) fun e13 w25 =>
 e13 = .returned (.tuple #[]) /\
 R (.returned (.tuple #[])) w25))))
def S_tree_tree_shrunk_j1 (R : Ending -> World -> Prop) (b0 : Nat) (I0 : Nat -> Option Addr -> Nat -> Nat -> Int -> Option Addr -> Nat -> Nat -> Bool -> Addr -> World -> Prop) (M0 : Option Addr -> Nat -> Nat -> Int -> Option Addr -> Nat -> Nat -> Bool -> Addr -> World -> Nat) (way1p : Option Addr) (way1l : Nat) (way1c : Nat) (x1 : Int) (l1p : Option Addr) (l1l : Nat) (l1c : Nat) (inner1 : Bool) (up0 : Addr) (w26 : World) (s19p : Option Addr) (s19l : Nat) (s19c : Nat) (n33 : Int) (all1p : Option Addr) (all1l : Nat) (all1c : Nat) (w40 : World) : Prop :=
 cond (decide ((Nat.cast all1l : Int) <= 12))
 (LdP (World.drew w40) (⟨b0, 0, none⟩) fun p17 =>
 LdI .u64 (World.drew w40) (Addr.add (⟨b0, 0, none⟩) 1) fun n40 =>
 LdS (World.drew w40) (Addr.add up0 1) fun s25p s25l _ =>
 IdxC s25p s25l (iMax 0 (IntKind.wrap .i64 (n33 - 1))) 2 fun a18 =>
 LdI .u64 (World.drew w40) (Addr.add a18 1) fun n41 =>
 Calls Tryz.prog 101 #[.agg #[.pointer p17, .int .u64 n40], .int .u64 n41, .slice all1p all1l all1c] (World.drew w40) fun e21 w41 =>
 e21 = .returned (.tuple #[]) /\
 LdS (World.drew w41) (Addr.add up0 1) fun s26p s26l _ =>
 IdxC all1p all1l 0 2 fun a19 =>
 LdI .u64 (World.drew w41) a19 fun n42 =>
 IdxC s26p s26l (iMax 0 (IntKind.wrap .i64 (n33 - 1))) 2 fun a20 =>
 StC (World.drew w41) a20 (.int .u64 n42) fun w42 =>
 LdS w42 (Addr.add up0 1) fun s27p s27l s27c =>
 Calls Tryz.prog 138 #[.slice s27p s27l s27c] w42 fun e22 w43 =>
 ∃ (r10p : Option Addr), ∃ (r10l : Nat), ∃ (r10c : Nat), e22 = .returned (.slice r10p r10l r10c) /\
 Calls Tryz.prog 96 #[.slice r10p r10l r10c, .int .i64 (IntKind.wrap .i64 ((iMax 0 (IntKind.wrap .i64 (n33 - 1))) + 1)), .int .i64 (IntKind.wrap .i64 ((iMax 0 (IntKind.wrap .i64 (n33 - 1))) + 2))] w43 fun e23 w44 =>
 ∃ (r11p : Option Addr), ∃ (r11l : Nat), ∃ (r11c : Nat), e23 = .returned (.slice r11p r11l r11c) /\
 LdI .u64 w44 up0 fun n43 =>
 I0 0 s19p s19l s19c n43 r11p r11l r11c true up0 w44 /\ M0 s19p s19l s19c n43 r11p r11l r11c true up0 w44 < M0 way1p way1l way1c x1 l1p l1l l1c inner1 up0 w26)
 (LdP (World.drew w40) (⟨b0, 0, none⟩) fun p18 =>
 LdI .u64 (World.drew w40) (Addr.add (⟨b0, 0, none⟩) 1) fun n44 =>
 LdS (World.drew w40) (Addr.add up0 1) fun s28p s28l _ =>
 IdxC s28p s28l (iMax 0 (IntKind.wrap .i64 (n33 - 1))) 2 fun a21 =>
 LdI .u64 (World.drew w40) (Addr.add a21 1) fun n45 =>
 DivC 2
 (SlC all1p all1c 0 (IntKind.wrap .i64 (Int.tdiv (Nat.cast all1l : Int) 2)) (Nat.cast all1c : Int) 2 fun s29p s29l s29c =>
 Calls Tryz.prog 101 #[.agg #[.pointer p18, .int .u64 n44], .int .u64 n45, .slice s29p s29l s29c] (World.drew w40) fun e24 w45 =>
 e24 = .returned (.tuple #[]) /\
 LdP (World.drew w45) (⟨b0, 0, none⟩) fun p19 =>
 LdI .u64 (World.drew w45) (Addr.add (⟨b0, 0, none⟩) 1) fun n46 =>
 LdS (World.drew w45) (Addr.add up0 1) fun s30p s30l _ =>
 IdxC s30p s30l (IntKind.wrap .i64 ((iMax 0 (IntKind.wrap .i64 (n33 - 1))) + 1)) 2 fun a22 =>
 LdI .u64 (World.drew w45) (Addr.add a22 1) fun n47 =>
 DivC 2
 (SlC all1p all1c (IntKind.wrap .i64 (Int.tdiv (Nat.cast all1l : Int) 2)) (Nat.cast all1l : Int) (Nat.cast all1c : Int) 2 fun s31p s31l s31c =>
 Calls Tryz.prog 101 #[.agg #[.pointer p19, .int .u64 n46], .int .u64 n47, .slice s31p s31l s31c] (World.drew w45) fun e25 w46 =>
 e25 = .returned (.tuple #[]) /\
 ∃ C3 : World -> Prop, C3 (World.drew w46) /\
 LdSQ C3 (Addr.add up0 1) fun s32p s32l _ =>
 LdSQ C3 (Addr.add up0 1) fun s33p s33l _ =>
 IdxC all1p all1l 0 2 fun a23 =>
 LdIQ .u64 C3 a23 fun n48 =>
 DivC 2
 (IdxC all1p all1l (IntKind.wrap .i64 (Int.tdiv (Nat.cast all1l : Int) 2)) 2 fun a24 =>
 LdIQ .u64 C3 a24 fun n49 =>
 IdxC s32p s32l (iMax 0 (IntKind.wrap .i64 (n33 - 1))) 2 fun a25 =>
 StC (World.drew w46) a25 (.int .u64 n48) fun w47 =>
 C3 w47 /\
 IdxC s33p s33l (IntKind.wrap .i64 ((iMax 0 (IntKind.wrap .i64 (n33 - 1))) + 1)) 2 fun a26 =>
 StC w47 a26 (.int .u64 n49) fun w48 =>
 LdP w48 (⟨b0, 0, none⟩) fun p20 =>
 LdI .u64 w48 (Addr.add (⟨b0, 0, none⟩) 1) fun n50 =>
 LdI .u64 w48 up0 fun n51 =>
 LdS w48 (Addr.add up0 1) fun s34p s34l s34c =>
 Calls Tryz.prog 101 #[.agg #[.pointer p20, .int .u64 n50], .int .u64 n51, .slice s34p s34l s34c] w48 fun e26 w49 =>
 e26 = .returned (.tuple #[]) /\
 LdP (World.drew w49) (⟨b0, 0, none⟩) fun p21 =>
 LdI .u64 (World.drew w49) (Addr.add (⟨b0, 0, none⟩) 1) fun n52 =>
 LdS (World.drew w49) (Addr.add up0 1) fun s35p s35l _ =>
 IdxC s35p s35l 0 2 fun a27 =>
 LdI .u64 (World.drew w49) a27 fun n53 =>
 Calls Tryz.prog 137 #[.agg #[.pointer p21, .int .u64 n52], .slice s19p s19l s19c, .int .u64 n53] (World.drew w49) fun e27 w50 =>
 e27 = .returned (.tuple #[]) /\
 R (.returned (.tuple #[])) w50))))
def S_tree_tree_shrunk_g0 (R : Ending -> World -> Prop) (b0 : Nat) (I0 : Nat -> Option Addr -> Nat -> Nat -> Int -> Option Addr -> Nat -> Nat -> Bool -> Addr -> World -> Prop) (M0 : Option Addr -> Nat -> Nat -> Int -> Option Addr -> Nat -> Nat -> Bool -> Addr -> World -> Nat) (way1p : Option Addr) (way1l : Nat) (way1c : Nat) (x1 : Int) (l1p : Option Addr) (l1l : Nat) (l1c : Nat) (inner1 : Bool) (up0 : Addr) (w26 : World) : Prop :=
 cond ((Nat.cast way1l : Int) == 0)
 (LdP w26 (⟨b0, 0, none⟩) fun p11 =>
 LdI .u64 w26 (Addr.add (⟨b0, 0, none⟩) 1) fun n27 =>
 Calls Tryz.prog 136 #[.agg #[.pointer p11, .int .u64 n27], .int .u64 x1, .slice l1p l1l l1c, .bool inner1] w26 fun e14 w27 =>
 e14 = .returned (.tuple #[]) /\
 R (.returned (.tuple #[])) w27)
 (cond (decide ((Nat.cast l1l : Int) ≥ 6))
 (LdP w26 (⟨b0, 0, none⟩) fun p12 =>
 LdI .u64 w26 (Addr.add (⟨b0, 0, none⟩) 1) fun n28 =>
 Calls Tryz.prog 101 #[.agg #[.pointer p12, .int .u64 n28], .int .u64 x1, .slice l1p l1l l1c] w26 fun e15 w28 =>
 e15 = .returned (.tuple #[]) /\
 LdP (World.drew w28) (⟨b0, 0, none⟩) fun p13 =>
 LdI .u64 (World.drew w28) (Addr.add (⟨b0, 0, none⟩) 1) fun n29 =>
 IdxC l1p l1l 0 2 fun a14 =>
 LdI .u64 (World.drew w28) a14 fun n30 =>
 Calls Tryz.prog 137 #[.agg #[.pointer p13, .int .u64 n29], .slice way1p way1l way1c, .int .u64 n30] (World.drew w28) fun e16 w29 =>
 e16 = .returned (.tuple #[]) /\
 R (.returned (.tuple #[])) w29)
 (IdxC way1p way1l (IntKind.wrap .i64 ((Nat.cast way1l : Int) - 1)) 3 fun a15 =>
 LdI .u64 w26 a15 fun n31 =>
 LdS w26 (Addr.add a15 1) fun s18p s18l s18c =>
 LdI .i64 w26 (Addr.add a15 2) fun n32 =>
 StC w26 up0 (.int .u64 n31) fun w30 =>
 StC w30 (Addr.add up0 1) (.slice s18p s18l s18c) fun w31 =>
 StC w31 (Addr.add up0 2) (.int .i64 n32) fun w32 =>
 SlC way1p way1c 0 (IntKind.wrap .i64 ((Nat.cast way1l : Int) - 1)) (Nat.cast way1c : Int) 3 fun s19p s19l s19c =>
 LdS w32 (Addr.add up0 1) fun _ s20l _ =>
 cond (decide ((Nat.cast s20l : Int) < 2))
 (False)
 (LdI .i64 w32 (Addr.add up0 2) fun n33 =>
 ∀ k1 : Option Addr -> Nat -> Nat -> World -> Prop,
 (∀ (all1p : Option Addr) (all1l : Nat) (all1c : Nat) (w40 : World), S_tree_tree_shrunk_j1 R b0 I0 M0 way1p way1l way1c x1 l1p l1l l1c inner1 up0 w26 s19p s19l s19c n33 all1p all1l all1c w40 -> k1 all1p all1l all1c w40) ->
 LdI .i64 w32 (Addr.add up0 2) fun n34 =>
 cond (decide (n34 > 0))
 (LdP (World.drew w32) (⟨b0, 0, none⟩) fun p14 =>
 LdI .u64 (World.drew w32) (Addr.add (⟨b0, 0, none⟩) 1) fun n35 =>
 LdS (World.drew w32) (Addr.add up0 1) fun s21p s21l _ =>
 IdxC s21p s21l (iMax 0 (IntKind.wrap .i64 (n33 - 1))) 2 fun a16 =>
 LdI .u64 (World.drew w32) (Addr.add a16 1) fun n36 =>
 Calls Tryz.prog 105 #[.agg #[.pointer p14, .int .u64 n35], .int .u64 n36, .bool inner1] (World.drew w32) fun e17 w33 =>
 ∃ (r6p : Option Addr), ∃ (r6l : Nat), ∃ (r6c : Nat), e17 = .returned (.slice r6p r6l r6c) /\
 Calls Tryz.prog 138 #[.slice r6p r6l r6c] w33 fun e18 w34 =>
 ∃ (r7p : Option Addr), ∃ (r7l : Nat), ∃ (r7c : Nat), e18 = .returned (.slice r7p r7l r7c) /\
 RunS Tryz.prog (Builtin.append_ #[86, 86] 86 #[.slice r7p r7l r7c, .slice l1p l1l l1c]) w34 fun s22p s22l s22c w35 =>
 k1 s22p s22l s22c w35)
 (∃ C2 : World -> Prop, C2 (World.drew w32) /\
 ∃ (p15 : Option Addr), ∃ (n37 : Int), (∀ (w36 : World), C2 w36 ->
 LdP w36 (⟨b0, 0, none⟩) fun p16 =>
 LdI .u64 w36 (Addr.add (⟨b0, 0, none⟩) 1) fun n38 =>
 Value.agg #[.pointer p16, .int .u64 n38] = .agg #[.pointer p15, .int .u64 n37]) /\
 LdSQ C2 (Addr.add up0 1) fun s23p s23l _ =>
 IdxC s23p s23l 1 2 fun a17 =>
 LdIQ .u64 C2 (Addr.add a17 1) fun n39 =>
 Calls Tryz.prog 138 #[.slice l1p l1l l1c] (World.drew w32) fun e19 w37 =>
 ∃ (r8p : Option Addr), ∃ (r8l : Nat), ∃ (r8c : Nat), e19 = .returned (.slice r8p r8l r8c) /\
 C2 w37 /\
 Calls Tryz.prog 105 #[.agg #[.pointer p15, .int .u64 n37], .int .u64 n39, .bool inner1] w37 fun e20 w38 =>
 ∃ (r9p : Option Addr), ∃ (r9l : Nat), ∃ (r9c : Nat), e20 = .returned (.slice r9p r9l r9c) /\
 C2 w38 /\
 RunS Tryz.prog (Builtin.append_ #[86, 86] 86 #[.slice r8p r8l r8c, .slice r9p r9l r9c]) w38 fun s24p s24l s24c w39 =>
 C2 w39 /\
 k1 s24p s24l s24c w39))))
def S_tree_tree_shrunk (t0 : Option Addr) (t1 : Int) (way0p : Option Addr) (way0l : Nat) (way0c : Nat) (x0 : Int) (l0p : Option Addr) (l0l : Nat) (l0c : Nat) (inner0 : Bool) (w : World) (R : Ending -> World -> Prop) : Prop :=
 NewC (.cells #[.pointer t0, .int .u64 t1] 73 (0, 0)) w fun b0 w0 =>
 ∃ (I0 : Nat -> Option Addr -> Nat -> Nat -> Int -> Option Addr -> Nat -> Nat -> Bool -> Addr -> World -> Prop) (M0 : Option Addr -> Nat -> Nat -> Int -> Option Addr -> Nat -> Nat -> Bool -> Addr -> World -> Nat),
 (NewC (.cells #[.int .u64 0, .slice none 0 0, .int .i64 0] 152 (0, 0)) w0 fun b1 w1 =>
 cond ((Nat.cast way0l : Int) == 0)
 (LdP w1 (⟨b0, 0, none⟩) fun p0 =>
 LdI .u64 w1 (Addr.add (⟨b0, 0, none⟩) 1) fun n0 =>
 Calls Tryz.prog 136 #[.agg #[.pointer p0, .int .u64 n0], .int .u64 x0, .slice l0p l0l l0c, .bool inner0] w1 fun e0 w2 =>
 e0 = .returned (.tuple #[]) /\
 R (.returned (.tuple #[])) w2)
 (cond (decide ((Nat.cast l0l : Int) ≥ 6))
 (LdP w1 (⟨b0, 0, none⟩) fun p1 =>
 LdI .u64 w1 (Addr.add (⟨b0, 0, none⟩) 1) fun n1 =>
 Calls Tryz.prog 101 #[.agg #[.pointer p1, .int .u64 n1], .int .u64 x0, .slice l0p l0l l0c] w1 fun e1 w3 =>
 e1 = .returned (.tuple #[]) /\
 LdP (World.drew w3) (⟨b0, 0, none⟩) fun p2 =>
 LdI .u64 (World.drew w3) (Addr.add (⟨b0, 0, none⟩) 1) fun n2 =>
 IdxC l0p l0l 0 2 fun a0 =>
 LdI .u64 (World.drew w3) a0 fun n3 =>
 Calls Tryz.prog 137 #[.agg #[.pointer p2, .int .u64 n2], .slice way0p way0l way0c, .int .u64 n3] (World.drew w3) fun e2 w4 =>
 e2 = .returned (.tuple #[]) /\
 R (.returned (.tuple #[])) w4)
 (IdxC way0p way0l (IntKind.wrap .i64 ((Nat.cast way0l : Int) - 1)) 3 fun a1 =>
 LdI .u64 w1 a1 fun n4 =>
 LdS w1 (Addr.add a1 1) fun s0p s0l s0c =>
 LdI .i64 w1 (Addr.add a1 2) fun n5 =>
 StC w1 (⟨b1, 0, none⟩) (.int .u64 n4) fun w5 =>
 StC w5 (Addr.add (⟨b1, 0, none⟩) 1) (.slice s0p s0l s0c) fun w6 =>
 StC w6 (Addr.add (⟨b1, 0, none⟩) 2) (.int .i64 n5) fun w7 =>
 SlC way0p way0c 0 (IntKind.wrap .i64 ((Nat.cast way0l : Int) - 1)) (Nat.cast way0c : Int) 3 fun s1p s1l s1c =>
 LdS w7 (Addr.add (⟨b1, 0, none⟩) 1) fun _ s2l _ =>
 cond (decide ((Nat.cast s2l : Int) < 2))
 (False)
 (LdI .i64 w7 (Addr.add (⟨b1, 0, none⟩) 2) fun n6 =>
 ∀ k0 : Option Addr -> Nat -> Nat -> World -> Prop,
 (∀ (all0p : Option Addr) (all0l : Nat) (all0c : Nat) (w15 : World), S_tree_tree_shrunk_j0 R b0 I0 b1 s1p s1l s1c n6 all0p all0l all0c w15 -> k0 all0p all0l all0c w15) ->
 LdI .i64 w7 (Addr.add (⟨b1, 0, none⟩) 2) fun n7 =>
 cond (decide (n7 > 0))
 (LdP (World.drew w7) (⟨b0, 0, none⟩) fun p3 =>
 LdI .u64 (World.drew w7) (Addr.add (⟨b0, 0, none⟩) 1) fun n8 =>
 LdS (World.drew w7) (Addr.add (⟨b1, 0, none⟩) 1) fun s3p s3l _ =>
 IdxC s3p s3l (iMax 0 (IntKind.wrap .i64 (n6 - 1))) 2 fun a2 =>
 LdI .u64 (World.drew w7) (Addr.add a2 1) fun n9 =>
 Calls Tryz.prog 105 #[.agg #[.pointer p3, .int .u64 n8], .int .u64 n9, .bool inner0] (World.drew w7) fun e3 w8 =>
 ∃ (r0p : Option Addr), ∃ (r0l : Nat), ∃ (r0c : Nat), e3 = .returned (.slice r0p r0l r0c) /\
 Calls Tryz.prog 138 #[.slice r0p r0l r0c] w8 fun e4 w9 =>
 ∃ (r1p : Option Addr), ∃ (r1l : Nat), ∃ (r1c : Nat), e4 = .returned (.slice r1p r1l r1c) /\
 RunS Tryz.prog (Builtin.append_ #[86, 86] 86 #[.slice r1p r1l r1c, .slice l0p l0l l0c]) w9 fun s4p s4l s4c w10 =>
 k0 s4p s4l s4c w10)
 (∃ C0 : World -> Prop, C0 (World.drew w7) /\
 ∃ (p4 : Option Addr), ∃ (n10 : Int), (∀ (w11 : World), C0 w11 ->
 LdP w11 (⟨b0, 0, none⟩) fun p5 =>
 LdI .u64 w11 (Addr.add (⟨b0, 0, none⟩) 1) fun n11 =>
 Value.agg #[.pointer p5, .int .u64 n11] = .agg #[.pointer p4, .int .u64 n10]) /\
 LdSQ C0 (Addr.add (⟨b1, 0, none⟩) 1) fun s5p s5l _ =>
 IdxC s5p s5l 1 2 fun a3 =>
 LdIQ .u64 C0 (Addr.add a3 1) fun n12 =>
 Calls Tryz.prog 138 #[.slice l0p l0l l0c] (World.drew w7) fun e5 w12 =>
 ∃ (r2p : Option Addr), ∃ (r2l : Nat), ∃ (r2c : Nat), e5 = .returned (.slice r2p r2l r2c) /\
 C0 w12 /\
 Calls Tryz.prog 105 #[.agg #[.pointer p4, .int .u64 n10], .int .u64 n12, .bool inner0] w12 fun e6 w13 =>
 ∃ (r3p : Option Addr), ∃ (r3l : Nat), ∃ (r3c : Nat), e6 = .returned (.slice r3p r3l r3c) /\
 C0 w13 /\
 RunS Tryz.prog (Builtin.append_ #[86, 86] 86 #[.slice r2p r2l r2c, .slice r3p r3l r3c]) w13 fun s6p s6l s6c w14 =>
 C0 w14 /\
 k0 s6p s6l s6c w14))))) /\
 (∀ (way1p : Option Addr) (way1l : Nat) (way1c : Nat) (x1 : Int) (l1p : Option Addr) (l1l : Nat) (l1c : Nat) (inner1 : Bool) (up0 : Addr) (w26 : World), I0 0 way1p way1l way1c x1 l1p l1l l1c inner1 up0 w26 ->
 S_tree_tree_shrunk_g0 R b0 I0 M0 way1p way1l way1c x1 l1p l1l l1c inner1 up0 w26) /\ True
def S_tree_tree_shrunk_anp : Ann := .leaf
def S_tree_tree_shrunk_ann : Ann := (.seq .leaf (.seq .leaf (.seq .leaf (.seq .leaf (.seq .leaf (.seq (.seq .leaf (.cond (.seq .leaf (.seq (.draw 6) .leaf)) .leaf)) (.seq .leaf (.seq .leaf (.seq .leaf (.seq .leaf (.join [1, 5, 10, 13] [(12, .slice)] (.seq .leaf (.cond (.seq (.draw 8) .leaf) .anyl)) (.seq (.seq .leaf (.cond (.seq (.draw 8) (.seq (.draw 9) .leaf)) .leaf)) (.seq (.draw 12) (.seq (.draw 13) (.seq .anyl (.seq .leaf (.draw 7)))))))))))))))))
def S_tree_tree_shrunk_anl : List (Nat × Ann) := [(0, (.seq .leaf (.seq .leaf (.seq (.seq .leaf (.cond (.seq .leaf (.seq (.draw 6) .leaf)) .leaf)) (.seq .leaf (.seq .leaf (.seq .leaf (.seq .leaf (.join [1, 5, 10, 13] [(12, .slice)] (.seq .leaf (.cond (.seq (.draw 8) .leaf) .anyl)) (.seq (.seq .leaf (.cond (.seq (.draw 8) (.seq (.draw 9) .leaf)) .leaf)) (.seq (.draw 12) (.seq (.draw 13) (.seq .anyl (.seq .leaf (.draw 7)))))))))))))))]
theorem S_tree_tree_shrunk_ok (t0 : Option Addr) (t1 : Int) (way0p : Option Addr) (way0l : Nat) (way0c : Nat) (x0 : Int) (l0p : Option Addr) (l0l : Nat) (l0c : Nat) (inner0 : Bool) (w : World) (R : Ending -> World -> Prop) (h : S_tree_tree_shrunk t0 t1 way0p way0l way0c x0 l0p l0l l0c inner0 w R) : Calls Tryz.prog 95 #[.agg #[.pointer t0, .int .u64 t1], .slice way0p way0l way0c, .int .u64 x0, .slice l0p l0l l0c, .bool inner0] w R :=
 calls_of_Xs (pre := preOf Tryz.f95) (c := scopeOf Tryz.f95) (anp := S_tree_tree_shrunk_anp) (an := S_tree_tree_shrunk_ann) (ks := [5]) (ts := [(1, .slice), (2, (.int .u64)), (3, .slice), (4, .bool), (10, .addr)]) (ls := S_tree_tree_shrunk_anl) wide_ok Tryz.func95 (by kernel_rfl) (by kernel_rfl) (cast (by kernel_rfl) h)
def S_slices_Delete_tree_pair_tree_pair (s0p : Option Addr) (s0l : Nat) (s0c : Nat) (i0 : Int) (j0 : Int) (w : World) (R : Ending -> World -> Prop) : Prop :=
 SlC s0p s0c i0 j0 (Nat.cast s0l : Int) 2 fun _ _ _ =>
 cond (i0 == j0)
 (R (.returned (.slice s0p s0l s0c)) w)
 (SlC s0p s0c 0 i0 (Nat.cast s0c : Int) 2 fun s2p s2l s2c =>
 SlC s0p s0c j0 (Nat.cast s0l : Int) (Nat.cast s0c : Int) 2 fun s3p s3l s3c =>
 RunS Tryz.prog (Builtin.append_ #[86, 86] 86 #[.slice s2p s2l s2c, .slice s3p s3l s3c]) (World.drew w) fun s4p s4l s4c w0 =>
 SlC s4p s4c (Nat.cast s4l : Int) (Nat.cast s0l : Int) (Nat.cast s4c : Int) 2 fun s5p s5l s5c =>
 RunU Tryz.prog (Builtin.clear_ #[86] 0 #[.slice s5p s5l s5c]) w0 fun w1 =>
 R (.returned (.slice s4p s4l s4c)) w1)
def S_slices_Delete_tree_pair_tree_pair_ann : Ann := (.seq .leaf (.seq .leaf (.seq .leaf (.seq .leaf (.seq (.draw 6) .leaf)))))
theorem S_slices_Delete_tree_pair_tree_pair_ok (s0p : Option Addr) (s0l : Nat) (s0c : Nat) (i0 : Int) (j0 : Int) (w : World) (R : Ending -> World -> Prop) (h : S_slices_Delete_tree_pair_tree_pair s0p s0l s0c i0 j0 w R) : Calls Tryz.prog 96 #[.slice s0p s0l s0c, .int .i64 i0, .int .i64 j0] w R :=
 calls_of_X (c := bodyOf Tryz.f96) (an := S_slices_Delete_tree_pair_tree_pair_ann) wide_ok Tryz.func96 (by kernel_rfl) (by kernel_rfl) (cast (by kernel_rfl) h)
def S_tree_tree_put_1 (l0p : Option Addr) (l0l : Nat) (l0c : Nat) (fv0 : Addr) (fv1 : Addr) (w : World) (R : Ending -> World -> Prop) : Prop :=
 LdP w fv0 fun p0 =>
 LdI .u64 w (Addr.add fv0 1) fun n0 =>
 LdStr w fv1 fun t0 =>
 Calls Tryz.prog 55 #[.agg #[.pointer p0, .int .u64 n0], .slice l0p l0l l0c, .string t0] w fun e0 w0 =>
 ∃ (r0 : Int), e0 = .returned (.int .i64 r0) /\
 R (.returned (.int .i64 r0)) w0
def S_tree_tree_put_1_ann : Ann := .leaf
theorem S_tree_tree_put_1_ok (l0p : Option Addr) (l0l : Nat) (l0c : Nat) (fv0 : Addr) (fv1 : Addr) (w : World) (R : Ending -> World -> Prop) (h : S_tree_tree_put_1 l0p l0l l0c fv0 fv1 w R) : Calls Tryz.prog 98 #[.slice l0p l0l l0c, .pointer (some fv0), .pointer (some fv1)] w R :=
 calls_of_X (c := bodyOf Tryz.f98) (an := S_tree_tree_put_1_ann) wide_ok Tryz.func98 (by kernel_rfl) (by kernel_rfl) (cast (by kernel_rfl) h)
def S_tree_tree_node_j0 (l0p : Option Addr) (l0l : Nat) (l0c : Nat) (R : Ending -> World -> Prop) (b0 : Nat) (tag0 : Int) (w1 : World) : Prop :=
 LdP w1 (⟨b0, 0, none⟩) fun p0 =>
 Calls Tryz.prog 37 #[.pointer p0, .int .i64 tag0, .int .i64 24, .int .i64 25] w1 fun e0 w2 =>
 ∃ (r0 : Int), ∃ (r1 : Int), e0 = .returned (.tuple #[.int .u64 r0, .int .i64 r1]) /\
 Calls Tryz.prog 47 #[.bool (r1 == 0), .int .i64 5] w2 fun e1 w3 =>
 e1 = .returned (.tuple #[]) /\
 LdP w3 (⟨b0, 0, none⟩) fun p1 =>
 LdI .u64 w3 (Addr.add (⟨b0, 0, none⟩) 1) fun n0 =>
 Calls Tryz.prog 101 #[.agg #[.pointer p1, .int .u64 n0], .int .u64 r0, .slice l0p l0l l0c] w3 fun e2 w4 =>
 e2 = .returned (.tuple #[]) /\
 R (.returned (.int .u64 r0)) w4
def S_tree_tree_node (t0 : Option Addr) (t1 : Int) (l0p : Option Addr) (l0l : Nat) (l0c : Nat) (inner0 : Bool) (w : World) (R : Ending -> World -> Prop) : Prop :=
 NewC (.cells #[.pointer t0, .int .u64 t1] 73 (0, 0)) w fun b0 w0 =>
 ∀ k0 : Int -> World -> Prop,
 (∀ (tag0 : Int) (w1 : World), S_tree_tree_node_j0 l0p l0l l0c R b0 tag0 w1 -> k0 tag0 w1) ->
 cond inner0
 (k0 22 w0)
 (k0 21 w0)
def S_tree_tree_node_ann : Ann := (.seq .leaf (.seq .leaf (.join [1, 3] [(7, (.int .i64))] .leaf .leaf)))
theorem S_tree_tree_node_ok (t0 : Option Addr) (t1 : Int) (l0p : Option Addr) (l0l : Nat) (l0c : Nat) (inner0 : Bool) (w : World) (R : Ending -> World -> Prop) (h : S_tree_tree_node t0 t1 l0p l0l l0c inner0 w R) : Calls Tryz.prog 99 #[.agg #[.pointer t0, .int .u64 t1], .slice l0p l0l l0c, .bool inner0] w R :=
 calls_of_X (c := bodyOf Tryz.f99) (an := S_tree_tree_node_ann) wide_ok Tryz.func99 (by kernel_rfl) (by kernel_rfl) (cast (by kernel_rfl) h)
def S_tree_tree_newKey_l0 (R : Ending -> World -> Prop) (b0 : Nat) (r0p : Option Addr) (r0l : Nat) (r1 : Int) (n0 : Int) (w4 : World) (I0 : Int -> World -> Prop) (M0 : Int -> World -> Nat) : Prop :=
 cond (decide (n0 < (Nat.cast r0l : Int)))
 (IdxC r0p r0l n0 1 fun a0 =>
 LdI .u64 w4 a0 fun n1 =>
 LdP w4 (⟨b0, 0, none⟩) fun p1 =>
 Calls Tryz.prog 39 #[.pointer p1, .int .u64 r1, .int .i64 n0, .int .u64 n1] w4 fun e3 w5 =>
 ∃ (r3 : Int), e3 = .returned (.int .i64 r3) /\
 I0 (IntKind.wrap .i64 (n0 + 1)) w5 /\ M0 (IntKind.wrap .i64 (n0 + 1)) w5 < M0 n0 w4)
 (R (.returned (.int .u64 r1)) w4)
def S_tree_tree_newKey (t0 : Option Addr) (t1 : Int) (s0 : ByteArray) (w : World) (R : Ending -> World -> Prop) : Prop :=
 NewC (.cells #[.pointer t0, .int .u64 t1] 73 (0, 0)) w fun b0 w0 =>
 Calls Tryz.prog 139 #[.string s0] w0 fun e0 w1 =>
 ∃ (r0p : Option Addr), ∃ (r0l : Nat), ∃ (r0c : Nat), e0 = .returned (.slice r0p r0l r0c) /\
 LdP w1 (⟨b0, 0, none⟩) fun p0 =>
 Calls Tryz.prog 37 #[.pointer p0, .int .i64 23, .int .i64 0, .int .i64 (Nat.cast r0l : Int)] w1 fun e1 w2 =>
 ∃ (r1 : Int), ∃ (r2 : Int), e1 = .returned (.tuple #[.int .u64 r1, .int .i64 r2]) /\
 Calls Tryz.prog 47 #[.bool (r2 == 0), .int .i64 5] w2 fun e2 w3 =>
 e2 = .returned (.tuple #[]) /\
 ∃ (I0 : Int -> World -> Prop) (M0 : Int -> World -> Nat), I0 0 w3 /\
 ∀ (n0 : Int) (w4 : World), I0 n0 w4 ->
 S_tree_tree_newKey_l0 R b0 r0p r0l r1 n0 w4 I0 M0
def S_tree_tree_newKey_ann : Ann := (.seq .leaf (.seq .leaf (.seq .leaf (.seq .leaf (.seq (.seq .leaf (.block (.loop [2, 6, 23, 24] [(25, (.int .i64))] .leaf))) .leaf)))))
theorem S_tree_tree_newKey_ok (t0 : Option Addr) (t1 : Int) (s0 : ByteArray) (w : World) (R : Ending -> World -> Prop) (h : S_tree_tree_newKey t0 t1 s0 w R) : Calls Tryz.prog 100 #[.agg #[.pointer t0, .int .u64 t1], .string s0] w R :=
 calls_of_X (c := bodyOf Tryz.f100) (an := S_tree_tree_newKey_ann) wide_ok Tryz.func100 (by kernel_rfl) (by kernel_rfl) (cast (by kernel_rfl) h)
def S_tree_tree_write_j0 (n5 : Int) (w8 : World) (I1 : Int -> World -> Prop) (M1 : Int -> World -> Nat) (w11 : World) : Prop :=
 I1 (IntKind.wrap .i64 (n5 + 1)) w11 /\ M1 (IntKind.wrap .i64 (n5 + 1)) w11 < M1 n5 w8
def S_tree_tree_write_l0 (x0 : Int) (b0 : Nat) (n0 : Int) (w1 : World) (I0 : Int -> World -> Prop) (M0 : Int -> World -> Nat) (n3 : Int) (n4 : Int) (n5 : Int) (w8 : World) (I1 : Int -> World -> Prop) (M1 : Int -> World -> Nat) : Prop :=
 cond (decide (n5 < 2))
 (∀ k1 : World -> Prop,
 (∀ (w11 : World), S_tree_tree_write_j0 n5 w8 I1 M1 w11 -> k1 w11) ->
 IdxI .u64 #[.int .u64 n3, .int .u64 n4] 2 n5 fun n6 =>
 LdP w8 (⟨b0, 0, none⟩) fun p0 =>
 Calls Tryz.prog 83 #[.pointer p0, .int .u64 x0, .int .i64 (IntKind.wrap .i64 ((IntKind.wrap .i64 (2 * n0)) + n5))] w8 fun e0 w9 =>
 ∃ (r0 : Int), ∃ (r1 : Int), e0 = .returned (.tuple #[.int .u64 r0, .int .i64 r1]) /\
 cond (r0 != n6)
 (LdP w9 (⟨b0, 0, none⟩) fun p1 =>
 Calls Tryz.prog 38 #[.pointer p1, .int .u64 x0, .int .i64 (IntKind.wrap .i64 ((IntKind.wrap .i64 (2 * n0)) + n5)), .int .u64 n6] w9 fun e1 w10 =>
 ∃ (r2 : Int), e1 = .returned (.int .i64 r2) /\
 k1 w10)
 (k1 w9))
 (I0 (IntKind.wrap .i64 (n0 + 1)) w8 /\ M0 (IntKind.wrap .i64 (n0 + 1)) w8 < M0 n0 w1)
def S_tree_tree_write_j1 (x0 : Int) (b0 : Nat) (n0 : Int) (w1 : World) (I0 : Int -> World -> Prop) (M0 : Int -> World -> Nat) (b1 : Nat) (w7 : World) : Prop :=
 LdI .u64 w7 (⟨b1, 0, none⟩) fun n3 =>
 LdI .u64 w7 (Addr.add (⟨b1, 0, none⟩) 1) fun n4 =>
 ∃ (I1 : Int -> World -> Prop) (M1 : Int -> World -> Nat), I1 0 w7 /\
 ∀ (n5 : Int) (w8 : World), I1 n5 w8 ->
 S_tree_tree_write_l0 x0 b0 n0 w1 I0 M0 n3 n4 n5 w8 I1 M1
def S_tree_tree_write_l1 (x0 : Int) (l0p : Option Addr) (l0l : Nat) (R : Ending -> World -> Prop) (b0 : Nat) (n0 : Int) (w1 : World) (I0 : Int -> World -> Prop) (M0 : Int -> World -> Nat) : Prop :=
 cond (decide (n0 < 12))
 (NewC (.cells #[.int .u64 0, .int .u64 0] 96 (0, 0)) w1 fun b1 w2 =>
 StC w2 (⟨b1, 0, none⟩) (.int .u64 0) fun w3 =>
 StC w3 (Addr.add (⟨b1, 0, none⟩) 1) (.int .u64 0) fun w4 =>
 ∀ k0 : World -> Prop,
 (∀ (w7 : World), S_tree_tree_write_j1 x0 b0 n0 w1 I0 M0 b1 w7 -> k0 w7) ->
 cond (decide (n0 < (Nat.cast l0l : Int)))
 (IdxC l0p l0l n0 2 fun a0 =>
 LdI .u64 w4 a0 fun n1 =>
 LdI .u64 w4 (Addr.add a0 1) fun n2 =>
 StC w4 (⟨b1, 0, none⟩) (.int .u64 n1) fun w5 =>
 StC w5 (Addr.add (⟨b1, 0, none⟩) 1) (.int .u64 n2) fun w6 =>
 k0 w6)
 (k0 w4))
 (LdP w1 (⟨b0, 0, none⟩) fun p2 =>
 Calls Tryz.prog 39 #[.pointer p2, .int .u64 x0, .int .i64 0, .int .u64 (IntKind.wrap .u64 (Nat.cast l0l : Int))] w1 fun e2 w12 =>
 ∃ (r3 : Int), e2 = .returned (.int .i64 r3) /\
 R (.returned (.tuple #[])) w12)
def S_tree_tree_write (t0 : Option Addr) (t1 : Int) (x0 : Int) (l0p : Option Addr) (l0l : Nat) (l0c : Nat) (w : World) (R : Ending -> World -> Prop) : Prop :=
 NewC (.cells #[.pointer t0, .int .u64 t1] 73 (0, 0)) w fun b0 w0 =>
 ∃ (I0 : Int -> World -> Prop) (M0 : Int -> World -> Nat), I0 0 w0 /\
 ∀ (n0 : Int) (w1 : World), I0 n0 w1 ->
 S_tree_tree_write_l1 x0 l0p l0l R b0 n0 w1 I0 M0
def S_tree_tree_write_ann : Ann := (.seq .leaf (.seq (.seq .leaf (.block (.loop [1, 2, 3] [(12, (.int .i64))] (.seq .leaf (.seq .leaf (.seq (.block (.seq .leaf (.seq .leaf (.join [1, 2, 3, 6, 7, 12] [] .leaf (.seq .leaf (.block (.loop [1, 2, 3, 6, 12, 28] [(29, (.int .i64))] (.seq .leaf (.seq .leaf (.seq (.jblock [1, 2, 3, 6, 12, 28, 29] [] .leaf .leaf) .leaf)))))))))) .leaf)))))) .leaf))
theorem S_tree_tree_write_ok (t0 : Option Addr) (t1 : Int) (x0 : Int) (l0p : Option Addr) (l0l : Nat) (l0c : Nat) (w : World) (R : Ending -> World -> Prop) (h : S_tree_tree_write t0 t1 x0 l0p l0l l0c w R) : Calls Tryz.prog 101 #[.agg #[.pointer t0, .int .u64 t1], .int .u64 x0, .slice l0p l0l l0c] w R :=
 calls_of_X (c := bodyOf Tryz.f101) (an := S_tree_tree_write_ann) wide_ok Tryz.func101 (by kernel_rfl) (by kernel_rfl) (cast (by kernel_rfl) h)
def S_slices_Insert_tree_pair_tree_pair (s0p : Option Addr) (s0l : Nat) (s0c : Nat) (i0 : Int) (v0p : Option Addr) (v0l : Nat) (v0c : Nat) (w : World) (R : Ending -> World -> Prop) : Prop :=
 SlC s0p s0c i0 (Nat.cast s0l : Int) (Nat.cast s0c : Int) 2 fun _ _ _ =>
 cond ((Nat.cast v0l : Int) == 0)
 (R (.returned (.slice s0p s0l s0c)) w)
 (cond (i0 == (Nat.cast s0l : Int))
 (RunS Tryz.prog (Builtin.append_ #[86, 86] 86 #[.slice s0p s0l s0c, .slice v0p v0l v0c]) w fun s2p s2l s2c w0 =>
 R (.returned (.slice s2p s2l s2c)) w0)
 (cond (decide ((IntKind.wrap .i64 ((Nat.cast s0l : Int) + (Nat.cast v0l : Int))) > (Nat.cast s0c : Int)))
 (SlC s0p s0c 0 i0 (Nat.cast s0c : Int) 2 fun s3p s3l s3c =>
 RunS Tryz.prog (Builtin.append_ #[86, 3] 86 #[.slice s3p s3l s3c, .int .i64 (IntKind.wrap .i64 ((IntKind.wrap .i64 ((Nat.cast s0l : Int) + (Nat.cast v0l : Int))) - i0))]) w fun s4p s4l s4c w1 =>
 SlC s4p s4c i0 (Nat.cast s4l : Int) (Nat.cast s4c : Int) 2 fun s5p s5l s5c =>
 RunI Tryz.prog .i64 (Builtin.copy_ #[86, 86] 3 #[.slice s5p s5l s5c, .slice v0p v0l v0c]) w1 fun _ w2 =>
 SlC s4p s4c (IntKind.wrap .i64 (i0 + (Nat.cast v0l : Int))) (Nat.cast s4l : Int) (Nat.cast s4c : Int) 2 fun s6p s6l s6c =>
 SlC s0p s0c i0 (Nat.cast s0l : Int) (Nat.cast s0c : Int) 2 fun s7p s7l s7c =>
 RunI Tryz.prog .i64 (Builtin.copy_ #[86, 86] 3 #[.slice s6p s6l s6c, .slice s7p s7l s7c]) (World.drew w2) fun _ w3 =>
 R (.returned (.slice s4p s4l s4c)) w3)
 (SlC s0p s0c 0 (IntKind.wrap .i64 ((Nat.cast s0l : Int) + (Nat.cast v0l : Int))) (Nat.cast s0c : Int) 2 fun s8p s8l s8c =>
 SlC s8p s8c (IntKind.wrap .i64 (i0 + (Nat.cast v0l : Int))) (Nat.cast s8l : Int) (Nat.cast s8c : Int) 2 fun s9p s9l s9c =>
 ∃ (r0 : Bool), (callFunc 140 #[.slice v0p v0l v0c, .slice s9p s9l s9c]).run Tryz.prog w = .ok (.value (.bool r0)) w /\
 cond (!r0)
 (SlC s8p s8c (IntKind.wrap .i64 (i0 + (Nat.cast v0l : Int))) (Nat.cast s8l : Int) (Nat.cast s8c : Int) 2 fun s10p s10l s10c =>
 SlC s8p s8c i0 (Nat.cast s8l : Int) (Nat.cast s8c : Int) 2 fun s11p s11l s11c =>
 RunI Tryz.prog .i64 (Builtin.copy_ #[86, 86] 3 #[.slice s10p s10l s10c, .slice s11p s11l s11c]) (World.drew w) fun _ w4 =>
 SlC s8p s8c i0 (Nat.cast s8l : Int) (Nat.cast s8c : Int) 2 fun s12p s12l s12c =>
 RunI Tryz.prog .i64 (Builtin.copy_ #[86, 86] 3 #[.slice s12p s12l s12c, .slice v0p v0l v0c]) w4 fun _ w5 =>
 R (.returned (.slice s8p s8l s8c)) w5)
 (SlC s8p s8c (Nat.cast s0l : Int) (Nat.cast s8l : Int) (Nat.cast s8c : Int) 2 fun s13p s13l s13c =>
 RunI Tryz.prog .i64 (Builtin.copy_ #[86, 86] 3 #[.slice s13p s13l s13c, .slice v0p v0l v0c]) w fun _ w6 =>
 SlC s8p s8c i0 (Nat.cast s8l : Int) (Nat.cast s8c : Int) 2 fun s14p s14l s14c =>
 Calls Tryz.prog 141 #[.slice s14p s14l s14c, .int .i64 (Nat.cast v0l : Int)] w6 fun e0 w7 =>
 e0 = .returned (.tuple #[]) /\
 R (.returned (.slice s8p s8l s8c)) w7))))
def S_slices_Insert_tree_pair_tree_pair_ann : Ann := (.seq .leaf (.seq .leaf (.seq .leaf (.seq .leaf (.seq .leaf (.seq .leaf (.seq (.seq .leaf (.cond (.seq .leaf (.seq .leaf (.seq (.draw 8) .leaf))) .leaf)) (.seq .leaf (.seq (.seq .leaf (.cond (.seq (.draw 8) .leaf) .leaf)) .leaf)))))))))
theorem S_slices_Insert_tree_pair_tree_pair_ok (s0p : Option Addr) (s0l : Nat) (s0c : Nat) (i0 : Int) (v0p : Option Addr) (v0l : Nat) (v0c : Nat) (w : World) (R : Ending -> World -> Prop) (h : S_slices_Insert_tree_pair_tree_pair s0p s0l s0c i0 v0p v0l v0c w R) : Calls Tryz.prog 102 #[.slice s0p s0l s0c, .int .i64 i0, .slice v0p v0l v0c] w R :=
 calls_of_X (c := bodyOf Tryz.f102) (an := S_slices_Insert_tree_pair_tree_pair_ann) wide_ok Tryz.func102 (by kernel_rfl) (by kernel_rfl) (cast (by kernel_rfl) h)
def S_tree_tree_grown_g0 (R : Ending -> World -> Prop) (b0 : Nat) (I0 : Nat -> Option Addr -> Nat -> Nat -> Int -> Option Addr -> Nat -> Nat -> Bool -> Addr -> World -> Prop) (M0 : Option Addr -> Nat -> Nat -> Int -> Option Addr -> Nat -> Nat -> Bool -> Addr -> World -> Nat) (way1p : Option Addr) (way1l : Nat) (way1c : Nat) (x1 : Int) (l1p : Option Addr) (l1l : Nat) (l1c : Nat) (inner1 : Bool) (up0 : Addr) (w21 : World) : Prop :=
 cond (decide ((Nat.cast l1l : Int) <= 12))
 (LdP w21 (⟨b0, 0, none⟩) fun p12 =>
 LdI .u64 w21 (Addr.add (⟨b0, 0, none⟩) 1) fun n22 =>
 Calls Tryz.prog 101 #[.agg #[.pointer p12, .int .u64 n22], .int .u64 x1, .slice l1p l1l l1c] w21 fun e9 w22 =>
 e9 = .returned (.tuple #[]) /\
 LdP (World.drew w22) (⟨b0, 0, none⟩) fun p13 =>
 LdI .u64 (World.drew w22) (Addr.add (⟨b0, 0, none⟩) 1) fun n23 =>
 IdxC l1p l1l 0 2 fun a7 =>
 LdI .u64 (World.drew w22) a7 fun n24 =>
 Calls Tryz.prog 137 #[.agg #[.pointer p13, .int .u64 n23], .slice way1p way1l way1c, .int .u64 n24] (World.drew w22) fun e10 w23 =>
 e10 = .returned (.tuple #[]) /\
 R (.returned (.tuple #[])) w23)
 (LdP (World.drew w21) (⟨b0, 0, none⟩) fun p14 =>
 LdI .u64 (World.drew w21) (Addr.add (⟨b0, 0, none⟩) 1) fun n25 =>
 DivC 2
 (SlC l1p l1c (IntKind.wrap .i64 (Int.tdiv (Nat.cast l1l : Int) 2)) (Nat.cast l1l : Int) (Nat.cast l1c : Int) 2 fun s6p s6l s6c =>
 Calls Tryz.prog 99 #[.agg #[.pointer p14, .int .u64 n25], .slice s6p s6l s6c, .bool inner1] (World.drew w21) fun e11 w24 =>
 ∃ (r5 : Int), e11 = .returned (.int .u64 r5) /\
 LdP (World.drew w24) (⟨b0, 0, none⟩) fun p15 =>
 LdI .u64 (World.drew w24) (Addr.add (⟨b0, 0, none⟩) 1) fun n26 =>
 DivC 2
 (SlC l1p l1c 0 (IntKind.wrap .i64 (Int.tdiv (Nat.cast l1l : Int) 2)) (Nat.cast l1c : Int) 2 fun s7p s7l s7c =>
 Calls Tryz.prog 101 #[.agg #[.pointer p15, .int .u64 n26], .int .u64 x1, .slice s7p s7l s7c] (World.drew w24) fun e12 w25 =>
 e12 = .returned (.tuple #[]) /\
 cond ((Nat.cast way1l : Int) == 0)
 (∃ C2 : World -> Prop, C2 (World.drew w25) /\
 ∃ (p16 : Option Addr), ∃ (n27 : Int), (∀ (w26 : World), C2 w26 ->
 LdP w26 (⟨b0, 0, none⟩) fun p17 =>
 LdI .u64 w26 (Addr.add (⟨b0, 0, none⟩) 1) fun n28 =>
 Value.agg #[.pointer p17, .int .u64 n28] = .agg #[.pointer p16, .int .u64 n27]) /\
 ∃ (p18 : Option Addr), ∃ (n29 : Int), (∀ (w27 : World), C2 w27 ->
 LdP w27 (⟨b0, 0, none⟩) fun p19 =>
 LdI .u64 w27 (Addr.add (⟨b0, 0, none⟩) 1) fun n30 =>
 Value.agg #[.pointer p19, .int .u64 n30] = .agg #[.pointer p18, .int .u64 n29]) /\
 IdxC l1p l1l 0 2 fun a8 =>
 LdIQ .u64 C2 a8 fun n31 =>
 DivC 2
 (IdxC l1p l1l (IntKind.wrap .i64 (Int.tdiv (Nat.cast l1l : Int) 2)) 2 fun a9 =>
 LdIQ .u64 C2 a9 fun n32 =>
 ∃ (p20 : Option Addr), ∃ (n33 : Int), (∀ (w28 : World), C2 w28 ->
 LdP w28 (⟨b0, 0, none⟩) fun p21 =>
 LdI .u64 w28 (Addr.add (⟨b0, 0, none⟩) 1) fun n34 =>
 Value.agg #[.pointer p21, .int .u64 n34] = .agg #[.pointer p20, .int .u64 n33]) /\
 ∃ (p22 : Option Addr), ∃ (n35 : Int), (∀ (w29 : World), C2 w29 ->
 LdP w29 (⟨b0, 0, none⟩) fun p23 =>
 LdI .u64 w29 (Addr.add (⟨b0, 0, none⟩) 1) fun n36 =>
 Value.agg #[.pointer p23, .int .u64 n36] = .agg #[.pointer p22, .int .u64 n35]) /\
 NewC (.cells #[.int .u64 n31, .int .u64 x1, .int .u64 n32, .int .u64 r5] 96 (0, 0)) (World.drew w25) fun b4 w30 =>
 C2 w30 /\
 Calls Tryz.prog 99 #[.agg #[.pointer p18, .int .u64 n29], .slice (some (⟨b4, 0, none⟩)) 2 2, .bool true] w30 fun e13 w31 =>
 ∃ (r6 : Int), e13 = .returned (.int .u64 r6) /\
 C2 w31 /\
 Calls Tryz.prog 51 #[.agg #[.pointer p20, .int .u64 n33]] w31 fun e14 w32 =>
 ∃ (r7 : Int), e14 = .returned (.int .i64 r7) /\
 C2 w32 /\
 Calls Tryz.prog 94 #[.agg #[.pointer p22, .int .u64 n35]] w32 fun e15 w33 =>
 ∃ (r8 : Int), e15 = .returned (.int .i64 r8) /\
 C2 w33 /\
 Calls Tryz.prog 92 #[.agg #[.pointer p16, .int .u64 n27], .int .u64 r6, .int .i64 r7, .int .i64 (IntKind.wrap .i64 (r8 + 1))] w33 fun e16 w34 =>
 e16 = .returned (.tuple #[]) /\
 C2 w34 /\
 R (.returned (.tuple #[])) w34))
 (IdxC way1p way1l (IntKind.wrap .i64 ((Nat.cast way1l : Int) - 1)) 3 fun a10 =>
 LdI .u64 w25 a10 fun n37 =>
 LdS w25 (Addr.add a10 1) fun s8p s8l s8c =>
 LdI .i64 w25 (Addr.add a10 2) fun n38 =>
 StC w25 up0 (.int .u64 n37) fun w35 =>
 StC w35 (Addr.add up0 1) (.slice s8p s8l s8c) fun w36 =>
 StC w36 (Addr.add up0 2) (.int .i64 n38) fun w37 =>
 SlC way1p way1c 0 (IntKind.wrap .i64 ((Nat.cast way1l : Int) - 1)) (Nat.cast way1c : Int) 3 fun s9p s9l s9c =>
 LdS (World.drew w37) (Addr.add up0 1) fun s10p s10l _ =>
 LdI .i64 (World.drew w37) (Addr.add up0 2) fun n39 =>
 IdxC l1p l1l 0 2 fun a11 =>
 LdI .u64 (World.drew w37) a11 fun n40 =>
 IdxC s10p s10l n39 2 fun a12 =>
 StC (World.drew w37) a12 (.int .u64 n40) fun w38 =>
 ∃ C3 : World -> Prop, C3 (World.drew w38) /\
 LdSQ C3 (Addr.add up0 1) fun s11p s11l s11c =>
 LdIQ .i64 C3 (Addr.add up0 2) fun n41 =>
 DivC 2
 (IdxC l1p l1l (IntKind.wrap .i64 (Int.tdiv (Nat.cast l1l : Int) 2)) 2 fun a13 =>
 LdIQ .u64 C3 a13 fun n42 =>
 NewC (.cells #[.int .u64 n42, .int .u64 r5] 96 (0, 0)) (World.drew w38) fun b5 w39 =>
 C3 w39 /\
 Calls Tryz.prog 102 #[.slice s11p s11l s11c, .int .i64 (IntKind.wrap .i64 (n41 + 1)), .slice (some (⟨b5, 0, none⟩)) 1 1] w39 fun e17 w40 =>
 ∃ (r9p : Option Addr), ∃ (r9l : Nat), ∃ (r9c : Nat), e17 = .returned (.slice r9p r9l r9c) /\
 C3 w40 /\
 LdI .u64 w40 up0 fun n43 =>
 I0 0 s9p s9l s9c n43 r9p r9l r9c true up0 w40 /\ M0 s9p s9l s9c n43 r9p r9l r9c true up0 w40 < M0 way1p way1l way1c x1 l1p l1l l1c inner1 up0 w21)))))
def S_tree_tree_grown (t0 : Option Addr) (t1 : Int) (way0p : Option Addr) (way0l : Nat) (way0c : Nat) (x0 : Int) (l0p : Option Addr) (l0l : Nat) (l0c : Nat) (inner0 : Bool) (w : World) (R : Ending -> World -> Prop) : Prop :=
 NewC (.cells #[.pointer t0, .int .u64 t1] 73 (0, 0)) w fun b0 w0 =>
 ∃ (I0 : Nat -> Option Addr -> Nat -> Nat -> Int -> Option Addr -> Nat -> Nat -> Bool -> Addr -> World -> Prop) (M0 : Option Addr -> Nat -> Nat -> Int -> Option Addr -> Nat -> Nat -> Bool -> Addr -> World -> Nat),
 (NewC (.cells #[.int .u64 0, .slice none 0 0, .int .i64 0] 152 (0, 0)) w0 fun b1 w1 =>
 cond (decide ((Nat.cast l0l : Int) <= 12))
 (LdP w1 (⟨b0, 0, none⟩) fun p0 =>
 LdI .u64 w1 (Addr.add (⟨b0, 0, none⟩) 1) fun n0 =>
 Calls Tryz.prog 101 #[.agg #[.pointer p0, .int .u64 n0], .int .u64 x0, .slice l0p l0l l0c] w1 fun e0 w2 =>
 e0 = .returned (.tuple #[]) /\
 LdP (World.drew w2) (⟨b0, 0, none⟩) fun p1 =>
 LdI .u64 (World.drew w2) (Addr.add (⟨b0, 0, none⟩) 1) fun n1 =>
 IdxC l0p l0l 0 2 fun a0 =>
 LdI .u64 (World.drew w2) a0 fun n2 =>
 Calls Tryz.prog 137 #[.agg #[.pointer p1, .int .u64 n1], .slice way0p way0l way0c, .int .u64 n2] (World.drew w2) fun e1 w3 =>
 e1 = .returned (.tuple #[]) /\
 R (.returned (.tuple #[])) w3)
 (LdP (World.drew w1) (⟨b0, 0, none⟩) fun p2 =>
 LdI .u64 (World.drew w1) (Addr.add (⟨b0, 0, none⟩) 1) fun n3 =>
 DivC 2
 (SlC l0p l0c (IntKind.wrap .i64 (Int.tdiv (Nat.cast l0l : Int) 2)) (Nat.cast l0l : Int) (Nat.cast l0c : Int) 2 fun s0p s0l s0c =>
 Calls Tryz.prog 99 #[.agg #[.pointer p2, .int .u64 n3], .slice s0p s0l s0c, .bool inner0] (World.drew w1) fun e2 w4 =>
 ∃ (r0 : Int), e2 = .returned (.int .u64 r0) /\
 LdP (World.drew w4) (⟨b0, 0, none⟩) fun p3 =>
 LdI .u64 (World.drew w4) (Addr.add (⟨b0, 0, none⟩) 1) fun n4 =>
 DivC 2
 (SlC l0p l0c 0 (IntKind.wrap .i64 (Int.tdiv (Nat.cast l0l : Int) 2)) (Nat.cast l0c : Int) 2 fun s1p s1l s1c =>
 Calls Tryz.prog 101 #[.agg #[.pointer p3, .int .u64 n4], .int .u64 x0, .slice s1p s1l s1c] (World.drew w4) fun e3 w5 =>
 e3 = .returned (.tuple #[]) /\
 cond ((Nat.cast way0l : Int) == 0)
 (∃ C0 : World -> Prop, C0 (World.drew w5) /\
 ∃ (p4 : Option Addr), ∃ (n5 : Int), (∀ (w6 : World), C0 w6 ->
 LdP w6 (⟨b0, 0, none⟩) fun p5 =>
 LdI .u64 w6 (Addr.add (⟨b0, 0, none⟩) 1) fun n6 =>
 Value.agg #[.pointer p5, .int .u64 n6] = .agg #[.pointer p4, .int .u64 n5]) /\
 ∃ (p6 : Option Addr), ∃ (n7 : Int), (∀ (w7 : World), C0 w7 ->
 LdP w7 (⟨b0, 0, none⟩) fun p7 =>
 LdI .u64 w7 (Addr.add (⟨b0, 0, none⟩) 1) fun n8 =>
 Value.agg #[.pointer p7, .int .u64 n8] = .agg #[.pointer p6, .int .u64 n7]) /\
 IdxC l0p l0l 0 2 fun a1 =>
 LdIQ .u64 C0 a1 fun n9 =>
 DivC 2
 (IdxC l0p l0l (IntKind.wrap .i64 (Int.tdiv (Nat.cast l0l : Int) 2)) 2 fun a2 =>
 LdIQ .u64 C0 a2 fun n10 =>
 ∃ (p8 : Option Addr), ∃ (n11 : Int), (∀ (w8 : World), C0 w8 ->
 LdP w8 (⟨b0, 0, none⟩) fun p9 =>
 LdI .u64 w8 (Addr.add (⟨b0, 0, none⟩) 1) fun n12 =>
 Value.agg #[.pointer p9, .int .u64 n12] = .agg #[.pointer p8, .int .u64 n11]) /\
 ∃ (p10 : Option Addr), ∃ (n13 : Int), (∀ (w9 : World), C0 w9 ->
 LdP w9 (⟨b0, 0, none⟩) fun p11 =>
 LdI .u64 w9 (Addr.add (⟨b0, 0, none⟩) 1) fun n14 =>
 Value.agg #[.pointer p11, .int .u64 n14] = .agg #[.pointer p10, .int .u64 n13]) /\
 NewC (.cells #[.int .u64 n9, .int .u64 x0, .int .u64 n10, .int .u64 r0] 96 (0, 0)) (World.drew w5) fun b2 w10 =>
 C0 w10 /\
 Calls Tryz.prog 99 #[.agg #[.pointer p6, .int .u64 n7], .slice (some (⟨b2, 0, none⟩)) 2 2, .bool true] w10 fun e4 w11 =>
 ∃ (r1 : Int), e4 = .returned (.int .u64 r1) /\
 C0 w11 /\
 Calls Tryz.prog 51 #[.agg #[.pointer p8, .int .u64 n11]] w11 fun e5 w12 =>
 ∃ (r2 : Int), e5 = .returned (.int .i64 r2) /\
 C0 w12 /\
 Calls Tryz.prog 94 #[.agg #[.pointer p10, .int .u64 n13]] w12 fun e6 w13 =>
 ∃ (r3 : Int), e6 = .returned (.int .i64 r3) /\
 C0 w13 /\
 Calls Tryz.prog 92 #[.agg #[.pointer p4, .int .u64 n5], .int .u64 r1, .int .i64 r2, .int .i64 (IntKind.wrap .i64 (r3 + 1))] w13 fun e7 w14 =>
 e7 = .returned (.tuple #[]) /\
 C0 w14 /\
 R (.returned (.tuple #[])) w14))
 (IdxC way0p way0l (IntKind.wrap .i64 ((Nat.cast way0l : Int) - 1)) 3 fun a3 =>
 LdI .u64 w5 a3 fun n15 =>
 LdS w5 (Addr.add a3 1) fun s2p s2l s2c =>
 LdI .i64 w5 (Addr.add a3 2) fun n16 =>
 StC w5 (⟨b1, 0, none⟩) (.int .u64 n15) fun w15 =>
 StC w15 (Addr.add (⟨b1, 0, none⟩) 1) (.slice s2p s2l s2c) fun w16 =>
 StC w16 (Addr.add (⟨b1, 0, none⟩) 2) (.int .i64 n16) fun w17 =>
 SlC way0p way0c 0 (IntKind.wrap .i64 ((Nat.cast way0l : Int) - 1)) (Nat.cast way0c : Int) 3 fun s3p s3l s3c =>
 LdS (World.drew w17) (Addr.add (⟨b1, 0, none⟩) 1) fun s4p s4l _ =>
 LdI .i64 (World.drew w17) (Addr.add (⟨b1, 0, none⟩) 2) fun n17 =>
 IdxC l0p l0l 0 2 fun a4 =>
 LdI .u64 (World.drew w17) a4 fun n18 =>
 IdxC s4p s4l n17 2 fun a5 =>
 StC (World.drew w17) a5 (.int .u64 n18) fun w18 =>
 ∃ C1 : World -> Prop, C1 (World.drew w18) /\
 LdSQ C1 (Addr.add (⟨b1, 0, none⟩) 1) fun s5p s5l s5c =>
 LdIQ .i64 C1 (Addr.add (⟨b1, 0, none⟩) 2) fun n19 =>
 DivC 2
 (IdxC l0p l0l (IntKind.wrap .i64 (Int.tdiv (Nat.cast l0l : Int) 2)) 2 fun a6 =>
 LdIQ .u64 C1 a6 fun n20 =>
 NewC (.cells #[.int .u64 n20, .int .u64 r0] 96 (0, 0)) (World.drew w18) fun b3 w19 =>
 C1 w19 /\
 Calls Tryz.prog 102 #[.slice s5p s5l s5c, .int .i64 (IntKind.wrap .i64 (n19 + 1)), .slice (some (⟨b3, 0, none⟩)) 1 1] w19 fun e8 w20 =>
 ∃ (r4p : Option Addr), ∃ (r4l : Nat), ∃ (r4c : Nat), e8 = .returned (.slice r4p r4l r4c) /\
 C1 w20 /\
 LdI .u64 w20 (⟨b1, 0, none⟩) fun n21 =>
 I0 0 s3p s3l s3c n21 r4p r4l r4c true (⟨b1, 0, none⟩) w20)))))) /\
 (∀ (way1p : Option Addr) (way1l : Nat) (way1c : Nat) (x1 : Int) (l1p : Option Addr) (l1l : Nat) (l1c : Nat) (inner1 : Bool) (up0 : Addr) (w21 : World), I0 0 way1p way1l way1c x1 l1p l1l l1c inner1 up0 w21 ->
 S_tree_tree_grown_g0 R b0 I0 M0 way1p way1l way1c x1 l1p l1l l1c inner1 up0 w21) /\ True
def S_tree_tree_grown_anp : Ann := .leaf
def S_tree_tree_grown_ann : Ann := (.seq .leaf (.seq .leaf (.seq .leaf (.seq (.seq .leaf (.cond (.seq .leaf (.seq (.draw 6) .leaf)) .leaf)) (.seq (.draw 7) (.seq (.draw 7) (.seq (.seq .leaf (.cond (.seq .anyl .leaf) .leaf)) (.seq .leaf (.seq .leaf (.seq (.draw 10) (.seq .anyl .leaf)))))))))))
def S_tree_tree_grown_anl : List (Nat × Ann) := [(0, (.seq .leaf (.seq (.seq .leaf (.cond (.seq .leaf (.seq (.draw 6) .leaf)) .leaf)) (.seq (.draw 7) (.seq (.draw 7) (.seq (.seq .leaf (.cond (.seq .anyl .leaf) .leaf)) (.seq .leaf (.seq .leaf (.seq (.draw 10) (.seq .anyl .leaf))))))))))]
theorem S_tree_tree_grown_ok (t0 : Option Addr) (t1 : Int) (way0p : Option Addr) (way0l : Nat) (way0c : Nat) (x0 : Int) (l0p : Option Addr) (l0l : Nat) (l0c : Nat) (inner0 : Bool) (w : World) (R : Ending -> World -> Prop) (h : S_tree_tree_grown t0 t1 way0p way0l way0c x0 l0p l0l l0c inner0 w R) : Calls Tryz.prog 103 #[.agg #[.pointer t0, .int .u64 t1], .slice way0p way0l way0c, .int .u64 x0, .slice l0p l0l l0c, .bool inner0] w R :=
 calls_of_Xs (pre := preOf Tryz.f103) (c := scopeOf Tryz.f103) (anp := S_tree_tree_grown_anp) (an := S_tree_tree_grown_ann) (ks := [5]) (ts := [(1, .slice), (2, (.int .u64)), (3, .slice), (4, .bool), (10, .addr)]) (ls := S_tree_tree_grown_anl) wide_ok Tryz.func103 (by kernel_rfl) (by kernel_rfl) (cast (by kernel_rfl) h)
def S_tree_tree_word (t0 : Option Addr) (t1 : Int) (x0 : Int) (i0 : Int) (w : World) (R : Ending -> World -> Prop) : Prop :=
 NewC (.cells #[.pointer t0, .int .u64 t1] 73 (0, 0)) w fun b0 w0 =>
 LdP w0 (⟨b0, 0, none⟩) fun p0 =>
 Calls Tryz.prog 110 #[.pointer p0, .int .u64 x0, .int .i64 i0] w0 fun e0 w1 =>
 ∃ (r0 : Int), ∃ (r1 : Int), e0 = .returned (.tuple #[.int .u64 r0, .int .i64 r1]) /\
 Calls Tryz.prog 109 #[.int .i64 r1] w1 fun e1 w2 =>
 e1 = .returned (.tuple #[]) /\
 Calls Tryz.prog 47 #[.bool (decide (r0 <= 1073741824)), .int .i64 4] w2 fun e2 w3 =>
 e2 = .returned (.tuple #[]) /\
 R (.returned (.int .i64 (IntKind.wrap .i64 r0))) w3
def S_tree_tree_word_ann : Ann := .leaf
theorem S_tree_tree_word_ok (t0 : Option Addr) (t1 : Int) (x0 : Int) (i0 : Int) (w : World) (R : Ending -> World -> Prop) (h : S_tree_tree_word t0 t1 x0 i0 w R) : Calls Tryz.prog 104 #[.agg #[.pointer t0, .int .u64 t1], .int .u64 x0, .int .i64 i0] w R :=
 calls_of_X (c := bodyOf Tryz.f104) (an := S_tree_tree_word_ann) wide_ok Tryz.func104 (by kernel_rfl) (by kernel_rfl) (cast (by kernel_rfl) h)
def S_tree_tree_pairs_l0 (x0 : Int) (R : Ending -> World -> Prop) (b0 : Nat) (r4 : Int) (out0p : Option Addr) (out0l : Nat) (out0c : Nat) (n1 : Int) (w7 : World) (I0 : Option Addr -> Nat -> Nat -> Int -> World -> Prop) (M0 : Option Addr -> Nat -> Nat -> Int -> World -> Nat) : Prop :=
 cond (decide (n1 < r4))
 (∃ C0 : World -> Prop, C0 (World.drew w7) /\
 ∃ (p2 : Option Addr), ∃ (n2 : Int), (∀ (w8 : World), C0 w8 ->
 LdP w8 (⟨b0, 0, none⟩) fun p3 =>
 LdI .u64 w8 (Addr.add (⟨b0, 0, none⟩) 1) fun n3 =>
 Value.agg #[.pointer p3, .int .u64 n3] = .agg #[.pointer p2, .int .u64 n2]) /\
 ∃ (p4 : Option Addr), ∃ (n4 : Int), (∀ (w9 : World), C0 w9 ->
 LdP w9 (⟨b0, 0, none⟩) fun p5 =>
 LdI .u64 w9 (Addr.add (⟨b0, 0, none⟩) 1) fun n5 =>
 Value.agg #[.pointer p5, .int .u64 n5] = .agg #[.pointer p4, .int .u64 n4]) /\
 Calls Tryz.prog 135 #[.agg #[.pointer p2, .int .u64 n2], .int .u64 x0, .int .i64 (IntKind.wrap .i64 (2 * n1))] (World.drew w7) fun e5 w10 =>
 ∃ (r5 : Int), e5 = .returned (.int .u64 r5) /\
 C0 w10 /\
 Calls Tryz.prog 135 #[.agg #[.pointer p4, .int .u64 n4], .int .u64 x0, .int .i64 (IntKind.wrap .i64 ((IntKind.wrap .i64 (2 * n1)) + 1))] w10 fun e6 w11 =>
 ∃ (r6 : Int), e6 = .returned (.int .u64 r6) /\
 C0 w11 /\
 NewC (.cells #[.int .u64 r5, .int .u64 r6] 96 (0, 0)) w11 fun b1 w12 =>
 C0 w12 /\
 RunS Tryz.prog (Builtin.append_ #[86, 86] 86 #[.slice out0p out0l out0c, .slice (some (⟨b1, 0, none⟩)) 1 1]) w12 fun s1p s1l s1c w13 =>
 C0 w13 /\
 I0 s1p s1l s1c (IntKind.wrap .i64 (n1 + 1)) w13 /\ M0 s1p s1l s1c (IntKind.wrap .i64 (n1 + 1)) w13 < M0 out0p out0l out0c n1 w7)
 (R (.returned (.slice out0p out0l out0c)) w7)
def S_tree_tree_pairs_l1 (x0 : Int) (R : Ending -> World -> Prop) (b0 : Nat) (r7 : Int) (out1p : Option Addr) (out1l : Nat) (out1c : Nat) (n7 : Int) (w18 : World) (I1 : Option Addr -> Nat -> Nat -> Int -> World -> Prop) (M1 : Option Addr -> Nat -> Nat -> Int -> World -> Nat) : Prop :=
 cond (decide (n7 < r7))
 (∃ C1 : World -> Prop, C1 (World.drew w18) /\
 ∃ (p7 : Option Addr), ∃ (n8 : Int), (∀ (w19 : World), C1 w19 ->
 LdP w19 (⟨b0, 0, none⟩) fun p8 =>
 LdI .u64 w19 (Addr.add (⟨b0, 0, none⟩) 1) fun n9 =>
 Value.agg #[.pointer p8, .int .u64 n9] = .agg #[.pointer p7, .int .u64 n8]) /\
 ∃ (p9 : Option Addr), ∃ (n10 : Int), (∀ (w20 : World), C1 w20 ->
 LdP w20 (⟨b0, 0, none⟩) fun p10 =>
 LdI .u64 w20 (Addr.add (⟨b0, 0, none⟩) 1) fun n11 =>
 Value.agg #[.pointer p10, .int .u64 n11] = .agg #[.pointer p9, .int .u64 n10]) /\
 Calls Tryz.prog 135 #[.agg #[.pointer p7, .int .u64 n8], .int .u64 x0, .int .i64 (IntKind.wrap .i64 (2 * n7))] (World.drew w18) fun e10 w21 =>
 ∃ (r8 : Int), e10 = .returned (.int .u64 r8) /\
 C1 w21 /\
 Calls Tryz.prog 135 #[.agg #[.pointer p9, .int .u64 n10], .int .u64 x0, .int .i64 (IntKind.wrap .i64 ((IntKind.wrap .i64 (2 * n7)) + 1))] w21 fun e11 w22 =>
 ∃ (r9 : Int), e11 = .returned (.int .u64 r9) /\
 C1 w22 /\
 NewC (.cells #[.int .u64 r8, .int .u64 r9] 96 (0, 0)) w22 fun b2 w23 =>
 C1 w23 /\
 RunS Tryz.prog (Builtin.append_ #[86, 86] 86 #[.slice out1p out1l out1c, .slice (some (⟨b2, 0, none⟩)) 1 1]) w23 fun s3p s3l s3c w24 =>
 C1 w24 /\
 I1 s3p s3l s3c (IntKind.wrap .i64 (n7 + 1)) w24 /\ M1 s3p s3l s3c (IntKind.wrap .i64 (n7 + 1)) w24 < M1 out1p out1l out1c n7 w18)
 (R (.returned (.slice out1p out1l out1c)) w18)
def S_tree_tree_pairs_l2 (x0 : Int) (R : Ending -> World -> Prop) (b0 : Nat) (r10 : Int) (out2p : Option Addr) (out2l : Nat) (out2c : Nat) (n13 : Int) (w29 : World) (I2 : Option Addr -> Nat -> Nat -> Int -> World -> Prop) (M2 : Option Addr -> Nat -> Nat -> Int -> World -> Nat) : Prop :=
 cond (decide (n13 < r10))
 (∃ C2 : World -> Prop, C2 (World.drew w29) /\
 ∃ (p12 : Option Addr), ∃ (n14 : Int), (∀ (w30 : World), C2 w30 ->
 LdP w30 (⟨b0, 0, none⟩) fun p13 =>
 LdI .u64 w30 (Addr.add (⟨b0, 0, none⟩) 1) fun n15 =>
 Value.agg #[.pointer p13, .int .u64 n15] = .agg #[.pointer p12, .int .u64 n14]) /\
 ∃ (p14 : Option Addr), ∃ (n16 : Int), (∀ (w31 : World), C2 w31 ->
 LdP w31 (⟨b0, 0, none⟩) fun p15 =>
 LdI .u64 w31 (Addr.add (⟨b0, 0, none⟩) 1) fun n17 =>
 Value.agg #[.pointer p15, .int .u64 n17] = .agg #[.pointer p14, .int .u64 n16]) /\
 Calls Tryz.prog 135 #[.agg #[.pointer p12, .int .u64 n14], .int .u64 x0, .int .i64 (IntKind.wrap .i64 (2 * n13))] (World.drew w29) fun e15 w32 =>
 ∃ (r11 : Int), e15 = .returned (.int .u64 r11) /\
 C2 w32 /\
 Calls Tryz.prog 135 #[.agg #[.pointer p14, .int .u64 n16], .int .u64 x0, .int .i64 (IntKind.wrap .i64 ((IntKind.wrap .i64 (2 * n13)) + 1))] w32 fun e16 w33 =>
 ∃ (r12 : Int), e16 = .returned (.int .u64 r12) /\
 C2 w33 /\
 NewC (.cells #[.int .u64 r11, .int .u64 r12] 96 (0, 0)) w33 fun b3 w34 =>
 C2 w34 /\
 RunS Tryz.prog (Builtin.append_ #[86, 86] 86 #[.slice out2p out2l out2c, .slice (some (⟨b3, 0, none⟩)) 1 1]) w34 fun s5p s5l s5c w35 =>
 C2 w35 /\
 I2 s5p s5l s5c (IntKind.wrap .i64 (n13 + 1)) w35 /\ M2 s5p s5l s5c (IntKind.wrap .i64 (n13 + 1)) w35 < M2 out2p out2l out2c n13 w29)
 (R (.returned (.slice out2p out2l out2c)) w29)
def S_tree_tree_pairs_l3 (x0 : Int) (R : Ending -> World -> Prop) (b0 : Nat) (r13 : Int) (out3p : Option Addr) (out3l : Nat) (out3c : Nat) (n19 : Int) (w40 : World) (I3 : Option Addr -> Nat -> Nat -> Int -> World -> Prop) (M3 : Option Addr -> Nat -> Nat -> Int -> World -> Nat) : Prop :=
 cond (decide (n19 < r13))
 (∃ C3 : World -> Prop, C3 (World.drew w40) /\
 ∃ (p17 : Option Addr), ∃ (n20 : Int), (∀ (w41 : World), C3 w41 ->
 LdP w41 (⟨b0, 0, none⟩) fun p18 =>
 LdI .u64 w41 (Addr.add (⟨b0, 0, none⟩) 1) fun n21 =>
 Value.agg #[.pointer p18, .int .u64 n21] = .agg #[.pointer p17, .int .u64 n20]) /\
 ∃ (p19 : Option Addr), ∃ (n22 : Int), (∀ (w42 : World), C3 w42 ->
 LdP w42 (⟨b0, 0, none⟩) fun p20 =>
 LdI .u64 w42 (Addr.add (⟨b0, 0, none⟩) 1) fun n23 =>
 Value.agg #[.pointer p20, .int .u64 n23] = .agg #[.pointer p19, .int .u64 n22]) /\
 Calls Tryz.prog 135 #[.agg #[.pointer p17, .int .u64 n20], .int .u64 x0, .int .i64 (IntKind.wrap .i64 (2 * n19))] (World.drew w40) fun e20 w43 =>
 ∃ (r14 : Int), e20 = .returned (.int .u64 r14) /\
 C3 w43 /\
 Calls Tryz.prog 135 #[.agg #[.pointer p19, .int .u64 n22], .int .u64 x0, .int .i64 (IntKind.wrap .i64 ((IntKind.wrap .i64 (2 * n19)) + 1))] w43 fun e21 w44 =>
 ∃ (r15 : Int), e21 = .returned (.int .u64 r15) /\
 C3 w44 /\
 NewC (.cells #[.int .u64 r14, .int .u64 r15] 96 (0, 0)) w44 fun b4 w45 =>
 C3 w45 /\
 RunS Tryz.prog (Builtin.append_ #[86, 86] 86 #[.slice out3p out3l out3c, .slice (some (⟨b4, 0, none⟩)) 1 1]) w45 fun s7p s7l s7c w46 =>
 C3 w46 /\
 I3 s7p s7l s7c (IntKind.wrap .i64 (n19 + 1)) w46 /\ M3 s7p s7l s7c (IntKind.wrap .i64 (n19 + 1)) w46 < M3 out3p out3l out3c n19 w40)
 (R (.returned (.slice out3p out3l out3c)) w40)
def S_tree_tree_pairs (t0 : Option Addr) (t1 : Int) (x0 : Int) (inner0 : Bool) (w : World) (R : Ending -> World -> Prop) : Prop :=
 NewC (.cells #[.pointer t0, .int .u64 t1] 73 (0, 0)) w fun b0 w0 =>
 LdP w0 (⟨b0, 0, none⟩) fun p0 =>
 Calls Tryz.prog 82 #[.pointer p0, .int .u64 x0] w0 fun e0 w1 =>
 ∃ (r0 : Int), ∃ (r1 : Int), ∃ (r2 : Int), ∃ (r3 : Int), e0 = .returned (.tuple #[.int .i64 r0, .int .i64 r1, .int .i64 r2, .int .i64 r3]) /\
 Calls Tryz.prog 109 #[.int .i64 r3] w1 fun e1 w2 =>
 e1 = .returned (.tuple #[]) /\
 cond (r1 == 24)
 (cond (r2 == (IntKind.wrap .i64 (r1 + 1)))
 (cond ((r0 == 22) == inner0)
 (Calls Tryz.prog 47 #[.bool ((r0 == 21) == (!inner0)), .int .i64 4] w2 fun e2 w3 =>
 e2 = .returned (.tuple #[]) /\
 LdP w3 (⟨b0, 0, none⟩) fun p1 =>
 LdI .u64 w3 (Addr.add (⟨b0, 0, none⟩) 1) fun n0 =>
 Calls Tryz.prog 104 #[.agg #[.pointer p1, .int .u64 n0], .int .u64 x0, .int .i64 0] w3 fun e3 w4 =>
 ∃ (r4 : Int), e3 = .returned (.int .i64 r4) /\
 Calls Tryz.prog 47 #[.bool (decide (r4 <= 12)), .int .i64 4] w4 fun e4 w5 =>
 e4 = .returned (.tuple #[]) /\
 RunS Tryz.prog (Instr.makeSlice 86 (.int .i64 0) (.int .i64 (IntKind.wrap .i64 (r4 + 1)))) w5 fun s0p s0l s0c w6 =>
 ∃ (I0 : Option Addr -> Nat -> Nat -> Int -> World -> Prop) (M0 : Option Addr -> Nat -> Nat -> Int -> World -> Nat), I0 s0p s0l s0c 0 w6 /\
 ∀ (out0p : Option Addr) (out0l : Nat) (out0c : Nat) (n1 : Int) (w7 : World), I0 out0p out0l out0c n1 w7 ->
 S_tree_tree_pairs_l0 x0 R b0 r4 out0p out0l out0c n1 w7 I0 M0)
 (Calls Tryz.prog 47 #[.bool false, .int .i64 4] w2 fun e7 w14 =>
 e7 = .returned (.tuple #[]) /\
 LdP w14 (⟨b0, 0, none⟩) fun p6 =>
 LdI .u64 w14 (Addr.add (⟨b0, 0, none⟩) 1) fun n6 =>
 Calls Tryz.prog 104 #[.agg #[.pointer p6, .int .u64 n6], .int .u64 x0, .int .i64 0] w14 fun e8 w15 =>
 ∃ (r7 : Int), e8 = .returned (.int .i64 r7) /\
 Calls Tryz.prog 47 #[.bool (decide (r7 <= 12)), .int .i64 4] w15 fun e9 w16 =>
 e9 = .returned (.tuple #[]) /\
 RunS Tryz.prog (Instr.makeSlice 86 (.int .i64 0) (.int .i64 (IntKind.wrap .i64 (r7 + 1)))) w16 fun s2p s2l s2c w17 =>
 ∃ (I1 : Option Addr -> Nat -> Nat -> Int -> World -> Prop) (M1 : Option Addr -> Nat -> Nat -> Int -> World -> Nat), I1 s2p s2l s2c 0 w17 /\
 ∀ (out1p : Option Addr) (out1l : Nat) (out1c : Nat) (n7 : Int) (w18 : World), I1 out1p out1l out1c n7 w18 ->
 S_tree_tree_pairs_l1 x0 R b0 r7 out1p out1l out1c n7 w18 I1 M1))
 (Calls Tryz.prog 47 #[.bool false, .int .i64 4] w2 fun e12 w25 =>
 e12 = .returned (.tuple #[]) /\
 LdP w25 (⟨b0, 0, none⟩) fun p11 =>
 LdI .u64 w25 (Addr.add (⟨b0, 0, none⟩) 1) fun n12 =>
 Calls Tryz.prog 104 #[.agg #[.pointer p11, .int .u64 n12], .int .u64 x0, .int .i64 0] w25 fun e13 w26 =>
 ∃ (r10 : Int), e13 = .returned (.int .i64 r10) /\
 Calls Tryz.prog 47 #[.bool (decide (r10 <= 12)), .int .i64 4] w26 fun e14 w27 =>
 e14 = .returned (.tuple #[]) /\
 RunS Tryz.prog (Instr.makeSlice 86 (.int .i64 0) (.int .i64 (IntKind.wrap .i64 (r10 + 1)))) w27 fun s4p s4l s4c w28 =>
 ∃ (I2 : Option Addr -> Nat -> Nat -> Int -> World -> Prop) (M2 : Option Addr -> Nat -> Nat -> Int -> World -> Nat), I2 s4p s4l s4c 0 w28 /\
 ∀ (out2p : Option Addr) (out2l : Nat) (out2c : Nat) (n13 : Int) (w29 : World), I2 out2p out2l out2c n13 w29 ->
 S_tree_tree_pairs_l2 x0 R b0 r10 out2p out2l out2c n13 w29 I2 M2))
 (Calls Tryz.prog 47 #[.bool false, .int .i64 4] w2 fun e17 w36 =>
 e17 = .returned (.tuple #[]) /\
 LdP w36 (⟨b0, 0, none⟩) fun p16 =>
 LdI .u64 w36 (Addr.add (⟨b0, 0, none⟩) 1) fun n18 =>
 Calls Tryz.prog 104 #[.agg #[.pointer p16, .int .u64 n18], .int .u64 x0, .int .i64 0] w36 fun e18 w37 =>
 ∃ (r13 : Int), e18 = .returned (.int .i64 r13) /\
 Calls Tryz.prog 47 #[.bool (decide (r13 <= 12)), .int .i64 4] w37 fun e19 w38 =>
 e19 = .returned (.tuple #[]) /\
 RunS Tryz.prog (Instr.makeSlice 86 (.int .i64 0) (.int .i64 (IntKind.wrap .i64 (r13 + 1)))) w38 fun s6p s6l s6c w39 =>
 ∃ (I3 : Option Addr -> Nat -> Nat -> Int -> World -> Prop) (M3 : Option Addr -> Nat -> Nat -> Int -> World -> Nat), I3 s6p s6l s6c 0 w39 /\
 ∀ (out3p : Option Addr) (out3l : Nat) (out3c : Nat) (n19 : Int) (w40 : World), I3 out3p out3l out3c n19 w40 ->
 S_tree_tree_pairs_l3 x0 R b0 r13 out3p out3l out3c n19 w40 I3 M3)
def S_tree_tree_pairs_ann : Ann := (.seq .leaf (.seq .leaf (.seq .leaf (.seq .leaf (.seq .leaf (.seq .leaf (.seq .leaf (.seq (.seq .leaf (.block (.loop [1, 3, 56] [(12, .slice), (57, (.int .i64))] (.seq .leaf (.seq .leaf (.seq (.block (.seq .leaf .anyl)) .leaf)))))) .leaf))))))))
theorem S_tree_tree_pairs_ok (t0 : Option Addr) (t1 : Int) (x0 : Int) (inner0 : Bool) (w : World) (R : Ending -> World -> Prop) (h : S_tree_tree_pairs t0 t1 x0 inner0 w R) : Calls Tryz.prog 105 #[.agg #[.pointer t0, .int .u64 t1], .int .u64 x0, .bool inner0] w R :=
 calls_of_X (c := bodyOf Tryz.f105) (an := S_tree_tree_pairs_ann) wide_ok Tryz.func105 (by kernel_rfl) (by kernel_rfl) (cast (by kernel_rfl) h)
def S_slices_BinarySearchFunc_tree_pair_tree_pair_string_j0 (i0 : Int) (j0 : Int) (w0 : World) (I0 : Int -> Int -> World -> Prop) (M0 : Int -> Int -> World -> Nat) (i1 : Int) (j1 : Int) (w2 : World) : Prop :=
 I0 i1 j1 w2 /\ M0 i1 j1 w2 < M0 i0 j0 w0
def S_slices_BinarySearchFunc_tree_pair_tree_pair_string_l0 (x0p : Option Addr) (x0l : Nat) (target0 : ByteArray) (cmp0f : Nat) (cmp0c : Array Value) (R : Ending -> World -> Prop) (i0 : Int) (j0 : Int) (w0 : World) (I0 : Int -> Int -> World -> Prop) (M0 : Int -> Int -> World -> Nat) : Prop :=
 cond (decide (i0 < j0))
 (∀ k0 : Int -> Int -> World -> Prop,
 (∀ (i1 : Int) (j1 : Int) (w2 : World), S_slices_BinarySearchFunc_tree_pair_tree_pair_string_j0 i0 j0 w0 I0 M0 i1 j1 w2 -> k0 i1 j1 w2) ->
 IdxC x0p x0l (IntKind.wrap .i64 (bShr .u64 (IntKind.wrap .u64 (IntKind.wrap .i64 (i0 + j0))) 1)) 2 fun a0 =>
 LdI .u64 w0 a0 fun n0 =>
 LdI .u64 w0 (Addr.add a0 1) fun n1 =>
 FnQ Tryz.prog cmp0f ((#[] ++ #[.agg #[.int .u64 n0, .int .u64 n1], .string target0]) ++ cmp0c) w0 fun E0 w1 =>
 ∃ (r0 : Int), E0 (.int .i64 r0) /\
 cond (decide (r0 < 0))
 (k0 (IntKind.wrap .i64 ((IntKind.wrap .i64 (bShr .u64 (IntKind.wrap .u64 (IntKind.wrap .i64 (i0 + j0))) 1)) + 1)) j0 w1)
 (k0 i0 (IntKind.wrap .i64 (bShr .u64 (IntKind.wrap .u64 (IntKind.wrap .i64 (i0 + j0))) 1)) w1))
 (cond (decide (i0 < (Nat.cast x0l : Int)))
 (IdxC x0p x0l i0 2 fun a1 =>
 LdI .u64 w0 a1 fun n2 =>
 LdI .u64 w0 (Addr.add a1 1) fun n3 =>
 FnQ Tryz.prog cmp0f ((#[] ++ #[.agg #[.int .u64 n2, .int .u64 n3], .string target0]) ++ cmp0c) w0 fun E1 w3 =>
 ∃ (r1 : Int), E1 (.int .i64 r1) /\
 R (.returned (.tuple #[.int .i64 i0, .bool (r1 == 0)])) w3)
 (R (.returned (.tuple #[.int .i64 i0, .bool false])) w0))
def S_slices_BinarySearchFunc_tree_pair_tree_pair_string (x0p : Option Addr) (x0l : Nat) (x0c : Nat) (target0 : ByteArray) (cmp0f : Nat) (cmp0c : Array Value) (w : World) (R : Ending -> World -> Prop) : Prop :=
 ∃ (I0 : Int -> Int -> World -> Prop) (M0 : Int -> Int -> World -> Nat), I0 0 (Nat.cast x0l : Int) w /\
 ∀ (i0 : Int) (j0 : Int) (w0 : World), I0 i0 j0 w0 ->
 S_slices_BinarySearchFunc_tree_pair_tree_pair_string_l0 x0p x0l target0 cmp0f cmp0c R i0 j0 w0 I0 M0
def S_slices_BinarySearchFunc_tree_pair_tree_pair_string_ann : Ann := (.seq .leaf (.seq .leaf (.seq .leaf (.seq (.block (.loop [0, 1, 2, 8] [(9, (.int .i64)), (10, (.int .i64))] (.seq .leaf (.jblock [0, 1, 2, 8] [(9, (.int .i64)), (10, (.int .i64))] .leaf .leaf)))) .leaf))))
theorem S_slices_BinarySearchFunc_tree_pair_tree_pair_string_ok (x0p : Option Addr) (x0l : Nat) (x0c : Nat) (target0 : ByteArray) (cmp0f : Nat) (cmp0c : Array Value) (w : World) (R : Ending -> World -> Prop) (h : S_slices_BinarySearchFunc_tree_pair_tree_pair_string x0p x0l x0c target0 cmp0f cmp0c w R) : Calls Tryz.prog 106 #[.slice x0p x0l x0c, .string target0, .func (.func cmp0f) #[] cmp0c] w R :=
 calls_of_X (c := bodyOf Tryz.f106) (an := S_slices_BinarySearchFunc_tree_pair_tree_pair_string_ann) wide_ok Tryz.func106 (by kernel_rfl) (by kernel_rfl) (cast (by kernel_rfl) h)
def S_tree_tree_at_1 (p0 : Int) (p1 : Int) (key0 : ByteArray) (fv0 : Addr) (w : World) (R : Ending -> World -> Prop) : Prop :=
 NewC (.cells #[.int .u64 p0, .int .u64 p1] 96 (0, 0)) w fun b0 w0 =>
 LdP w0 fv0 fun p2 =>
 LdI .u64 w0 (Addr.add fv0 1) fun n0 =>
 LdI .u64 w0 (⟨b0, 0, none⟩) fun n1 =>
 Calls Tryz.prog 58 #[.agg #[.pointer p2, .int .u64 n0], .int .u64 n1] w0 fun e0 w1 =>
 ∃ (r0 : ByteArray), e0 = .returned (.string r0) /\
 Calls Tryz.prog 108 #[.string r0, .string key0] w1 fun e1 w2 =>
 ∃ (r1 : Int), e1 = .returned (.int .i64 r1) /\
 R (.returned (.int .i64 r1)) w2
def S_tree_tree_at_1_ann : Ann := .leaf
theorem S_tree_tree_at_1_ok (p0 : Int) (p1 : Int) (key0 : ByteArray) (fv0 : Addr) (w : World) (R : Ending -> World -> Prop) (h : S_tree_tree_at_1 p0 p1 key0 fv0 w R) : Calls Tryz.prog 107 #[.agg #[.int .u64 p0, .int .u64 p1], .string key0, .pointer (some fv0)] w R :=
 calls_of_X (c := bodyOf Tryz.f107) (an := S_tree_tree_at_1_ann) wide_ok Tryz.func107 (by kernel_rfl) (by kernel_rfl) (cast (by kernel_rfl) h)
def S_strings_Compare (a0 : ByteArray) (b0 : ByteArray) (w : World) (R : Ending -> World -> Prop) : Prop :=
 Calls Tryz.prog 142 #[.string a0, .string b0] w fun e0 w0 =>
 ∃ (r0 : Int), e0 = .returned (.int .i64 r0) /\
 R (.returned (.int .i64 r0)) w0
def S_strings_Compare_ann : Ann := .leaf
theorem S_strings_Compare_ok (a0 : ByteArray) (b0 : ByteArray) (w : World) (R : Ending -> World -> Prop) (h : S_strings_Compare a0 b0 w R) : Calls Tryz.prog 108 #[.string a0, .string b0] w R :=
 calls_of_X (c := bodyOf Tryz.f108) (an := S_strings_Compare_ann) wide_ok Tryz.func108 (by kernel_rfl) (by kernel_rfl) (cast (by kernel_rfl) h)
def S_tree_right (e0 : Int) (w : World) (R : Ending -> World -> Prop) : Prop :=
 Calls Tryz.prog 47 #[.bool (e0 == 0), .int .i64 4] w fun e1 w0 =>
 e1 = .returned (.tuple #[]) /\
 R (.returned (.tuple #[])) w0
def S_tree_right_ann : Ann := .leaf
theorem S_tree_right_ok (e0 : Int) (w : World) (R : Ending -> World -> Prop) (h : S_tree_right e0 w R) : Calls Tryz.prog 109 #[.int .i64 e0] w R :=
 calls_of_X (c := bodyOf Tryz.f109) (an := S_tree_right_ann) wide_ok Tryz.func109 (by kernel_rfl) (by kernel_rfl) (cast (by kernel_rfl) h)
def S_doc_Unpacked_l0 (out0p : Option Addr) (out0l : Nat) (out0c : Nat) (n2 : Int) (w1 : World) (I0 : Option Addr -> Nat -> Nat -> Int -> World -> Prop) (M0 : Option Addr -> Nat -> Nat -> Int -> World -> Nat) (n3 : Int) (out1p : Option Addr) (out1l : Nat) (out1c : Nat) (n4 : Int) (w2 : World) (I1 : Option Addr -> Nat -> Nat -> Int -> World -> Prop) (M1 : Option Addr -> Nat -> Nat -> Int -> World -> Nat) : Prop :=
 cond (decide (n4 < 8))
 (ShC (IntKind.wrap .i64 (8 * n4))
 (NewC (.cells #[.int .u8 (IntKind.wrap .u8 (bShr .u64 n3 (IntKind.wrap .i64 (8 * n4))))] 5 (0, 0)) w2 fun b0 w3 =>
 RunS Tryz.prog (Builtin.append_ #[28, 28] 28 #[.slice out1p out1l out1c, .slice (some (⟨b0, 0, none⟩)) 1 1]) w3 fun s2p s2l s2c w4 =>
 I1 s2p s2l s2c (IntKind.wrap .i64 (n4 + 1)) w4 /\ M1 s2p s2l s2c (IntKind.wrap .i64 (n4 + 1)) w4 < M1 out1p out1l out1c n4 w2))
 (I0 out1p out1l out1c (IntKind.wrap .i64 (n2 + 1)) w2 /\ M0 out1p out1l out1c (IntKind.wrap .i64 (n2 + 1)) w2 < M0 out0p out0l out0c n2 w1)
def S_doc_Unpacked_l1 (R : Ending -> World -> Prop) (out0p : Option Addr) (out0c : Nat) (n5 : Int) (s3p : Option Addr) (s3l : Nat) (n6 : Int) (w5 : World) (I2 : Int -> World -> Prop) (M2 : Int -> World -> Nat) : Prop :=
 cond (decide (n6 < (Nat.cast s3l : Int)))
 (IdxC s3p s3l n6 1 fun a4 =>
 LdI .u8 w5 a4 fun n7 =>
 cond (n7 != 0)
 (R (.returned (.tuple #[.string (⟨#[]⟩ : ByteArray), .bool false])) w5)
 (I2 (IntKind.wrap .i64 (n6 + 1)) w5 /\ M2 (IntKind.wrap .i64 (n6 + 1)) w5 < M2 n6 w5))
 (SlC out0p out0c 0 (IntKind.wrap .i64 n5) (Nat.cast out0c : Int) 1 fun s4p s4l s4c =>
 RunStr Tryz.prog (convert 28 9 (.slice s4p s4l s4c)) w5 fun t0 =>
 R (.returned (.tuple #[.string t0, .bool true])) w5)
def S_doc_Unpacked_l2 (l0p : Option Addr) (l0l : Nat) (R : Ending -> World -> Prop) (s1p : Option Addr) (s1l : Nat) (out0p : Option Addr) (out0l : Nat) (out0c : Nat) (n2 : Int) (w1 : World) (I0 : Option Addr -> Nat -> Nat -> Int -> World -> Prop) (M0 : Option Addr -> Nat -> Nat -> Int -> World -> Nat) : Prop :=
 cond (decide (n2 < (Nat.cast s1l : Int)))
 (IdxC s1p s1l n2 1 fun a2 =>
 LdI .u64 w1 a2 fun n3 =>
 ∃ (I1 : Option Addr -> Nat -> Nat -> Int -> World -> Prop) (M1 : Option Addr -> Nat -> Nat -> Int -> World -> Nat), I1 out0p out0l out0c 0 w1 /\
 ∀ (out1p : Option Addr) (out1l : Nat) (out1c : Nat) (n4 : Int) (w2 : World), I1 out1p out1l out1c n4 w2 ->
 S_doc_Unpacked_l0 out0p out0l out0c n2 w1 I0 M0 n3 out1p out1l out1c n4 w2 I1 M1)
 (IdxC l0p l0l 0 1 fun a3 =>
 LdI .u64 w1 a3 fun n5 =>
 SlC out0p out0c (IntKind.wrap .i64 n5) (Nat.cast out0l : Int) (Nat.cast out0c : Int) 1 fun s3p s3l _ =>
 ∃ (I2 : Int -> World -> Prop) (M2 : Int -> World -> Nat), I2 0 w1 /\
 ∀ (n6 : Int) (w5 : World), I2 n6 w5 ->
 S_doc_Unpacked_l1 R out0p out0c n5 s3p s3l n6 w5 I2 M2)
def S_doc_Unpacked (l0p : Option Addr) (l0l : Nat) (l0c : Nat) (w : World) (R : Ending -> World -> Prop) : Prop :=
 cond ((Nat.cast l0l : Int) == 0)
 (R (.returned (.tuple #[.string (⟨#[]⟩ : ByteArray), .bool false])) w)
 (IdxC l0p l0l 0 1 fun a0 =>
 LdI .u64 w a0 fun n0 =>
 cond (decide (n0 > (IntKind.wrap .u64 (8 * (IntKind.wrap .u64 (IntKind.wrap .i64 ((Nat.cast l0l : Int) - 1)))))))
 (R (.returned (.tuple #[.string (⟨#[]⟩ : ByteArray), .bool false])) w)
 (IdxC l0p l0l 0 1 fun a1 =>
 LdI .u64 w a1 fun n1 =>
 cond (decide ((IntKind.wrap .u64 (n1 + 8)) <= (IntKind.wrap .u64 (8 * (IntKind.wrap .u64 (IntKind.wrap .i64 ((Nat.cast l0l : Int) - 1)))))))
 (R (.returned (.tuple #[.string (⟨#[]⟩ : ByteArray), .bool false])) w)
 (RunS Tryz.prog (Instr.makeSlice 28 (.int .i64 0) (.int .i64 (IntKind.wrap .i64 (8 * (Nat.cast l0l : Int))))) w fun s0p s0l s0c w0 =>
 SlC l0p l0c 1 (Nat.cast l0l : Int) (Nat.cast l0c : Int) 1 fun s1p s1l _ =>
 ∃ (I0 : Option Addr -> Nat -> Nat -> Int -> World -> Prop) (M0 : Option Addr -> Nat -> Nat -> Int -> World -> Nat), I0 s0p s0l s0c 0 w0 /\
 ∀ (out0p : Option Addr) (out0l : Nat) (out0c : Nat) (n2 : Int) (w1 : World), I0 out0p out0l out0c n2 w1 ->
 S_doc_Unpacked_l2 l0p l0l R s1p s1l out0p out0l out0c n2 w1 I0 M0)))
def S_doc_Unpacked_ann : Ann := (.seq .leaf (.seq .leaf (.seq .leaf (.seq (.seq .leaf (.block (.loop [0, 42, 43] [(4, .slice), (44, (.int .i64))] (.seq .leaf (.seq .leaf (.seq (.block (.seq .leaf (.seq .leaf (.block (.loop [0, 6, 42, 43, 44] [(4, .slice), (48, (.int .i64))] .leaf))))) .leaf)))))) (.seq .leaf (.seq (.seq .leaf (.block (.loop [4, 8, 67, 68] [(69, (.int .i64))] .leaf))) .leaf))))))
theorem S_doc_Unpacked_ok (l0p : Option Addr) (l0l : Nat) (l0c : Nat) (w : World) (R : Ending -> World -> Prop) (h : S_doc_Unpacked l0p l0l l0c w R) : Calls Tryz.prog 111 #[.slice l0p l0l l0c] w R :=
 calls_of_X (c := bodyOf Tryz.f111) (an := S_doc_Unpacked_ann) wide_ok Tryz.func111 (by kernel_rfl) (by kernel_rfl) (cast (by kernel_rfl) h)
def S_tree_Whole_j0 (R : Ending -> World -> Prop) (b0 : Nat) (b1 : Nat) (b4 : Nat) (w18 : World) : Prop :=
 ∃ C0 : World -> Prop, C0 (World.drew w18) /\
 LdIQ .i64 C0 (Addr.add (⟨b4, 0, none⟩) 4) fun n8 =>
 ∃ (p5 : Option Addr), ∃ (n9 : Int), (∀ (w19 : World), C0 w19 ->
 LdP w19 (⟨b1, 0, none⟩) fun p6 =>
 LdI .u64 w19 (Addr.add (⟨b1, 0, none⟩) 1) fun n10 =>
 Value.agg #[.pointer p6, .int .u64 n10] = .agg #[.pointer p5, .int .u64 n9]) /\
 Calls Tryz.prog 51 #[.agg #[.pointer p5, .int .u64 n9]] (World.drew w18) fun e9 w21 =>
 ∃ (r7 : Int), e9 = .returned (.int .i64 r7) /\
 ∃ C1 : World -> Prop, (∀ (w20 : World), C1 w20 -> C0 w20) /\ C1 w21 /\
 Calls Tryz.prog 47 #[.bool (n8 == r7), .int .i64 4] w21 fun e10 w23 =>
 e10 = .returned (.tuple #[]) /\
 ∃ C2 : World -> Prop, (∀ (w22 : World), C2 w22 -> C1 w22) /\ C2 w23 /\
 StC w23 (⟨b0, 0, none⟩) (.int .i64 0) fun w24 =>
 LdI .i64 w24 (⟨b0, 0, none⟩) fun n11 =>
 R (.returned (.int .i64 n11)) w24
def S_tree_Whole (h0 : Option Addr) (t0 : Int) (met0 : Option Nat) (w : World) (R : Ending -> World -> Prop) : Prop :=
 NewC (.cells #[.int .i64 0] 31 (0, 0)) w fun b0 w0 =>
 Calls Tryz.prog 40 #[.pointer h0, .int .u64 t0, .slice none 0 0] w0 fun e0 w1 =>
 ∃ (r0 : Option Addr), ∃ (r1 : Int), ∃ (r2 : Int), e0 = .returned (.tuple #[.agg #[.pointer r0, .int .u64 r1], .int .i64 r2]) /\
 NewC (.cells #[.pointer none, .int .u64 0] 73 (0, 0)) w1 fun b1 w2 =>
 StC w2 (⟨b1, 0, none⟩) (.pointer r0) fun w3 =>
 StC w3 (Addr.add (⟨b1, 0, none⟩) 1) (.int .u64 r1) fun w4 =>
 StC w4 (⟨b0, 0, none⟩) (.int .i64 r2) fun w5 =>
 LdI .i64 w5 (⟨b0, 0, none⟩) fun n0 =>
 cond (n0 != 0)
 (LdI .i64 w5 (⟨b0, 0, none⟩) fun n1 =>
 StC w5 (⟨b0, 0, none⟩) (.int .i64 n1) fun w6 =>
 LdI .i64 w6 (⟨b0, 0, none⟩) fun n2 =>
 R (.returned (.int .i64 n2)) w6)
 (∃ (b2 : Bool), (Instr.lookup 160 (.map met0) (.int .u64 t0) true).run Tryz.prog w5 = .ok (.tuple #[.agg #[], .bool b2]) w5 /\
 NewC (.cells #[] 189 (0, 0)) w5 fun _ w7 =>
 Calls Tryz.prog 47 #[.bool (!b2), .int .i64 4] w7 fun e1 w8 =>
 e1 = .returned (.tuple #[]) /\
 RunN Tryz.prog (Instr.mapUpdate 160 (.map met0) (.int .u64 t0) (.agg #[])) w8 fun w9 =>
 LdP w9 (⟨b1, 0, none⟩) fun p0 =>
 LdI .u64 w9 (Addr.add (⟨b1, 0, none⟩) 1) fun n3 =>
 NewC (.cells #[.pointer p0, .int .u64 n3, .map met0, .string (⟨#[]⟩ : ByteArray), .int .i64 0] 193 (0, 0)) w9 fun b4 w10 =>
 ∀ k0 : World -> Prop,
 (∀ (w18 : World), S_tree_Whole_j0 R b0 b1 b4 w18 -> k0 w18) ->
 LdP w10 (⟨b1, 0, none⟩) fun p1 =>
 LdI .u64 w10 (Addr.add (⟨b1, 0, none⟩) 1) fun n4 =>
 Calls Tryz.prog 93 #[.agg #[.pointer p1, .int .u64 n4]] w10 fun e2 w11 =>
 ∃ (r3 : Int), e2 = .returned (.int .u64 r3) /\
 cond (r3 != 0)
 (LdP w11 (⟨b1, 0, none⟩) fun p2 =>
 LdI .u64 w11 (Addr.add (⟨b1, 0, none⟩) 1) fun n5 =>
 Calls Tryz.prog 94 #[.agg #[.pointer p2, .int .u64 n5]] w11 fun e3 w12 =>
 ∃ (r4 : Int), e3 = .returned (.int .i64 r4) /\
 Calls Tryz.prog 47 #[.bool (decide (r4 > 0)), .int .i64 4] w12 fun e4 w13 =>
 e4 = .returned (.tuple #[]) /\
 LdP w13 (⟨b1, 0, none⟩) fun p3 =>
 LdI .u64 w13 (Addr.add (⟨b1, 0, none⟩) 1) fun n6 =>
 Calls Tryz.prog 94 #[.agg #[.pointer p3, .int .u64 n6]] w13 fun e5 w14 =>
 ∃ (r5 : Int), e5 = .returned (.int .i64 r5) /\
 Calls Tryz.prog 144 #[.pointer (some (⟨b4, 0, none⟩)), .int .u64 r3, .int .i64 r5] w14 fun e6 w15 =>
 e6 = .returned (.tuple #[]) /\
 k0 w15)
 (LdP w11 (⟨b1, 0, none⟩) fun p4 =>
 LdI .u64 w11 (Addr.add (⟨b1, 0, none⟩) 1) fun n7 =>
 Calls Tryz.prog 94 #[.agg #[.pointer p4, .int .u64 n7]] w11 fun e7 w16 =>
 ∃ (r6 : Int), e7 = .returned (.int .i64 r6) /\
 Calls Tryz.prog 47 #[.bool (r6 == 0), .int .i64 4] w16 fun e8 w17 =>
 e8 = .returned (.tuple #[]) /\
 k0 w17))
def S_tree_Whole_anl : List Ann := [.leaf, .leaf, .leaf, (.seq .leaf (.seq .leaf (.seq .leaf (.seq .leaf (.join [6, 7, 10] [] .leaf (.seq .anys .leaf))))))]
theorem S_tree_Whole_ok (h0 : Option Addr) (t0 : Int) (met0 : Option Nat) (w : World) (R : Ending -> World -> Prop) (h : S_tree_Whole h0 t0 met0 w R) : Calls Tryz.prog 112 #[.pointer h0, .int .u64 t0, .map met0] w R :=
 calls_of_XD (c := bodyOf Tryz.f112) (ans := S_tree_Whole_anl) wide_ok (idle_of Tryz.func143 (by kernel_rfl) (by kernel_rfl)) Tryz.func112 (by kernel_rfl) (by kernel_rfl) (cast (by kernel_rfl) h)
def S_mark_Marker_Linked (m0 : Option Addr) (x0 : Int) (w : World) (R : Ending -> World -> Prop) : Prop :=
 Calls Tryz.prog 145 #[.pointer m0, .int .u64 x0] w fun e0 w0 =>
 ∃ (r0 : Bool), ∃ (r1 : Int), e0 = .returned (.tuple #[.bool r0, .int .i64 r1]) /\
 cond (r1 == 0)
 (cond (!r0)
 (Calls Tryz.prog 146 #[.pointer m0, .int .u64 x0, .bool true] w0 fun e1 w1 =>
 e1 = .returned (.tuple #[]) /\
 onSome m0 fun a0 =>
 LdS w1 (Addr.add a0 1) fun s0p s0l s0c =>
 NewC (.cells #[.int .u64 x0] 32 (0, 0)) w1 fun b0 w2 =>
 RunS Tryz.prog (Builtin.append_ #[25, 25] 25 #[.slice s0p s0l s0c, .slice (some (⟨b0, 0, none⟩)) 1 1]) w2 fun s1p s1l s1c w3 =>
 onSome m0 fun a1 =>
 StC w3 (Addr.add a1 1) (.slice s1p s1l s1c) fun w4 =>
 R (.returned (.tuple #[])) w4)
 (R (.returned (.tuple #[])) w0))
 (R (.returned (.tuple #[])) w0)
def S_mark_Marker_Linked_ann : Ann := .leaf
theorem S_mark_Marker_Linked_ok (m0 : Option Addr) (x0 : Int) (w : World) (R : Ending -> World -> Prop) (h : S_mark_Marker_Linked m0 x0 w R) : Calls Tryz.prog 115 #[.pointer m0, .int .u64 x0] w R :=
 calls_of_X (c := bodyOf Tryz.f115) (an := S_mark_Marker_Linked_ann) wide_ok Tryz.func115 (by kernel_rfl) (by kernel_rfl) (cast (by kernel_rfl) h)
def S_mark_Marker_unit_l0 (m0 : Option Addr) (R : Ending -> World -> Prop) (n0 : Int) (r1 : Int) (n1 : Int) (w2 : World) (I0 : Int -> World -> Prop) (M0 : Int -> World -> Nat) : Prop :=
 cond (decide (n1 < r1))
 (onSome m0 fun a7 =>
 LdP w2 a7 fun p1 =>
 Calls Tryz.prog 83 #[.pointer p1, .int .u64 n0, .int .i64 n1] w2 fun e1 w3 =>
 ∃ (r4 : Int), ∃ (r5 : Int), e1 = .returned (.tuple #[.int .u64 r4, .int .i64 r5]) /\
 Calls Tryz.prog 115 #[.pointer m0, .int .u64 r4] w3 fun e2 w4 =>
 e2 = .returned (.tuple #[]) /\
 I0 (IntKind.wrap .i64 (n1 + 1)) w4 /\ M0 (IntKind.wrap .i64 (n1 + 1)) w4 < M0 n1 w2)
 (R (.returned (.tuple #[])) w2)
def S_mark_Marker_unit (m0 : Option Addr) (w : World) (R : Ending -> World -> Prop) : Prop :=
 onSome m0 fun a0 =>
 LdS (World.drew w) (Addr.add a0 1) fun s0p s0l _ =>
 onSome m0 fun a1 =>
 LdS (World.drew w) (Addr.add a1 1) fun _ s1l _ =>
 IdxC s0p s0l (IntKind.wrap .i64 ((Nat.cast s1l : Int) - 1)) 1 fun a2 =>
 LdI .u64 (World.drew w) a2 fun n0 =>
 onSome m0 fun a3 =>
 LdS (World.drew (World.drew w)) (Addr.add a3 1) fun s2p _ s2c =>
 onSome m0 fun a4 =>
 LdS (World.drew (World.drew w)) (Addr.add a4 1) fun _ s3l _ =>
 SlC s2p s2c 0 (IntKind.wrap .i64 ((Nat.cast s3l : Int) - 1)) (Nat.cast s2c : Int) 1 fun s4p s4l s4c =>
 onSome m0 fun a5 =>
 StC (World.drew (World.drew w)) (Addr.add a5 1) (.slice s4p s4l s4c) fun w0 =>
 onSome m0 fun a6 =>
 LdP w0 a6 fun p0 =>
 Calls Tryz.prog 82 #[.pointer p0, .int .u64 n0] w0 fun e0 w1 =>
 ∃ (r0 : Int), ∃ (r1 : Int), ∃ (r2 : Int), ∃ (r3 : Int), e0 = .returned (.tuple #[.int .i64 r0, .int .i64 r1, .int .i64 r2, .int .i64 r3]) /\
 ∃ (I0 : Int -> World -> Prop) (M0 : Int -> World -> Nat), I0 0 w1 /\
 ∀ (n1 : Int) (w2 : World), I0 n1 w2 ->
 S_mark_Marker_unit_l0 m0 R n0 r1 n1 w2 I0 M0
def S_mark_Marker_unit_ann : Ann := (.seq (.draw 13) (.seq (.draw 14) (.seq .leaf (.seq .leaf (.block (.loop [0, 2, 47] [(48, (.int .i64))] .leaf))))))
theorem S_mark_Marker_unit_ok (m0 : Option Addr) (w : World) (R : Ending -> World -> Prop) (h : S_mark_Marker_unit m0 w R) : Calls Tryz.prog 116 #[.pointer m0] w R :=
 calls_of_X (c := bodyOf Tryz.f116) (an := S_mark_Marker_unit_ann) wide_ok Tryz.func116 (by kernel_rfl) (by kernel_rfl) (cast (by kernel_rfl) h)
def S_tree_tree_ref (t0 : Option Addr) (t1 : Int) (x0 : Int) (i0 : Int) (w : World) (R : Ending -> World -> Prop) : Prop :=
 NewC (.cells #[.pointer t0, .int .u64 t1] 73 (0, 0)) w fun b0 w0 =>
 LdP w0 (⟨b0, 0, none⟩) fun p0 =>
 Calls Tryz.prog 83 #[.pointer p0, .int .u64 x0, .int .i64 i0] w0 fun e0 w1 =>
 ∃ (r0 : Int), ∃ (r1 : Int), e0 = .returned (.tuple #[.int .u64 r0, .int .i64 r1]) /\
 Calls Tryz.prog 109 #[.int .i64 r1] w1 fun e1 w2 =>
 e1 = .returned (.tuple #[]) /\
 R (.returned (.int .u64 r0)) w2
def S_tree_tree_ref_ann : Ann := .leaf
theorem S_tree_tree_ref_ok (t0 : Option Addr) (t1 : Int) (x0 : Int) (i0 : Int) (w : World) (R : Ending -> World -> Prop) (h : S_tree_tree_ref t0 t1 x0 i0 w R) : Calls Tryz.prog 135 #[.agg #[.pointer t0, .int .u64 t1], .int .u64 x0, .int .i64 i0] w R :=
 calls_of_X (c := bodyOf Tryz.f135) (an := S_tree_tree_ref_ann) wide_ok Tryz.func135 (by kernel_rfl) (by kernel_rfl) (cast (by kernel_rfl) h)
def S_tree_tree_topped_j0 (R : Ending -> World -> Prop) (w13 : World) : Prop :=
 R (.returned (.tuple #[])) w13
def S_tree_tree_topped (t0 : Option Addr) (t1 : Int) (x0 : Int) (l0p : Option Addr) (l0l : Nat) (l0c : Nat) (inner0 : Bool) (w : World) (R : Ending -> World -> Prop) : Prop :=
 NewC (.cells #[.pointer t0, .int .u64 t1] 73 (0, 0)) w fun b0 w0 =>
 ∀ k0 : World -> Prop,
 (∀ (w13 : World), S_tree_tree_topped_j0 R w13 -> k0 w13) ->
 cond ((Nat.cast l0l : Int) == 0)
 (∃ C0 : World -> Prop, C0 (World.drew w0) /\
 ∃ (p0 : Option Addr), ∃ (n0 : Int), (∀ (w1 : World), C0 w1 ->
 LdP w1 (⟨b0, 0, none⟩) fun p1 =>
 LdI .u64 w1 (Addr.add (⟨b0, 0, none⟩) 1) fun n1 =>
 Value.agg #[.pointer p1, .int .u64 n1] = .agg #[.pointer p0, .int .u64 n0]) /\
 ∃ (p2 : Option Addr), ∃ (n2 : Int), (∀ (w2 : World), C0 w2 ->
 LdP w2 (⟨b0, 0, none⟩) fun p3 =>
 LdI .u64 w2 (Addr.add (⟨b0, 0, none⟩) 1) fun n3 =>
 Value.agg #[.pointer p3, .int .u64 n3] = .agg #[.pointer p2, .int .u64 n2]) /\
 Calls Tryz.prog 51 #[.agg #[.pointer p2, .int .u64 n2]] (World.drew w0) fun e0 w3 =>
 ∃ (r0 : Int), e0 = .returned (.int .i64 r0) /\
 C0 w3 /\
 Calls Tryz.prog 92 #[.agg #[.pointer p0, .int .u64 n0], .int .u64 0, .int .i64 r0, .int .i64 0] w3 fun e1 w4 =>
 e1 = .returned (.tuple #[]) /\
 C0 w4 /\
 k0 w4)
 (cond inner0
 (cond ((Nat.cast l0l : Int) == 1)
 (∃ C1 : World -> Prop, C1 (World.drew w0) /\
 ∃ (p4 : Option Addr), ∃ (n4 : Int), (∀ (w5 : World), C1 w5 ->
 LdP w5 (⟨b0, 0, none⟩) fun p5 =>
 LdI .u64 w5 (Addr.add (⟨b0, 0, none⟩) 1) fun n5 =>
 Value.agg #[.pointer p5, .int .u64 n5] = .agg #[.pointer p4, .int .u64 n4]) /\
 IdxC l0p l0l 0 2 fun a0 =>
 LdIQ .u64 C1 (Addr.add a0 1) fun n6 =>
 ∃ (p6 : Option Addr), ∃ (n7 : Int), (∀ (w6 : World), C1 w6 ->
 LdP w6 (⟨b0, 0, none⟩) fun p7 =>
 LdI .u64 w6 (Addr.add (⟨b0, 0, none⟩) 1) fun n8 =>
 Value.agg #[.pointer p7, .int .u64 n8] = .agg #[.pointer p6, .int .u64 n7]) /\
 ∃ (p8 : Option Addr), ∃ (n9 : Int), (∀ (w7 : World), C1 w7 ->
 LdP w7 (⟨b0, 0, none⟩) fun p9 =>
 LdI .u64 w7 (Addr.add (⟨b0, 0, none⟩) 1) fun n10 =>
 Value.agg #[.pointer p9, .int .u64 n10] = .agg #[.pointer p8, .int .u64 n9]) /\
 Calls Tryz.prog 51 #[.agg #[.pointer p6, .int .u64 n7]] (World.drew w0) fun e2 w8 =>
 ∃ (r1 : Int), e2 = .returned (.int .i64 r1) /\
 C1 w8 /\
 Calls Tryz.prog 94 #[.agg #[.pointer p8, .int .u64 n9]] w8 fun e3 w9 =>
 ∃ (r2 : Int), e3 = .returned (.int .i64 r2) /\
 C1 w9 /\
 Calls Tryz.prog 92 #[.agg #[.pointer p4, .int .u64 n4], .int .u64 n6, .int .i64 r1, .int .i64 (IntKind.wrap .i64 (r2 - 1))] w9 fun e4 w10 =>
 e4 = .returned (.tuple #[]) /\
 C1 w10 /\
 k0 w10)
 (LdP w0 (⟨b0, 0, none⟩) fun p10 =>
 LdI .u64 w0 (Addr.add (⟨b0, 0, none⟩) 1) fun n11 =>
 Calls Tryz.prog 101 #[.agg #[.pointer p10, .int .u64 n11], .int .u64 x0, .slice l0p l0l l0c] w0 fun e5 w11 =>
 e5 = .returned (.tuple #[]) /\
 k0 w11))
 (LdP w0 (⟨b0, 0, none⟩) fun p11 =>
 LdI .u64 w0 (Addr.add (⟨b0, 0, none⟩) 1) fun n12 =>
 Calls Tryz.prog 101 #[.agg #[.pointer p11, .int .u64 n12], .int .u64 x0, .slice l0p l0l l0c] w0 fun e6 w12 =>
 e6 = .returned (.tuple #[]) /\
 k0 w12))
def S_tree_tree_topped_ann : Ann := (.seq .leaf (.jblock [] [] (.seq .leaf (.cond .anyl (.seq .leaf (.cond .anyl .leaf)))) .leaf))
theorem S_tree_tree_topped_ok (t0 : Option Addr) (t1 : Int) (x0 : Int) (l0p : Option Addr) (l0l : Nat) (l0c : Nat) (inner0 : Bool) (w : World) (R : Ending -> World -> Prop) (h : S_tree_tree_topped t0 t1 x0 l0p l0l l0c inner0 w R) : Calls Tryz.prog 136 #[.agg #[.pointer t0, .int .u64 t1], .int .u64 x0, .slice l0p l0l l0c, .bool inner0] w R :=
 calls_of_X (c := bodyOf Tryz.f136) (an := S_tree_tree_topped_ann) wide_ok Tryz.func136 (by kernel_rfl) (by kernel_rfl) (cast (by kernel_rfl) h)
def S_tree_tree_first_l0 (way0p : Option Addr) (way0l : Nat) (k0 : Int) (R : Ending -> World -> Prop) (b0 : Nat) (i0 : Int) (w1 : World) (I0 : Int -> World -> Prop) (M0 : Int -> World -> Nat) : Prop :=
 cond (decide (i0 ≥ 0))
 (IdxC way0p way0l i0 3 fun a0 =>
 LdI .u64 w1 a0 fun n0 =>
 LdS w1 (Addr.add a0 1) fun s0p s0l s0c =>
 LdI .i64 w1 (Addr.add a0 2) fun n1 =>
 NewC (.cells #[.int .u64 0, .slice none 0 0, .int .i64 0] 152 (0, 0)) w1 fun b1 w2 =>
 StC w2 (⟨b1, 0, none⟩) (.int .u64 n0) fun w3 =>
 StC w3 (Addr.add (⟨b1, 0, none⟩) 1) (.slice s0p s0l s0c) fun w4 =>
 StC w4 (Addr.add (⟨b1, 0, none⟩) 2) (.int .i64 n1) fun w5 =>
 LdS w5 (Addr.add (⟨b1, 0, none⟩) 1) fun s1p s1l _ =>
 LdI .i64 w5 (Addr.add (⟨b1, 0, none⟩) 2) fun n2 =>
 IdxC s1p s1l n2 2 fun a1 =>
 LdI .u64 w5 a1 fun n3 =>
 cond (n3 == k0)
 (R (.returned (.tuple #[])) w5)
 (LdS w5 (Addr.add (⟨b1, 0, none⟩) 1) fun s2p s2l _ =>
 LdI .i64 w5 (Addr.add (⟨b1, 0, none⟩) 2) fun n4 =>
 IdxC s2p s2l n4 2 fun a2 =>
 StC w5 a2 (.int .u64 k0) fun w6 =>
 LdP w6 (⟨b0, 0, none⟩) fun p0 =>
 LdI .u64 w6 (Addr.add (⟨b0, 0, none⟩) 1) fun n5 =>
 LdI .u64 w6 (⟨b1, 0, none⟩) fun n6 =>
 LdS w6 (Addr.add (⟨b1, 0, none⟩) 1) fun s3p s3l s3c =>
 Calls Tryz.prog 101 #[.agg #[.pointer p0, .int .u64 n5], .int .u64 n6, .slice s3p s3l s3c] w6 fun e0 w7 =>
 e0 = .returned (.tuple #[]) /\
 LdI .i64 w7 (Addr.add (⟨b1, 0, none⟩) 2) fun n7 =>
 cond (decide (n7 > 0))
 (R (.returned (.tuple #[])) w7)
 (I0 (IntKind.wrap .i64 (i0 - 1)) w7 /\ M0 (IntKind.wrap .i64 (i0 - 1)) w7 < M0 i0 w1)))
 (R (.returned (.tuple #[])) w1)
def S_tree_tree_first (t0 : Option Addr) (t1 : Int) (way0p : Option Addr) (way0l : Nat) (way0c : Nat) (k0 : Int) (w : World) (R : Ending -> World -> Prop) : Prop :=
 NewC (.cells #[.pointer t0, .int .u64 t1] 73 (0, 0)) w fun b0 w0 =>
 ∃ (I0 : Int -> World -> Prop) (M0 : Int -> World -> Nat), I0 (IntKind.wrap .i64 ((Nat.cast way0l : Int) - 1)) w0 /\
 ∀ (i0 : Int) (w1 : World), I0 i0 w1 ->
 S_tree_tree_first_l0 way0p way0l k0 R b0 i0 w1 I0 M0
def S_tree_tree_first_ann : Ann := (.seq .leaf (.seq .leaf (.block (.loop [1, 2, 3] [(6, (.int .i64))] .leaf))))
theorem S_tree_tree_first_ok (t0 : Option Addr) (t1 : Int) (way0p : Option Addr) (way0l : Nat) (way0c : Nat) (k0 : Int) (w : World) (R : Ending -> World -> Prop) (h : S_tree_tree_first t0 t1 way0p way0l way0c k0 w R) : Calls Tryz.prog 137 #[.agg #[.pointer t0, .int .u64 t1], .slice way0p way0l way0c, .int .u64 k0] w R :=
 calls_of_X (c := bodyOf Tryz.f137) (an := S_tree_tree_first_ann) wide_ok Tryz.func137 (by kernel_rfl) (by kernel_rfl) (cast (by kernel_rfl) h)
def S_slices_Clone_tree_pair_tree_pair (s0p : Option Addr) (s0l : Nat) (s0c : Nat) (w : World) (R : Ending -> World -> Prop) : Prop :=
 cond s0p.isNone
 (R (.returned (.slice none 0 0)) w)
 (NewC (.cells #[] 96 (0, 0)) w fun b0 w0 =>
 RunS Tryz.prog (Builtin.append_ #[86, 86] 86 #[.slice (some (⟨b0, 0, none⟩)) 0 0, .slice s0p s0l s0c]) w0 fun s1p s1l s1c w1 =>
 R (.returned (.slice s1p s1l s1c)) w1)
def S_slices_Clone_tree_pair_tree_pair_ann : Ann := .leaf
theorem S_slices_Clone_tree_pair_tree_pair_ok (s0p : Option Addr) (s0l : Nat) (s0c : Nat) (w : World) (R : Ending -> World -> Prop) (h : S_slices_Clone_tree_pair_tree_pair s0p s0l s0c w R) : Calls Tryz.prog 138 #[.slice s0p s0l s0c] w R :=
 calls_of_X (c := bodyOf Tryz.f138) (an := S_slices_Clone_tree_pair_tree_pair_ann) wide_ok Tryz.func138 (by kernel_rfl) (by kernel_rfl) (cast (by kernel_rfl) h)
def S_doc_Packed_l0 (s0 : ByteArray) (R : Ending -> World -> Prop) (s1p : Option Addr) (s1l : Nat) (s1c : Nat) (n0 : Int) (w3 : World) (I0 : Int -> World -> Prop) (M0 : Int -> World -> Nat) : Prop :=
 cond (decide (n0 < (Nat.cast s0.size : Int)))
 (DivC 8
 (IdxC s1p s1l (IntKind.wrap .i64 (1 + (IntKind.wrap .i64 (Int.tdiv n0 8)))) 1 fun a1 =>
 LdI .u64 (World.drew w3) a1 fun n1 =>
 IdxStr s0 n0 fun n2 =>
 DivC 8
 (ShC (IntKind.wrap .i64 (8 * (Int.tmod n0 8)))
 (IdxC s1p s1l (IntKind.wrap .i64 (1 + (IntKind.wrap .i64 (Int.tdiv n0 8)))) 1 fun a2 =>
 StC (World.drew w3) a2 (.int .u64 (bOr .u64 n1 (bShl .u64 (IntKind.wrap .u64 n2) (IntKind.wrap .i64 (8 * (Int.tmod n0 8)))))) fun w4 =>
 I0 (IntKind.wrap .i64 (n0 + 1)) w4 /\ M0 (IntKind.wrap .i64 (n0 + 1)) w4 < M0 n0 w3))))
 (R (.returned (.slice s1p s1l s1c)) w3)
def S_doc_Packed (s0 : ByteArray) (w : World) (R : Ending -> World -> Prop) : Prop :=
 Calls Tryz.prog 148 #[.string s0] w fun e0 w0 =>
 ∃ (r0 : Int), e0 = .returned (.int .i64 r0) /\
 RunS Tryz.prog (Instr.makeSlice 25 (.int .i64 r0) (.int .i64 r0)) w0 fun s1p s1l s1c w1 =>
 IdxC s1p s1l 0 1 fun a0 =>
 StC w1 a0 (.int .u64 (IntKind.wrap .u64 (Nat.cast s0.size : Int))) fun w2 =>
 ∃ (I0 : Int -> World -> Prop) (M0 : Int -> World -> Nat), I0 0 w2 /\
 ∀ (n0 : Int) (w3 : World), I0 n0 w3 ->
 S_doc_Packed_l0 s0 R s1p s1l s1c n0 w3 I0 M0
def S_doc_Packed_ann : Ann := (.seq .leaf (.seq .leaf (.seq .leaf (.seq (.seq .leaf (.block (.loop [0, 3, 14] [(15, (.int .i64))] (.seq .leaf (.seq .leaf (.seq (.block (.seq .leaf (.draw 16))) .leaf)))))) .leaf))))
theorem S_doc_Packed_ok (s0 : ByteArray) (w : World) (R : Ending -> World -> Prop) (h : S_doc_Packed s0 w R) : Calls Tryz.prog 139 #[.string s0] w R :=
 calls_of_X (c := bodyOf Tryz.f139) (an := S_doc_Packed_ann) wide_ok Tryz.func139 (by kernel_rfl) (by kernel_rfl) (cast (by kernel_rfl) h)
def S_internal_bytealg_CompareString (a0 : ByteArray) (b0 : ByteArray) (w : World) (R : Ending -> World -> Prop) : Prop :=
 ∃ (r0 : Int), (callFunc 150 #[.string a0, .string b0]).run Tryz.prog w = .ok (.value (.int .i64 r0)) w /\
 R (.returned (.int .i64 r0)) w
def S_internal_bytealg_CompareString_ann : Ann := .leaf
theorem S_internal_bytealg_CompareString_ok (a0 : ByteArray) (b0 : ByteArray) (w : World) (R : Ending -> World -> Prop) (h : S_internal_bytealg_CompareString a0 b0 w R) : Calls Tryz.prog 142 #[.string a0, .string b0] w R :=
 calls_of_X (c := bodyOf Tryz.f142) (an := S_internal_bytealg_CompareString_ann) wide_ok Tryz.func142 (by kernel_rfl) (by kernel_rfl) (cast (by kernel_rfl) h)
def S_tree_census_meet_j0 (n1 : Int) (w5 : World) (I0 : Int -> World -> Prop) (M0 : Int -> World -> Nat) (w36 : World) : Prop :=
 I0 (IntKind.wrap .i64 (n1 + 1)) w36 /\ M0 (IntKind.wrap .i64 (n1 + 1)) w36 < M0 n1 w5
def S_tree_census_meet_l0 (c0 : Option Addr) (deep0 : Int) (R : Ending -> World -> Prop) (r0p : Option Addr) (r0l : Nat) (n1 : Int) (w5 : World) (I0 : Int -> World -> Prop) (M0 : Int -> World -> Nat) : Prop :=
 cond (decide (n1 < (Nat.cast r0l : Int)))
 (∀ k0 : World -> Prop,
 (∀ (w36 : World), S_tree_census_meet_j0 n1 w5 I0 M0 w36 -> k0 w36) ->
 IdxC r0p r0l n1 2 fun a3 =>
 LdI .u64 w5 a3 fun n2 =>
 LdI .u64 w5 (Addr.add a3 1) fun n3 =>
 NewC (.cells #[.int .u64 0, .int .u64 0] 96 (0, 0)) w5 fun b2 w6 =>
 StC w6 (⟨b2, 0, none⟩) (.int .u64 n2) fun w7 =>
 StC w7 (Addr.add (⟨b2, 0, none⟩) 1) (.int .u64 n3) fun w8 =>
 onSome c0 fun a4 =>
 LdP (World.drew w8) a4 fun p1 =>
 LdI .u64 (World.drew w8) (Addr.add a4 1) fun n4 =>
 LdI .u64 (World.drew w8) (⟨b2, 0, none⟩) fun n5 =>
 Calls Tryz.prog 58 #[.agg #[.pointer p1, .int .u64 n4], .int .u64 n5] (World.drew w8) fun e3 w9 =>
 ∃ (r1 : ByteArray), e3 = .returned (.string r1) /\
 cond (decide (deep0 > 1))
 (onSome c0 fun a5 =>
 LdI .i64 w9 (Addr.add a5 4) fun n6 =>
 cond (n6 == 0)
 (Calls Tryz.prog 47 #[.bool true, .int .i64 4] w9 fun e4 w10 =>
 e4 = .returned (.tuple #[]) /\
 LdI .u64 w10 (Addr.add (⟨b2, 0, none⟩) 1) fun n7 =>
 Calls Tryz.prog 144 #[.pointer c0, .int .u64 n7, .int .i64 (IntKind.wrap .i64 (deep0 - 1))] w10 fun e5 w11 =>
 e5 = .returned (.tuple #[]) /\
 ∃ C0 : World -> Prop, C0 (World.drew w11) /\
 onSome c0 fun a6 =>
 ∃ (p2 : Option Addr), ∃ (n8 : Int), (∀ (w12 : World), C0 w12 ->
 LdP w12 a6 fun p3 =>
 LdI .u64 w12 (Addr.add a6 1) fun n9 =>
 Value.agg #[.pointer p3, .int .u64 n9] = .agg #[.pointer p2, .int .u64 n8]) /\
 onSome c0 fun a7 =>
 ∃ (p4 : Option Addr), ∃ (n10 : Int), (∀ (w13 : World), C0 w13 ->
 LdP w13 a7 fun p5 =>
 LdI .u64 w13 (Addr.add a7 1) fun n11 =>
 Value.agg #[.pointer p5, .int .u64 n11] = .agg #[.pointer p4, .int .u64 n10]) /\
 LdIQ .u64 C0 (Addr.add (⟨b2, 0, none⟩) 1) fun n12 =>
 Calls Tryz.prog 105 #[.agg #[.pointer p4, .int .u64 n10], .int .u64 n12, .bool (decide (deep0 > 2))] (World.drew w11) fun e6 w15 =>
 ∃ (r2p : Option Addr), ∃ (r2l : Nat), ∃ (r2c : Nat), e6 = .returned (.slice r2p r2l r2c) /\
 ∃ C1 : World -> Prop, (∀ (w14 : World), C1 w14 -> C0 w14) /\ C1 w15 /\
 IdxC r2p r2l 0 2 fun a8 =>
 LdIQ .u64 C1 a8 fun n13 =>
 Calls Tryz.prog 58 #[.agg #[.pointer p2, .int .u64 n8], .int .u64 n13] w15 fun e7 w17 =>
 ∃ (r3 : ByteArray), e7 = .returned (.string r3) /\
 ∃ C2 : World -> Prop, (∀ (w16 : World), C2 w16 -> C1 w16) /\ C2 w17 /\
 Calls Tryz.prog 47 #[.bool (r3.toList == r1.toList), .int .i64 4] w17 fun e8 w19 =>
 e8 = .returned (.tuple #[]) /\
 ∃ C3 : World -> Prop, (∀ (w18 : World), C3 w18 -> C2 w18) /\ C3 w19 /\
 k0 w19)
 (onSome c0 fun a9 =>
 LdStr w9 (Addr.add a9 3) fun t0 =>
 Calls Tryz.prog 47 #[.bool (!((Op.bytesLess r1.toList t0.toList) || (r1.toList == t0.toList))), .int .i64 4] w9 fun e9 w20 =>
 e9 = .returned (.tuple #[]) /\
 LdI .u64 w20 (Addr.add (⟨b2, 0, none⟩) 1) fun n14 =>
 Calls Tryz.prog 144 #[.pointer c0, .int .u64 n14, .int .i64 (IntKind.wrap .i64 (deep0 - 1))] w20 fun e10 w21 =>
 e10 = .returned (.tuple #[]) /\
 ∃ C4 : World -> Prop, C4 (World.drew w21) /\
 onSome c0 fun a10 =>
 ∃ (p6 : Option Addr), ∃ (n15 : Int), (∀ (w22 : World), C4 w22 ->
 LdP w22 a10 fun p7 =>
 LdI .u64 w22 (Addr.add a10 1) fun n16 =>
 Value.agg #[.pointer p7, .int .u64 n16] = .agg #[.pointer p6, .int .u64 n15]) /\
 onSome c0 fun a11 =>
 ∃ (p8 : Option Addr), ∃ (n17 : Int), (∀ (w23 : World), C4 w23 ->
 LdP w23 a11 fun p9 =>
 LdI .u64 w23 (Addr.add a11 1) fun n18 =>
 Value.agg #[.pointer p9, .int .u64 n18] = .agg #[.pointer p8, .int .u64 n17]) /\
 LdIQ .u64 C4 (Addr.add (⟨b2, 0, none⟩) 1) fun n19 =>
 Calls Tryz.prog 105 #[.agg #[.pointer p8, .int .u64 n17], .int .u64 n19, .bool (decide (deep0 > 2))] (World.drew w21) fun e11 w25 =>
 ∃ (r4p : Option Addr), ∃ (r4l : Nat), ∃ (r4c : Nat), e11 = .returned (.slice r4p r4l r4c) /\
 ∃ C5 : World -> Prop, (∀ (w24 : World), C5 w24 -> C4 w24) /\ C5 w25 /\
 IdxC r4p r4l 0 2 fun a12 =>
 LdIQ .u64 C5 a12 fun n20 =>
 Calls Tryz.prog 58 #[.agg #[.pointer p6, .int .u64 n15], .int .u64 n20] w25 fun e12 w27 =>
 ∃ (r5 : ByteArray), e12 = .returned (.string r5) /\
 ∃ C6 : World -> Prop, (∀ (w26 : World), C6 w26 -> C5 w26) /\ C6 w27 /\
 Calls Tryz.prog 47 #[.bool (r5.toList == r1.toList), .int .i64 4] w27 fun e13 w29 =>
 e13 = .returned (.tuple #[]) /\
 ∃ C7 : World -> Prop, (∀ (w28 : World), C7 w28 -> C6 w28) /\ C7 w29 /\
 k0 w29))
 (onSome c0 fun a13 =>
 LdI .i64 w9 (Addr.add a13 4) fun n21 =>
 cond (n21 == 0)
 (Calls Tryz.prog 47 #[.bool true, .int .i64 4] w9 fun e14 w30 =>
 e14 = .returned (.tuple #[]) /\
 onSome c0 fun a14 =>
 StC w30 (Addr.add a14 3) (.string r1) fun w31 =>
 onSome c0 fun a15 =>
 LdI .i64 w31 (Addr.add a15 4) fun n22 =>
 onSome c0 fun a16 =>
 StC w31 (Addr.add a16 4) (.int .i64 (IntKind.wrap .i64 (n22 + 1))) fun w32 =>
 k0 w32)
 (onSome c0 fun a17 =>
 LdStr w9 (Addr.add a17 3) fun t1 =>
 Calls Tryz.prog 47 #[.bool (!((Op.bytesLess r1.toList t1.toList) || (r1.toList == t1.toList))), .int .i64 4] w9 fun e15 w33 =>
 e15 = .returned (.tuple #[]) /\
 onSome c0 fun a18 =>
 StC w33 (Addr.add a18 3) (.string r1) fun w34 =>
 onSome c0 fun a19 =>
 LdI .i64 w34 (Addr.add a19 4) fun n23 =>
 onSome c0 fun a20 =>
 StC w34 (Addr.add a20 4) (.int .i64 (IntKind.wrap .i64 (n23 + 1))) fun w35 =>
 k0 w35)))
 (R (.returned (.tuple #[])) w5)
def S_tree_census_meet (c0 : Option Addr) (x0 : Int) (deep0 : Int) (w : World) (R : Ending -> World -> Prop) : Prop :=
 onSome c0 fun a0 =>
 LdM w (Addr.add a0 2) fun m0 =>
 ∃ (b0 : Bool), (Instr.lookup 160 (.map m0) (.int .u64 x0) true).run Tryz.prog w = .ok (.tuple #[.agg #[], .bool b0]) w /\
 NewC (.cells #[] 189 (0, 0)) w fun _ w0 =>
 Calls Tryz.prog 47 #[.bool (!b0), .int .i64 4] w0 fun e0 w1 =>
 e0 = .returned (.tuple #[]) /\
 onSome c0 fun a1 =>
 LdM w1 (Addr.add a1 2) fun m1 =>
 RunN Tryz.prog (Instr.mapUpdate 160 (.map m1) (.int .u64 x0) (.agg #[])) w1 fun w2 =>
 onSome c0 fun a2 =>
 LdP w2 a2 fun p0 =>
 LdI .u64 w2 (Addr.add a2 1) fun n0 =>
 Calls Tryz.prog 105 #[.agg #[.pointer p0, .int .u64 n0], .int .u64 x0, .bool (decide (deep0 > 1))] w2 fun e1 w3 =>
 ∃ (r0p : Option Addr), ∃ (r0l : Nat), ∃ (r0c : Nat), e1 = .returned (.slice r0p r0l r0c) /\
 Calls Tryz.prog 47 #[.bool (decide ((Nat.cast r0l : Int) > 0)), .int .i64 4] w3 fun e2 w4 =>
 e2 = .returned (.tuple #[]) /\
 ∃ (I0 : Int -> World -> Prop) (M0 : Int -> World -> Nat), I0 0 w4 /\
 ∀ (n1 : Int) (w5 : World), I0 n1 w5 ->
 S_tree_census_meet_l0 c0 deep0 R r0p r0l n1 w5 I0 M0
def S_tree_census_meet_ann : Ann := (.seq .leaf (.seq .leaf (.seq .leaf (.seq .leaf (.seq .leaf (.seq .leaf (.block (.loop [0, 2, 43, 44] [(45, (.int .i64))] (.seq .leaf (.seq .leaf (.seq (.jblock [0, 2, 43, 44, 45] [] (.seq .leaf (.seq (.draw 6) (.seq (.seq .leaf (.cond (.seq .leaf (.seq .leaf (.seq .leaf (.seq .anys .leaf)))) .leaf)) .leaf))) .leaf) .leaf)))))))))))
theorem S_tree_census_meet_ok (c0 : Option Addr) (x0 : Int) (deep0 : Int) (w : World) (R : Ending -> World -> Prop) (h : S_tree_census_meet c0 x0 deep0 w R) : Calls Tryz.prog 144 #[.pointer c0, .int .u64 x0, .int .i64 deep0] w R :=
 calls_of_X (c := bodyOf Tryz.f144) (an := S_tree_census_meet_ann) wide_ok Tryz.func144 (by kernel_rfl) (by kernel_rfl) (cast (by kernel_rfl) h)
def S_mark_Marker_Marked (m0 : Option Addr) (x0 : Int) (w : World) (R : Ending -> World -> Prop) : Prop :=
 onSome m0 fun a0 =>
 LdP w a0 fun p0 =>
 Calls Tryz.prog 24 #[.pointer p0] w fun e0 w0 =>
 ∃ (r0 : Option Addr), e0 = .returned (.pointer r0) /\
 Calls Tryz.prog 44 #[.pointer r0, .int .u64 x0] w0 fun e1 w1 =>
 ∃ (r1 : Int), ∃ (r2 : Int), e1 = .returned (.tuple #[.int .i64 r1, .int .i64 r2]) /\
 cond (r2 != 0)
 (R (.returned (.tuple #[.bool false, .int .i64 r2])) w1)
 (onSome m0 fun a1 =>
 LdP w1 a1 fun p1 =>
 Calls Tryz.prog 22 #[.pointer p1] w1 fun e2 w2 =>
 ∃ (r3 : Option Addr), e2 = .returned (.pointer r3) /\
 Calls Tryz.prog 77 #[.pointer r3, .int .i64 r1] w2 fun e3 w3 =>
 ∃ (r4 : Int), ∃ (r5 : Int), ∃ (r6 : Int), ∃ (r7 : Bool), ∃ (r8 : Int), ∃ (r9 : Int), e3 = .returned (.tuple #[.agg #[.int .i64 r4, .int .i64 r5, .int .i64 r6, .bool r7, .int .i64 r8], .int .i64 r9]) /\
 NewC (.cells #[.int .i64 0, .int .i64 0, .int .i64 0, .bool false, .int .i64 0] 115 (0, 0)) w3 fun b0 w4 =>
 StC w4 (⟨b0, 0, none⟩) (.int .i64 r4) fun w5 =>
 StC w5 (Addr.add (⟨b0, 0, none⟩) 1) (.int .i64 r5) fun w6 =>
 StC w6 (Addr.add (⟨b0, 0, none⟩) 2) (.int .i64 r6) fun w7 =>
 StC w7 (Addr.add (⟨b0, 0, none⟩) 3) (.bool r7) fun w8 =>
 StC w8 (Addr.add (⟨b0, 0, none⟩) 4) (.int .i64 r8) fun w9 =>
 cond (r9 != 0)
 (R (.returned (.tuple #[.bool false, .int .i64 6])) w9)
 (LdB w9 (Addr.add (⟨b0, 0, none⟩) 3) fun b1 =>
 R (.returned (.tuple #[.bool b1, .int .i64 0])) w9))
def S_mark_Marker_Marked_ann : Ann := .leaf
theorem S_mark_Marker_Marked_ok (m0 : Option Addr) (x0 : Int) (w : World) (R : Ending -> World -> Prop) (h : S_mark_Marker_Marked m0 x0 w R) : Calls Tryz.prog 145 #[.pointer m0, .int .u64 x0] w R :=
 calls_of_X (c := bodyOf Tryz.f145) (an := S_mark_Marker_Marked_ann) wide_ok Tryz.func145 (by kernel_rfl) (by kernel_rfl) (cast (by kernel_rfl) h)
def S_mark_Marker_set (m0 : Option Addr) (x0 : Int) (on0 : Bool) (w : World) (R : Ending -> World -> Prop) : Prop :=
 onSome m0 fun a0 =>
 LdP w a0 fun p0 =>
 Calls Tryz.prog 24 #[.pointer p0] w fun e0 w0 =>
 ∃ (r0 : Option Addr), e0 = .returned (.pointer r0) /\
 Calls Tryz.prog 44 #[.pointer r0, .int .u64 x0] w0 fun e1 w1 =>
 ∃ (r1 : Int), ∃ (r2 : Int), e1 = .returned (.tuple #[.int .i64 r1, .int .i64 r2]) /\
 cond (r2 == 0)
 (onSome m0 fun a1 =>
 LdP w1 a1 fun p1 =>
 Calls Tryz.prog 22 #[.pointer p1] w1 fun e2 w2 =>
 ∃ (r3 : Option Addr), e2 = .returned (.pointer r3) /\
 Calls Tryz.prog 113 #[.pointer r3, .int .i64 r1, .bool on0] w2 fun e3 w3 =>
 ∃ (r4 : Int), e3 = .returned (.int .i64 r4) /\
 R (.returned (.tuple #[])) w3)
 (R (.returned (.tuple #[])) w1)
def S_mark_Marker_set_ann : Ann := .leaf
theorem S_mark_Marker_set_ok (m0 : Option Addr) (x0 : Int) (on0 : Bool) (w : World) (R : Ending -> World -> Prop) (h : S_mark_Marker_set m0 x0 on0 w R) : Calls Tryz.prog 146 #[.pointer m0, .int .u64 x0, .bool on0] w R :=
 calls_of_X (c := bodyOf Tryz.f146) (an := S_mark_Marker_set_ann) wide_ok Tryz.func146 (by kernel_rfl) (by kernel_rfl) (cast (by kernel_rfl) h)
def S_doc_textWords (s0 : ByteArray) (w : World) (R : Ending -> World -> Prop) : Prop :=
 DivC 8
 (R (.returned (.int .i64 (IntKind.wrap .i64 (1 + (IntKind.wrap .i64 (Int.tdiv (IntKind.wrap .i64 ((IntKind.wrap .i64 ((Nat.cast s0.size : Int) + 8)) - 1)) 8)))))) w)
def S_doc_textWords_ann : Ann := .leaf
theorem S_doc_textWords_ok (s0 : ByteArray) (w : World) (R : Ending -> World -> Prop) (h : S_doc_textWords s0 w R) : Calls Tryz.prog 148 #[.string s0] w R :=
 calls_of_X (c := bodyOf Tryz.f148) (an := S_doc_textWords_ann) wide_ok Tryz.func148 (by kernel_rfl) (by kernel_rfl) (cast (by kernel_rfl) h)
def S_slide_Collector_Linked (c0 : Option Addr) (x0 : Int) (w : World) (R : Ending -> World -> Prop) : Prop :=
 R (.returned (.tuple #[])) w
def S_slide_Collector_Linked_ann : Ann := .leaf
theorem S_slide_Collector_Linked_ok (c0 : Option Addr) (x0 : Int) (w : World) (R : Ending -> World -> Prop) (h : S_slide_Collector_Linked c0 x0 w R) : Calls Tryz.prog 168 #[.pointer c0, .int .u64 x0] w R :=
 calls_of_X (c := bodyOf Tryz.f168) (an := S_slide_Collector_Linked_ann) wide_ok Tryz.func168 (by kernel_rfl) (by kernel_rfl) (cast (by kernel_rfl) h)
def S_slide_Collector_Made (c0 : Option Addr) (x0 : Int) (w : World) (R : Ending -> World -> Prop) : Prop :=
 onSome c0 fun a0 =>
 LdP w (Addr.add a0 1) fun p0 =>
 Calls Tryz.prog 170 #[.pointer p0, .int .u64 x0] w fun e0 w0 =>
 e0 = .returned (.tuple #[]) /\
 R (.returned (.tuple #[])) w0
def S_slide_Collector_Made_ann : Ann := .leaf
theorem S_slide_Collector_Made_ok (c0 : Option Addr) (x0 : Int) (w : World) (R : Ending -> World -> Prop) (h : S_slide_Collector_Made c0 x0 w R) : Calls Tryz.prog 169 #[.pointer c0, .int .u64 x0] w R :=
 calls_of_X (c := bodyOf Tryz.f169) (an := S_slide_Collector_Made_ann) wide_ok Tryz.func169 (by kernel_rfl) (by kernel_rfl) (cast (by kernel_rfl) h)
def S_mark_Marker_Made (m0 : Option Addr) (x0 : Int) (w : World) (R : Ending -> World -> Prop) : Prop :=
 Calls Tryz.prog 146 #[.pointer m0, .int .u64 x0, .bool true] w fun e0 w0 =>
 e0 = .returned (.tuple #[]) /\
 R (.returned (.tuple #[])) w0
def S_mark_Marker_Made_ann : Ann := .leaf
theorem S_mark_Marker_Made_ok (m0 : Option Addr) (x0 : Int) (w : World) (R : Ending -> World -> Prop) (h : S_mark_Marker_Made m0 x0 w R) : Calls Tryz.prog 170 #[.pointer m0, .int .u64 x0] w R :=
 calls_of_X (c := bodyOf Tryz.f170) (an := S_mark_Marker_Made_ann) wide_ok Tryz.func170 (by kernel_rfl) (by kernel_rfl) (cast (by kernel_rfl) h)
end Go.Proofs.YtpicofkhioalkaaGreat
