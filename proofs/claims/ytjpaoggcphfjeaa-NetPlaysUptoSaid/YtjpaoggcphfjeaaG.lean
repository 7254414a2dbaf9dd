/- The second reading of functions of this seat's program, written out by a program (gen.py). -/
import Derived.Test.YtjpaoggcphfjeaaLw
import Derived.KernelRfl
namespace Go.Proofs.Ytjpaoggcphfjeaa
open Go Go.Lw

def Ld_api_Msg (w : World) (a : Addr) (K : Int → Int → Int → Int → Int → Int → Int → Int → Int → Option Addr → Nat → Nat → Option Addr → Nat → Nat → Int → Int → ByteArray → Int → Int → Option Addr → Nat → Nat → Prop) : Prop := LdI .i64 w a fun n0 => LdI .i64 w (Addr.add a 1) fun n1 => LdI .i64 w (Addr.add a 2) fun n2 => LdI .i64 w (Addr.add a 3) fun n3 => LdI .i64 w (Addr.add a 4) fun n4 => LdI .i64 w (Addr.add a 5) fun n5 => LdI .i64 w (Addr.add a 6) fun n6 => LdI .i64 w (Addr.add a 7) fun n7 => LdI .i64 w (Addr.add a 8) fun n8 => LdS w (Addr.add a 9) fun s0p s0l s0c => LdS w (Addr.add a 10) fun s1p s1l s1c => LdI .i64 w (Addr.add a 11) fun n9 => LdI .i64 w (Addr.add a 12) fun n10 => LdStr w (Addr.add a 13) fun t0 => LdI .i64 w (Addr.add a 14) fun n11 => LdI .i64 w (Addr.add a 15) fun n12 => LdS w (Addr.add a 16) fun s2p s2l s2c => K n0 n1 n2 n3 n4 n5 n6 n7 n8 s0p s0l s0c s1p s1l s1c n9 n10 t0 n11 n12 s2p s2l s2c
def St_api_Msg (w : World) (a : Addr) (n0 : Int) (n1 : Int) (n2 : Int) (n3 : Int) (n4 : Int) (n5 : Int) (n6 : Int) (n7 : Int) (n8 : Int) (s0p : Option Addr) (s0l : Nat) (s0c : Nat) (s1p : Option Addr) (s1l : Nat) (s1c : Nat) (n9 : Int) (n10 : Int) (t0 : ByteArray) (n11 : Int) (n12 : Int) (s2p : Option Addr) (s2l : Nat) (s2c : Nat) (K : World → Prop) : Prop := StC w a (.int .i64 n0) fun w1 => StC w1 (Addr.add a 1) (.int .i64 n1) fun w2 => StC w2 (Addr.add a 2) (.int .i64 n2) fun w3 => StC w3 (Addr.add a 3) (.int .i64 n3) fun w4 => StC w4 (Addr.add a 4) (.int .i64 n4) fun w5 => StC w5 (Addr.add a 5) (.int .i64 n5) fun w6 => StC w6 (Addr.add a 6) (.int .i64 n6) fun w7 => StC w7 (Addr.add a 7) (.int .i64 n7) fun w8 => StC w8 (Addr.add a 8) (.int .i64 n8) fun w9 => StC w9 (Addr.add a 9) (.slice s0p s0l s0c) fun w10 => StC w10 (Addr.add a 10) (.slice s1p s1l s1c) fun w11 => StC w11 (Addr.add a 11) (.int .i64 n9) fun w12 => StC w12 (Addr.add a 12) (.int .i64 n10) fun w13 => StC w13 (Addr.add a 13) (.string t0) fun w14 => StC w14 (Addr.add a 14) (.int .i64 n11) fun w15 => StC w15 (Addr.add a 15) (.int .i64 n12) fun w16 => StC w16 (Addr.add a 16) (.slice s2p s2l s2c) fun w17 => K w17
def Ld_tidemarklaw24_Deed (w : World) (a : Addr) (K : Int → Int → Int → Int → Int → Int → Int → Int → Int → Int → Int → Int → Int → Option Addr → Nat → Nat → Option Addr → Nat → Nat → Int → Int → ByteArray → Int → Int → Option Addr → Nat → Nat → Prop) : Prop := LdI .i64 w a fun n0 => LdI .i64 w (Addr.add a 1) fun n1 => LdI .i64 w (Addr.add a 2) fun n2 => LdI .i64 w (Addr.add a 3) fun n3 => LdI .i64 w (Addr.add a 4) fun n4 => LdI .i64 w (Addr.add a 5) fun n5 => LdI .i64 w (Addr.add a 6) fun n6 => LdI .i64 w (Addr.add a 7) fun n7 => LdI .i64 w (Addr.add a 8) fun n8 => LdI .i64 w (Addr.add a 9) fun n9 => LdI .i64 w (Addr.add a 10) fun n10 => LdI .i64 w (Addr.add a 11) fun n11 => LdI .i64 w (Addr.add a 12) fun n12 => LdS w (Addr.add a 13) fun s0p s0l s0c => LdS w (Addr.add a 14) fun s1p s1l s1c => LdI .i64 w (Addr.add a 15) fun n13 => LdI .i64 w (Addr.add a 16) fun n14 => LdStr w (Addr.add a 17) fun t0 => LdI .i64 w (Addr.add a 18) fun n15 => LdI .i64 w (Addr.add a 19) fun n16 => LdS w (Addr.add a 20) fun s2p s2l s2c => K n0 n1 n2 n3 n4 n5 n6 n7 n8 n9 n10 n11 n12 s0p s0l s0c s1p s1l s1c n13 n14 t0 n15 n16 s2p s2l s2c
def St_tidemarklaw24_Deed (w : World) (a : Addr) (n0 : Int) (n1 : Int) (n2 : Int) (n3 : Int) (n4 : Int) (n5 : Int) (n6 : Int) (n7 : Int) (n8 : Int) (n9 : Int) (n10 : Int) (n11 : Int) (n12 : Int) (s0p : Option Addr) (s0l : Nat) (s0c : Nat) (s1p : Option Addr) (s1l : Nat) (s1c : Nat) (n13 : Int) (n14 : Int) (t0 : ByteArray) (n15 : Int) (n16 : Int) (s2p : Option Addr) (s2l : Nat) (s2c : Nat) (K : World → Prop) : Prop := StC w a (.int .i64 n0) fun w1 => StC w1 (Addr.add a 1) (.int .i64 n1) fun w2 => StC w2 (Addr.add a 2) (.int .i64 n2) fun w3 => StC w3 (Addr.add a 3) (.int .i64 n3) fun w4 => StC w4 (Addr.add a 4) (.int .i64 n4) fun w5 => StC w5 (Addr.add a 5) (.int .i64 n5) fun w6 => StC w6 (Addr.add a 6) (.int .i64 n6) fun w7 => StC w7 (Addr.add a 7) (.int .i64 n7) fun w8 => StC w8 (Addr.add a 8) (.int .i64 n8) fun w9 => StC w9 (Addr.add a 9) (.int .i64 n9) fun w10 => StC w10 (Addr.add a 10) (.int .i64 n10) fun w11 => StC w11 (Addr.add a 11) (.int .i64 n11) fun w12 => StC w12 (Addr.add a 12) (.int .i64 n12) fun w13 => StC w13 (Addr.add a 13) (.slice s0p s0l s0c) fun w14 => StC w14 (Addr.add a 14) (.slice s1p s1l s1c) fun w15 => StC w15 (Addr.add a 15) (.int .i64 n13) fun w16 => StC w16 (Addr.add a 16) (.int .i64 n14) fun w17 => StC w17 (Addr.add a 17) (.string t0) fun w18 => StC w18 (Addr.add a 18) (.int .i64 n15) fun w19 => StC w19 (Addr.add a 19) (.int .i64 n16) fun w20 => StC w20 (Addr.add a 20) (.slice s2p s2l s2c) fun w21 => K w21
def Ld_net_Packet (w : World) (a : Addr) (K : Int → Int → Int → Int → Int → Int → Int → Int → Int → Int → Option Addr → Nat → Nat → Option Addr → Nat → Nat → Int → Int → ByteArray → Int → Int → Option Addr → Nat → Nat → Prop) : Prop := LdI .i64 w a fun n0 => LdI .i64 w (Addr.add a 1) fun n1 => LdI .i64 w (Addr.add a 2) fun n2 => LdI .i64 w (Addr.add a 3) fun n3 => LdI .i64 w (Addr.add a 4) fun n4 => LdI .i64 w (Addr.add a 5) fun n5 => LdI .i64 w (Addr.add a 6) fun n6 => LdI .i64 w (Addr.add a 7) fun n7 => LdI .i64 w (Addr.add a 8) fun n8 => LdI .i64 w (Addr.add a 9) fun n9 => LdS w (Addr.add a 10) fun s0p s0l s0c => LdS w (Addr.add a 11) fun s1p s1l s1c => LdI .i64 w (Addr.add a 12) fun n10 => LdI .i64 w (Addr.add a 13) fun n11 => LdStr w (Addr.add a 14) fun t0 => LdI .i64 w (Addr.add a 15) fun n12 => LdI .i64 w (Addr.add a 16) fun n13 => LdS w (Addr.add a 17) fun s2p s2l s2c => K n0 n1 n2 n3 n4 n5 n6 n7 n8 n9 s0p s0l s0c s1p s1l s1c n10 n11 t0 n12 n13 s2p s2l s2c
def St_net_Packet (w : World) (a : Addr) (n0 : Int) (n1 : Int) (n2 : Int) (n3 : Int) (n4 : Int) (n5 : Int) (n6 : Int) (n7 : Int) (n8 : Int) (n9 : Int) (s0p : Option Addr) (s0l : Nat) (s0c : Nat) (s1p : Option Addr) (s1l : Nat) (s1c : Nat) (n10 : Int) (n11 : Int) (t0 : ByteArray) (n12 : Int) (n13 : Int) (s2p : Option Addr) (s2l : Nat) (s2c : Nat) (K : World → Prop) : Prop := StC w a (.int .i64 n0) fun w1 => StC w1 (Addr.add a 1) (.int .i64 n1) fun w2 => StC w2 (Addr.add a 2) (.int .i64 n2) fun w3 => StC w3 (Addr.add a 3) (.int .i64 n3) fun w4 => StC w4 (Addr.add a 4) (.int .i64 n4) fun w5 => StC w5 (Addr.add a 5) (.int .i64 n5) fun w6 => StC w6 (Addr.add a 6) (.int .i64 n6) fun w7 => StC w7 (Addr.add a 7) (.int .i64 n7) fun w8 => StC w8 (Addr.add a 8) (.int .i64 n8) fun w9 => StC w9 (Addr.add a 9) (.int .i64 n9) fun w10 => StC w10 (Addr.add a 10) (.slice s0p s0l s0c) fun w11 => StC w11 (Addr.add a 11) (.slice s1p s1l s1c) fun w12 => StC w12 (Addr.add a 12) (.int .i64 n10) fun w13 => StC w13 (Addr.add a 13) (.int .i64 n11) fun w14 => StC w14 (Addr.add a 14) (.string t0) fun w15 => StC w15 (Addr.add a 15) (.int .i64 n12) fun w16 => StC w16 (Addr.add a 16) (.int .i64 n13) fun w17 => StC w17 (Addr.add a 17) (.slice s2p s2l s2c) fun w18 => K w18
theorem wide_ok : Try.prog.follows .mixedOrders = true := by kernel_rfl

def S_law24_NetCuts_j0 (R : Ending → World → Prop) (r1 : Option Addr) (r19 : Int) (r20 : Int) (r38 : Int) (r39 : Int) (r57 : Int) (r58 : Int) (r76 : Int) (r77 : Int) (lost1 : Int) (want1 : Int) (w13 : World) : Prop :=
  cond (r19 == 0)
  (cond (r20 == 0)
  (cond (r38 == 0)
  (cond (r39 == 0)
  (cond (r57 == want1)
  (cond (r58 == 0)
  (cond (r76 == (IntKind.wrap .i64 (want1 + 1)))
  (cond (r77 == 0)
  (Calls Try.prog 13 #[.pointer r1] w13 fun e12 w14 =>
  ∃ (r78 : Int), e12 = .returned (.int .i64 r78) ∧
  R (.returned (.bool (r78 == lost1))) w14)
  (R (.returned (.bool false)) w13))
  (R (.returned (.bool false)) w13))
  (R (.returned (.bool false)) w13))
  (R (.returned (.bool false)) w13))
  (R (.returned (.bool false)) w13))
  (R (.returned (.bool false)) w13))
  (R (.returned (.bool false)) w13))
  (R (.returned (.bool false)) w13)
def S_law24_NetCuts_j1 (a0 : Int) (b0 : Int) (c0 : Int) (R : Ending → World → Prop) (r1 : Option Addr) (r19 : Int) (r20 : Int) (r38 : Int) (r39 : Int) (r57 : Int) (r58 : Int) (r76 : Int) (r77 : Int) (lost0 : Int) (want0 : Int) (w12 : World) : Prop :=
  ∀ k1 : Int → Int → World → Prop,
  (∀ (lost1 : Int) (want1 : Int) (w13 : World), S_law24_NetCuts_j0 R r1 r19 r20 r38 r39 r57 r58 r76 r77 lost1 want1 w13 → k1 lost1 want1 w13) →
  cond (a0 == b0)
  (cond (c0 == a0)
  (k1 3 0 w12)
  (k1 lost0 want0 w12))
  (k1 lost0 want0 w12)
def S_law24_NetCuts (a0 : Int) (b0 : Int) (c0 : Int) (w : World) (R : Ending → World → Prop) : Prop :=
  Calls Try.prog 8 #[] w fun e0 w0 =>
  ∃ (r0 : Bool), e0 = .returned (.bool r0) ∧
  cond (!r0)
  (R (.returned (.bool false)) w0)
  (Calls Try.prog 9 #[.int .i64 9] w0 fun e1 w1 =>
  ∃ (r1 : Option Addr), e1 = .returned (.pointer r1) ∧
  cond r1.isNone
  (R (.returned (.bool false)) w1)
  (Calls Try.prog 10 #[.pointer r1, .int .i64 a0, .int .i64 b0, .bool true] w1 fun e2 w2 =>
  e2 = .returned (.tuple #[]) ∧
  Calls Try.prog 12 #[.int .i64 a0, .int .i64 b0, .int .i64 1] w2 fun e3 w3 =>
  ∃ (r2 : Int), ∃ (r3 : Int), ∃ (r4 : Int), ∃ (r5 : Int), ∃ (r6 : Int), ∃ (r7 : Int), ∃ (r8 : Int), ∃ (r9 : Int), ∃ (r10 : Int), ∃ (r11p : Option Addr), ∃ (r11l : Nat), ∃ (r11c : Nat), ∃ (r12p : Option Addr), ∃ (r12l : Nat), ∃ (r12c : Nat), ∃ (r13 : Int), ∃ (r14 : Int), ∃ (r15 : ByteArray), ∃ (r16 : Int), ∃ (r17 : Int), ∃ (r18p : Option Addr), ∃ (r18l : Nat), ∃ (r18c : Nat), e3 = .returned (.agg #[.int .i64 r2, .int .i64 r3, .int .i64 r4, .int .i64 r5, .int .i64 r6, .int .i64 r7, .int .i64 r8, .int .i64 r9, .int .i64 r10, .slice r11p r11l r11c, .slice r12p r12l r12c, .int .i64 r13, .int .i64 r14, .string r15, .int .i64 r16, .int .i64 r17, .slice r18p r18l r18c]) ∧
  Calls Try.prog 11 #[.pointer r1, .agg #[.int .i64 r2, .int .i64 r3, .int .i64 r4, .int .i64 r5, .int .i64 r6, .int .i64 r7, .int .i64 r8, .int .i64 r9, .int .i64 r10, .slice r11p r11l r11c, .slice r12p r12l r12c, .int .i64 r13, .int .i64 r14, .string r15, .int .i64 r16, .int .i64 r17, .slice r18p r18l r18c]] w3 fun e4 w4 =>
  ∃ (r19 : Int), ∃ (r20 : Int), e4 = .returned (.tuple #[.int .i64 r19, .int .i64 r20]) ∧
  Calls Try.prog 12 #[.int .i64 b0, .int .i64 a0, .int .i64 2] w4 fun e5 w5 =>
  ∃ (r21 : Int), ∃ (r22 : Int), ∃ (r23 : Int), ∃ (r24 : Int), ∃ (r25 : Int), ∃ (r26 : Int), ∃ (r27 : Int), ∃ (r28 : Int), ∃ (r29 : Int), ∃ (r30p : Option Addr), ∃ (r30l : Nat), ∃ (r30c : Nat), ∃ (r31p : Option Addr), ∃ (r31l : Nat), ∃ (r31c : Nat), ∃ (r32 : Int), ∃ (r33 : Int), ∃ (r34 : ByteArray), ∃ (r35 : Int), ∃ (r36 : Int), ∃ (r37p : Option Addr), ∃ (r37l : Nat), ∃ (r37c : Nat), e5 = .returned (.agg #[.int .i64 r21, .int .i64 r22, .int .i64 r23, .int .i64 r24, .int .i64 r25, .int .i64 r26, .int .i64 r27, .int .i64 r28, .int .i64 r29, .slice r30p r30l r30c, .slice r31p r31l r31c, .int .i64 r32, .int .i64 r33, .string r34, .int .i64 r35, .int .i64 r36, .slice r37p r37l r37c]) ∧
  Calls Try.prog 11 #[.pointer r1, .agg #[.int .i64 r21, .int .i64 r22, .int .i64 r23, .int .i64 r24, .int .i64 r25, .int .i64 r26, .int .i64 r27, .int .i64 r28, .int .i64 r29, .slice r30p r30l r30c, .slice r31p r31l r31c, .int .i64 r32, .int .i64 r33, .string r34, .int .i64 r35, .int .i64 r36, .slice r37p r37l r37c]] w5 fun e6 w6 =>
  ∃ (r38 : Int), ∃ (r39 : Int), e6 = .returned (.tuple #[.int .i64 r38, .int .i64 r39]) ∧
  Calls Try.prog 12 #[.int .i64 a0, .int .i64 c0, .int .i64 3] w6 fun e7 w7 =>
  ∃ (r40 : Int), ∃ (r41 : Int), ∃ (r42 : Int), ∃ (r43 : Int), ∃ (r44 : Int), ∃ (r45 : Int), ∃ (r46 : Int), ∃ (r47 : Int), ∃ (r48 : Int), ∃ (r49p : Option Addr), ∃ (r49l : Nat), ∃ (r49c : Nat), ∃ (r50p : Option Addr), ∃ (r50l : Nat), ∃ (r50c : Nat), ∃ (r51 : Int), ∃ (r52 : Int), ∃ (r53 : ByteArray), ∃ (r54 : Int), ∃ (r55 : Int), ∃ (r56p : Option Addr), ∃ (r56l : Nat), ∃ (r56c : Nat), e7 = .returned (.agg #[.int .i64 r40, .int .i64 r41, .int .i64 r42, .int .i64 r43, .int .i64 r44, .int .i64 r45, .int .i64 r46, .int .i64 r47, .int .i64 r48, .slice r49p r49l r49c, .slice r50p r50l r50c, .int .i64 r51, .int .i64 r52, .string r53, .int .i64 r54, .int .i64 r55, .slice r56p r56l r56c]) ∧
  Calls Try.prog 11 #[.pointer r1, .agg #[.int .i64 r40, .int .i64 r41, .int .i64 r42, .int .i64 r43, .int .i64 r44, .int .i64 r45, .int .i64 r46, .int .i64 r47, .int .i64 r48, .slice r49p r49l r49c, .slice r50p r50l r50c, .int .i64 r51, .int .i64 r52, .string r53, .int .i64 r54, .int .i64 r55, .slice r56p r56l r56c]] w7 fun e8 w8 =>
  ∃ (r57 : Int), ∃ (r58 : Int), e8 = .returned (.tuple #[.int .i64 r57, .int .i64 r58]) ∧
  Calls Try.prog 10 #[.pointer r1, .int .i64 b0, .int .i64 a0, .bool false] w8 fun e9 w9 =>
  e9 = .returned (.tuple #[]) ∧
  Calls Try.prog 12 #[.int .i64 a0, .int .i64 b0, .int .i64 4] w9 fun e10 w10 =>
  ∃ (r59 : Int), ∃ (r60 : Int), ∃ (r61 : Int), ∃ (r62 : Int), ∃ (r63 : Int), ∃ (r64 : Int), ∃ (r65 : Int), ∃ (r66 : Int), ∃ (r67 : Int), ∃ (r68p : Option Addr), ∃ (r68l : Nat), ∃ (r68c : Nat), ∃ (r69p : Option Addr), ∃ (r69l : Nat), ∃ (r69c : Nat), ∃ (r70 : Int), ∃ (r71 : Int), ∃ (r72 : ByteArray), ∃ (r73 : Int), ∃ (r74 : Int), ∃ (r75p : Option Addr), ∃ (r75l : Nat), ∃ (r75c : Nat), e10 = .returned (.agg #[.int .i64 r59, .int .i64 r60, .int .i64 r61, .int .i64 r62, .int .i64 r63, .int .i64 r64, .int .i64 r65, .int .i64 r66, .int .i64 r67, .slice r68p r68l r68c, .slice r69p r69l r69c, .int .i64 r70, .int .i64 r71, .string r72, .int .i64 r73, .int .i64 r74, .slice r75p r75l r75c]) ∧
  Calls Try.prog 11 #[.pointer r1, .agg #[.int .i64 r59, .int .i64 r60, .int .i64 r61, .int .i64 r62, .int .i64 r63, .int .i64 r64, .int .i64 r65, .int .i64 r66, .int .i64 r67, .slice r68p r68l r68c, .slice r69p r69l r69c, .int .i64 r70, .int .i64 r71, .string r72, .int .i64 r73, .int .i64 r74, .slice r75p r75l r75c]] w10 fun e11 w11 =>
  ∃ (r76 : Int), ∃ (r77 : Int), e11 = .returned (.tuple #[.int .i64 r76, .int .i64 r77]) ∧
  ∀ k0 : Int → Int → World → Prop,
  (∀ (lost0 : Int) (want0 : Int) (w12 : World), S_law24_NetCuts_j1 a0 b0 c0 R r1 r19 r20 r38 r39 r57 r58 r76 r77 lost0 want0 w12 → k0 lost0 want0 w12) →
  cond (c0 == b0)
  (k0 3 0 w11)
  (k0 2 1 w11)))
def S_law24_NetCuts_ann : Ann := (.seq .leaf (.seq .leaf (.seq .leaf (.seq .leaf (.seq .leaf (.seq .leaf (.seq .leaf (.seq .leaf (.seq .leaf (.seq .leaf (.seq .leaf (.seq .leaf (.join [0, 1, 2, 7, 8, 9, 10, 11, 12, 13, 14, 15] [(16, (.int .i64)), (17, (.int .i64))] .leaf (.join [7, 8, 9, 10, 11, 12, 13, 14, 15] [(16, (.int .i64)), (17, (.int .i64))] .leaf .leaf))))))))))))))
theorem S_law24_NetCuts_eq (a0 : Int) (b0 : Int) (c0 : Int) (w : World) (R : Ending → World → Prop) : X Try.prog Try.f3.ntmps (bodyOf Try.f3) S_law24_NetCuts_ann (argEnv 0 [.int .i64 a0, .int .i64 b0, .int .i64 c0]) w (fun e w' => resK Try.prog Try.f3.results.toList e w' [] fun vs => R (.returned (pack vs)) w') (fun e w' => resK Try.prog Try.f3.results.toList e w' [] fun vs => R (.returned (pack vs)) w') (fun _ _ _ => False) = S_law24_NetCuts a0 b0 c0 w R := by kernel_rfl
theorem S_law24_NetCuts_ok (a0 : Int) (b0 : Int) (c0 : Int) (w : World) (R : Ending → World → Prop) (h : S_law24_NetCuts a0 b0 c0 w R) : Calls Try.prog 3 #[.int .i64 a0, .int .i64 b0, .int .i64 c0] w R :=
  calls_of_X (an := S_law24_NetCuts_ann) wide_ok Try.func3 (by kernel_rfl) (by kernel_rfl) (by rw [S_law24_NetCuts_eq]; exact h)

set_option maxRecDepth 100000 in
def S_law24_NetKnown (w : World) (R : Ending → World → Prop) : Prop :=
  Calls Try.prog 8 #[] w fun e0 w0 =>
  ∃ (r0 : Bool), e0 = .returned (.bool r0) ∧
  cond (!r0)
  (R (.returned (.bool false)) w0)
  (Calls Try.prog 9 #[.int .i64 2] w0 fun e1 w1 =>
  ∃ (r1 : Option Addr), e1 = .returned (.pointer r1) ∧
  Calls Try.prog 12 #[.int .i64 0, .int .i64 1, .int .i64 1] w1 fun e2 w2 =>
  ∃ (r2 : Int), ∃ (r3 : Int), ∃ (r4 : Int), ∃ (r5 : Int), ∃ (r6 : Int), ∃ (r7 : Int), ∃ (r8 : Int), ∃ (r9 : Int), ∃ (r10 : Int), ∃ (r11p : Option Addr), ∃ (r11l : Nat), ∃ (r11c : Nat), ∃ (r12p : Option Addr), ∃ (r12l : Nat), ∃ (r12c : Nat), ∃ (r13 : Int), ∃ (r14 : Int), ∃ (r15 : ByteArray), ∃ (r16 : Int), ∃ (r17 : Int), ∃ (r18p : Option Addr), ∃ (r18l : Nat), ∃ (r18c : Nat), e2 = .returned (.agg #[.int .i64 r2, .int .i64 r3, .int .i64 r4, .int .i64 r5, .int .i64 r6, .int .i64 r7, .int .i64 r8, .int .i64 r9, .int .i64 r10, .slice r11p r11l r11c, .slice r12p r12l r12c, .int .i64 r13, .int .i64 r14, .string r15, .int .i64 r16, .int .i64 r17, .slice r18p r18l r18c]) ∧
  Calls Try.prog 11 #[.pointer r1, .agg #[.int .i64 r2, .int .i64 r3, .int .i64 r4, .int .i64 r5, .int .i64 r6, .int .i64 r7, .int .i64 r8, .int .i64 r9, .int .i64 r10, .slice r11p r11l r11c, .slice r12p r12l r12c, .int .i64 r13, .int .i64 r14, .string r15, .int .i64 r16, .int .i64 r17, .slice r18p r18l r18c]] w2 fun e3 w3 =>
  ∃ (r19 : Int), ∃ (r20 : Int), e3 = .returned (.tuple #[.int .i64 r19, .int .i64 r20]) ∧
  Calls Try.prog 12 #[.int .i64 0, .int .i64 1, .int .i64 2] w3 fun e4 w4 =>
  ∃ (r21 : Int), ∃ (r22 : Int), ∃ (r23 : Int), ∃ (r24 : Int), ∃ (r25 : Int), ∃ (r26 : Int), ∃ (r27 : Int), ∃ (r28 : Int), ∃ (r29 : Int), ∃ (r30p : Option Addr), ∃ (r30l : Nat), ∃ (r30c : Nat), ∃ (r31p : Option Addr), ∃ (r31l : Nat), ∃ (r31c : Nat), ∃ (r32 : Int), ∃ (r33 : Int), ∃ (r34 : ByteArray), ∃ (r35 : Int), ∃ (r36 : Int), ∃ (r37p : Option Addr), ∃ (r37l : Nat), ∃ (r37c : Nat), e4 = .returned (.agg #[.int .i64 r21, .int .i64 r22, .int .i64 r23, .int .i64 r24, .int .i64 r25, .int .i64 r26, .int .i64 r27, .int .i64 r28, .int .i64 r29, .slice r30p r30l r30c, .slice r31p r31l r31c, .int .i64 r32, .int .i64 r33, .string r34, .int .i64 r35, .int .i64 r36, .slice r37p r37l r37c]) ∧
  Calls Try.prog 11 #[.pointer r1, .agg #[.int .i64 r21, .int .i64 r22, .int .i64 r23, .int .i64 r24, .int .i64 r25, .int .i64 r26, .int .i64 r27, .int .i64 r28, .int .i64 r29, .slice r30p r30l r30c, .slice r31p r31l r31c, .int .i64 r32, .int .i64 r33, .string r34, .int .i64 r35, .int .i64 r36, .slice r37p r37l r37c]] w4 fun e5 w5 =>
  ∃ (r38 : Int), ∃ (r39 : Int), e5 = .returned (.tuple #[.int .i64 r38, .int .i64 r39]) ∧
  Calls Try.prog 12 #[.int .i64 0, .int .i64 1, .int .i64 3] w5 fun e6 w6 =>
  ∃ (r40 : Int), ∃ (r41 : Int), ∃ (r42 : Int), ∃ (r43 : Int), ∃ (r44 : Int), ∃ (r45 : Int), ∃ (r46 : Int), ∃ (r47 : Int), ∃ (r48 : Int), ∃ (r49p : Option Addr), ∃ (r49l : Nat), ∃ (r49c : Nat), ∃ (r50p : Option Addr), ∃ (r50l : Nat), ∃ (r50c : Nat), ∃ (r51 : Int), ∃ (r52 : Int), ∃ (r53 : ByteArray), ∃ (r54 : Int), ∃ (r55 : Int), ∃ (r56p : Option Addr), ∃ (r56l : Nat), ∃ (r56c : Nat), e6 = .returned (.agg #[.int .i64 r40, .int .i64 r41, .int .i64 r42, .int .i64 r43, .int .i64 r44, .int .i64 r45, .int .i64 r46, .int .i64 r47, .int .i64 r48, .slice r49p r49l r49c, .slice r50p r50l r50c, .int .i64 r51, .int .i64 r52, .string r53, .int .i64 r54, .int .i64 r55, .slice r56p r56l r56c]) ∧
  Calls Try.prog 11 #[.pointer r1, .agg #[.int .i64 r40, .int .i64 r41, .int .i64 r42, .int .i64 r43, .int .i64 r44, .int .i64 r45, .int .i64 r46, .int .i64 r47, .int .i64 r48, .slice r49p r49l r49c, .slice r50p r50l r50c, .int .i64 r51, .int .i64 r52, .string r53, .int .i64 r54, .int .i64 r55, .slice r56p r56l r56c]] w6 fun e7 w7 =>
  ∃ (r57 : Int), ∃ (r58 : Int), e7 = .returned (.tuple #[.int .i64 r57, .int .i64 r58]) ∧
  Calls Try.prog 14 #[.pointer r1, .int .i64 3] w7 fun e8 w8 =>
  ∃ (r59 : Int), ∃ (r60 : Int), e8 = .returned (.tuple #[.int .i64 r59, .int .i64 r60]) ∧
  cond (r19 != 1)
  (R (.returned (.bool false)) w8)
  (cond (r20 != 0)
  (R (.returned (.bool false)) w8)
  (cond (r38 != 2)
  (R (.returned (.bool false)) w8)
  (cond (r39 != 0)
  (R (.returned (.bool false)) w8)
  (cond (r57 != 0)
  (R (.returned (.bool false)) w8)
  (cond (r58 != 5)
  (R (.returned (.bool false)) w8)
  (cond (r59 != 2)
  (R (.returned (.bool false)) w8)
  (cond (r60 != 0)
  (R (.returned (.bool false)) w8)
  (Calls Try.prog 13 #[.pointer r1] w8 fun e9 w9 =>
  ∃ (r61 : Int), e9 = .returned (.int .i64 r61) ∧
  cond (r61 != 1)
  (R (.returned (.bool false)) w9)
  (Calls Try.prog 15 #[.pointer r1, .int .i64 1] w9 fun e10 w10 =>
  ∃ (r62 : Int), ∃ (r63 : Int), ∃ (r64 : Int), ∃ (r65 : Int), ∃ (r66 : Int), ∃ (r67 : Int), ∃ (r68 : Int), ∃ (r69 : Int), ∃ (r70 : Int), ∃ (r71p : Option Addr), ∃ (r71l : Nat), ∃ (r71c : Nat), ∃ (r72p : Option Addr), ∃ (r72l : Nat), ∃ (r72c : Nat), ∃ (r73 : Int), ∃ (r74 : Int), ∃ (r75 : ByteArray), ∃ (r76 : Int), ∃ (r77 : Int), ∃ (r78p : Option Addr), ∃ (r78l : Nat), ∃ (r78c : Nat), ∃ (r79 : Int), e10 = .returned (.tuple #[.agg #[.int .i64 r62, .int .i64 r63, .int .i64 r64, .int .i64 r65, .int .i64 r66, .int .i64 r67, .int .i64 r68, .int .i64 r69, .int .i64 r70, .slice r71p r71l r71c, .slice r72p r72l r72c, .int .i64 r73, .int .i64 r74, .string r75, .int .i64 r76, .int .i64 r77, .slice r78p r78l r78c], .int .i64 r79]) ∧
  NewC (.cells #[.int .i64 0, .int .i64 0, .int .i64 0, .int .i64 0, .int .i64 0, .int .i64 0, .int .i64 0, .int .i64 0, .int .i64 0, .slice none 0 0, .slice none 0 0, .int .i64 0, .int .i64 0, .string (⟨#[]⟩), .int .i64 0, .int .i64 0, .slice none 0 0] 37 (0, 0)) w10 fun b0 w11 =>
  St_api_Msg w11 (⟨b0, 0, none⟩) r62 r63 r64 r65 r66 r67 r68 r69 r70 r71p r71l r71c r72p r72l r72c r73 r74 r75 r76 r77 r78p r78l r78c fun w12 =>
  Calls Try.prog 15 #[.pointer r1, .int .i64 1] w12 fun e11 w13 =>
  ∃ (r80 : Int), ∃ (r81 : Int), ∃ (r82 : Int), ∃ (r83 : Int), ∃ (r84 : Int), ∃ (r85 : Int), ∃ (r86 : Int), ∃ (r87 : Int), ∃ (r88 : Int), ∃ (r89p : Option Addr), ∃ (r89l : Nat), ∃ (r89c : Nat), ∃ (r90p : Option Addr), ∃ (r90l : Nat), ∃ (r90c : Nat), ∃ (r91 : Int), ∃ (r92 : Int), ∃ (r93 : ByteArray), ∃ (r94 : Int), ∃ (r95 : Int), ∃ (r96p : Option Addr), ∃ (r96l : Nat), ∃ (r96c : Nat), ∃ (r97 : Int), e11 = .returned (.tuple #[.agg #[.int .i64 r80, .int .i64 r81, .int .i64 r82, .int .i64 r83, .int .i64 r84, .int .i64 r85, .int .i64 r86, .int .i64 r87, .int .i64 r88, .slice r89p r89l r89c, .slice r90p r90l r90c, .int .i64 r91, .int .i64 r92, .string r93, .int .i64 r94, .int .i64 r95, .slice r96p r96l r96c], .int .i64 r97]) ∧
  Calls Try.prog 16 #[.pointer r1, .int .i64 2] w13 fun e12 w14 =>
  ∃ (r98 : Int), ∃ (r99 : Int), e12 = .returned (.tuple #[.int .i64 r98, .int .i64 r99]) ∧
  Calls Try.prog 17 #[.int .i64 0] w14 fun e13 w15 =>
  ∃ (r100 : Option Addr), ∃ (r101 : Int), e13 = .returned (.tuple #[.pointer r100, .int .i64 r101]) ∧
  ∃ C0 : World → Prop, C0 (World.drew w15) ∧
  cond (r79 == 0)
  (∃ (n0 : Int), ∃ (n1 : Int), ∃ (n2 : Int), ∃ (n3 : Int), ∃ (n4 : Int), ∃ (n5 : Int), ∃ (n6 : Int), ∃ (n7 : Int), ∃ (n8 : Int), ∃ (s0p : Option Addr), ∃ (s0l : Nat), ∃ (s0c : Nat), ∃ (s1p : Option Addr), ∃ (s1l : Nat), ∃ (s1c : Nat), ∃ (n9 : Int), ∃ (n10 : Int), ∃ (t0 : ByteArray), ∃ (n11 : Int), ∃ (n12 : Int), ∃ (s2p : Option Addr), ∃ (s2l : Nat), ∃ (s2c : Nat), (∀ (w16 : World), C0 w16 →
  Ld_api_Msg w16 (⟨b0, 0, none⟩) fun n13 n14 n15 n16 n17 n18 n19 n20 n21 s3p s3l s3c s4p s4l s4c n22 n23 t1 n24 n25 s5p s5l s5c =>
  Value.agg #[.int .i64 n13, .int .i64 n14, .int .i64 n15, .int .i64 n16, .int .i64 n17, .int .i64 n18, .int .i64 n19, .int .i64 n20, .int .i64 n21, .slice s3p s3l s3c, .slice s4p s4l s4c, .int .i64 n22, .int .i64 n23, .string t1, .int .i64 n24, .int .i64 n25, .slice s5p s5l s5c] = .agg #[.int .i64 n0, .int .i64 n1, .int .i64 n2, .int .i64 n3, .int .i64 n4, .int .i64 n5, .int .i64 n6, .int .i64 n7, .int .i64 n8, .slice s0p s0l s0c, .slice s1p s1l s1c, .int .i64 n9, .int .i64 n10, .string t0, .int .i64 n11, .int .i64 n12, .slice s2p s2l s2c]) ∧
  Calls Try.prog 12 #[.int .i64 0, .int .i64 1, .int .i64 1] (World.drew w15) fun e14 w17 =>
  ∃ (r102 : Int), ∃ (r103 : Int), ∃ (r104 : Int), ∃ (r105 : Int), ∃ (r106 : Int), ∃ (r107 : Int), ∃ (r108 : Int), ∃ (r109 : Int), ∃ (r110 : Int), ∃ (r111p : Option Addr), ∃ (r111l : Nat), ∃ (r111c : Nat), ∃ (r112p : Option Addr), ∃ (r112l : Nat), ∃ (r112c : Nat), ∃ (r113 : Int), ∃ (r114 : Int), ∃ (r115 : ByteArray), ∃ (r116 : Int), ∃ (r117 : Int), ∃ (r118p : Option Addr), ∃ (r118l : Nat), ∃ (r118c : Nat), e14 = .returned (.agg #[.int .i64 r102, .int .i64 r103, .int .i64 r104, .int .i64 r105, .int .i64 r106, .int .i64 r107, .int .i64 r108, .int .i64 r109, .int .i64 r110, .slice r111p r111l r111c, .slice r112p r112l r112c, .int .i64 r113, .int .i64 r114, .string r115, .int .i64 r116, .int .i64 r117, .slice r118p r118l r118c]) ∧
  C0 w17 ∧
  Calls Try.prog 18 #[.agg #[.int .i64 n0, .int .i64 n1, .int .i64 n2, .int .i64 n3, .int .i64 n4, .int .i64 n5, .int .i64 n6, .int .i64 n7, .int .i64 n8, .slice s0p s0l s0c, .slice s1p s1l s1c, .int .i64 n9, .int .i64 n10, .string t0, .int .i64 n11, .int .i64 n12, .slice s2p s2l s2c], .agg #[.int .i64 r102, .int .i64 r103, .int .i64 r104, .int .i64 r105, .int .i64 r106, .int .i64 r107, .int .i64 r108, .int .i64 r109, .int .i64 r110, .slice r111p r111l r111c, .slice r112p r112l r112c, .int .i64 r113, .int .i64 r114, .string r115, .int .i64 r116, .int .i64 r117, .slice r118p r118l r118c]] w17 fun e15 w18 =>
  ∃ (r119 : Bool), e15 = .returned (.bool r119) ∧
  cond r119
  (cond (r97 == 8)
  (cond (r99 == 0)
  (cond (r98 == 3)
  (Calls Try.prog 19 #[.pointer r1] w18 fun e16 w19 =>
  ∃ (r120 : Int), e16 = .returned (.int .i64 r120) ∧
  cond (r120 == 2)
  (R (.returned (.bool (r101 == 1))) w19)
  (R (.returned (.bool false)) w19))
  (R (.returned (.bool false)) w18))
  (R (.returned (.bool false)) w18))
  (R (.returned (.bool false)) w18))
  (R (.returned (.bool false)) w18))
  (R (.returned (.bool false)) (World.drew w15))))))))))))
def S_law24_NetKnown_ann : Ann := (.seq .leaf (.seq .leaf (.seq .leaf (.seq .leaf (.seq .leaf (.seq .leaf (.seq .leaf (.seq .leaf (.seq .leaf (.seq .leaf (.seq .leaf (.seq .leaf (.seq .anyl .leaf)))))))))))))
theorem S_law24_NetKnown_eq (w : World) (R : Ending → World → Prop) : X Try.prog Try.f4.ntmps (bodyOf Try.f4) S_law24_NetKnown_ann (argEnv 0 []) w (fun e w' => resK Try.prog Try.f4.results.toList e w' [] fun vs => R (.returned (pack vs)) w') (fun e w' => resK Try.prog Try.f4.results.toList e w' [] fun vs => R (.returned (pack vs)) w') (fun _ _ _ => False) = S_law24_NetKnown w R := by kernel_rfl
theorem S_law24_NetKnown_ok (w : World) (R : Ending → World → Prop) (h : S_law24_NetKnown w R) : Calls Try.prog 4 #[] w R :=
  calls_of_X (an := S_law24_NetKnown_ann) wide_ok Try.func4 (by kernel_rfl) (by kernel_rfl) (by rw [S_law24_NetKnown_eq]; exact h)

def S_law24_NetOrders_l0 (n0 : Int) (copies0p : Option Addr) (copies0l : Nat) (R : Ending → World → Prop) (r1 : Option Addr) (k0 : Option Addr → Nat → Nat → World → Prop) (want1p : Option Addr) (want1l : Nat) (want1c : Nat) (i2 : Int) (w8 : World) (I2 : Option Addr → Nat → Nat → Int → World → Prop) (M2 : Option Addr → Nat → Nat → Int → World → Nat) : Prop :=
  cond (decide (i2 < (Nat.cast copies0l : Int)))
  (cond (decide (i2 < 40))
  (IdxC copies0p copies0l i2 1 fun a0 =>
  LdI .i64 w8 a0 fun n1 =>
  DivC (IntKind.wrap .i64 (1 + (bAnd .i64 n0 31)))
  (Calls Try.prog 16 #[.pointer r1, .int .i64 (IntKind.wrap .i64 ((Int.tmod (bAnd .i64 n1 65535) (IntKind.wrap .i64 (1 + (bAnd .i64 n0 31)))) + 1))] w8 fun e4 w9 =>
  ∃ (r21 : Int), ∃ (r22 : Int), e4 = .returned (.tuple #[.int .i64 r21, .int .i64 r22]) ∧
  cond (r22 != 0)
  (R (.returned (.bool false)) w9)
  (cond (r21 != (IntKind.wrap .i64 ((IntKind.wrap .i64 ((IntKind.wrap .i64 (1 + (bAnd .i64 n0 31))) + i2)) + 1)))
  (R (.returned (.bool false)) w9)
  (NewC (.cells #[.int .i64 (Int.tmod (bAnd .i64 n1 65535) (IntKind.wrap .i64 (1 + (bAnd .i64 n0 31))))] 3 (0, 0)) w9 fun b1 w10 =>
  RunS Try.prog (Builtin.append_ #[47, 47] 47 #[.slice want1p want1l want1c, .slice (some (⟨b1, 0, none⟩)) 1 1]) w10 fun s1p s1l s1c w11 =>
  I2 s1p s1l s1c (IntKind.wrap .i64 (i2 + 1)) w11 ∧ M2 s1p s1l s1c (IntKind.wrap .i64 (i2 + 1)) w11 < M2 want1p want1l want1c i2 w8))))
  (k0 want1p want1l want1c w8))
  (k0 want1p want1l want1c w8)
def S_law24_NetOrders_l1 (R : Ending → World → Prop) (r1 : Option Addr) (want2p : Option Addr) (want2l : Nat) (i3 : Int) (w13 : World) (I3 : Int → World → Prop) (M3 : Int → World → Nat) : Prop :=
  cond (decide (i3 < (Nat.cast want2l : Int)))
  (Calls Try.prog 14 #[.pointer r1, .int .i64 0] w13 fun e5 w14 =>
  ∃ (r23 : Int), ∃ (r24 : Int), e5 = .returned (.tuple #[.int .i64 r23, .int .i64 r24]) ∧
  Calls Try.prog 15 #[.pointer r1, .int .i64 r23] w14 fun e6 w15 =>
  ∃ (r25 : Int), ∃ (r26 : Int), ∃ (r27 : Int), ∃ (r28 : Int), ∃ (r29 : Int), ∃ (r30 : Int), ∃ (r31 : Int), ∃ (r32 : Int), ∃ (r33 : Int), ∃ (r34p : Option Addr), ∃ (r34l : Nat), ∃ (r34c : Nat), ∃ (r35p : Option Addr), ∃ (r35l : Nat), ∃ (r35c : Nat), ∃ (r36 : Int), ∃ (r37 : Int), ∃ (r38 : ByteArray), ∃ (r39 : Int), ∃ (r40 : Int), ∃ (r41p : Option Addr), ∃ (r41l : Nat), ∃ (r41c : Nat), ∃ (r42 : Int), e6 = .returned (.tuple #[.agg #[.int .i64 r25, .int .i64 r26, .int .i64 r27, .int .i64 r28, .int .i64 r29, .int .i64 r30, .int .i64 r31, .int .i64 r32, .int .i64 r33, .slice r34p r34l r34c, .slice r35p r35l r35c, .int .i64 r36, .int .i64 r37, .string r38, .int .i64 r39, .int .i64 r40, .slice r41p r41l r41c], .int .i64 r42]) ∧
  NewC (.cells #[.int .i64 0, .int .i64 0, .int .i64 0, .int .i64 0, .int .i64 0, .int .i64 0, .int .i64 0, .int .i64 0, .int .i64 0, .slice none 0 0, .slice none 0 0, .int .i64 0, .int .i64 0, .string (⟨#[]⟩), .int .i64 0, .int .i64 0, .slice none 0 0] 37 (0, 0)) w15 fun b2 w16 =>
  St_api_Msg w16 (⟨b2, 0, none⟩) r25 r26 r27 r28 r29 r30 r31 r32 r33 r34p r34l r34c r35p r35l r35c r36 r37 r38 r39 r40 r41p r41l r41c fun w17 =>
  ∃ C0 : World → Prop, C0 (World.drew w17) ∧
  cond (r24 != 0)
  (R (.returned (.bool false)) (World.drew w17))
  (cond (r42 != 0)
  (R (.returned (.bool false)) (World.drew w17))
  (cond (r23 != (IntKind.wrap .i64 (i3 + 1)))
  (R (.returned (.bool false)) (World.drew w17))
  (∃ (n2 : Int), ∃ (n3 : Int), ∃ (n4 : Int), ∃ (n5 : Int), ∃ (n6 : Int), ∃ (n7 : Int), ∃ (n8 : Int), ∃ (n9 : Int), ∃ (n10 : Int), ∃ (s2p : Option Addr), ∃ (s2l : Nat), ∃ (s2c : Nat), ∃ (s3p : Option Addr), ∃ (s3l : Nat), ∃ (s3c : Nat), ∃ (n11 : Int), ∃ (n12 : Int), ∃ (t0 : ByteArray), ∃ (n13 : Int), ∃ (n14 : Int), ∃ (s4p : Option Addr), ∃ (s4l : Nat), ∃ (s4c : Nat), (∀ (w18 : World), C0 w18 →
  Ld_api_Msg w18 (⟨b2, 0, none⟩) fun n15 n16 n17 n18 n19 n20 n21 n22 n23 s5p s5l s5c s6p s6l s6c n24 n25 t1 n26 n27 s7p s7l s7c =>
  Value.agg #[.int .i64 n15, .int .i64 n16, .int .i64 n17, .int .i64 n18, .int .i64 n19, .int .i64 n20, .int .i64 n21, .int .i64 n22, .int .i64 n23, .slice s5p s5l s5c, .slice s6p s6l s6c, .int .i64 n24, .int .i64 n25, .string t1, .int .i64 n26, .int .i64 n27, .slice s7p s7l s7c] = .agg #[.int .i64 n2, .int .i64 n3, .int .i64 n4, .int .i64 n5, .int .i64 n6, .int .i64 n7, .int .i64 n8, .int .i64 n9, .int .i64 n10, .slice s2p s2l s2c, .slice s3p s3l s3c, .int .i64 n11, .int .i64 n12, .string t0, .int .i64 n13, .int .i64 n14, .slice s4p s4l s4c]) ∧
  IdxC want2p want2l i3 1 fun a1 =>
  LdIQ .i64 C0 a1 fun n28 =>
  Calls Try.prog 12 #[.int .i64 0, .int .i64 1, .int .i64 n28] (World.drew w17) fun e7 w19 =>
  ∃ (r43 : Int), ∃ (r44 : Int), ∃ (r45 : Int), ∃ (r46 : Int), ∃ (r47 : Int), ∃ (r48 : Int), ∃ (r49 : Int), ∃ (r50 : Int), ∃ (r51 : Int), ∃ (r52p : Option Addr), ∃ (r52l : Nat), ∃ (r52c : Nat), ∃ (r53p : Option Addr), ∃ (r53l : Nat), ∃ (r53c : Nat), ∃ (r54 : Int), ∃ (r55 : Int), ∃ (r56 : ByteArray), ∃ (r57 : Int), ∃ (r58 : Int), ∃ (r59p : Option Addr), ∃ (r59l : Nat), ∃ (r59c : Nat), e7 = .returned (.agg #[.int .i64 r43, .int .i64 r44, .int .i64 r45, .int .i64 r46, .int .i64 r47, .int .i64 r48, .int .i64 r49, .int .i64 r50, .int .i64 r51, .slice r52p r52l r52c, .slice r53p r53l r53c, .int .i64 r54, .int .i64 r55, .string r56, .int .i64 r57, .int .i64 r58, .slice r59p r59l r59c]) ∧
  C0 w19 ∧
  Calls Try.prog 18 #[.agg #[.int .i64 n2, .int .i64 n3, .int .i64 n4, .int .i64 n5, .int .i64 n6, .int .i64 n7, .int .i64 n8, .int .i64 n9, .int .i64 n10, .slice s2p s2l s2c, .slice s3p s3l s3c, .int .i64 n11, .int .i64 n12, .string t0, .int .i64 n13, .int .i64 n14, .slice s4p s4l s4c], .agg #[.int .i64 r43, .int .i64 r44, .int .i64 r45, .int .i64 r46, .int .i64 r47, .int .i64 r48, .int .i64 r49, .int .i64 r50, .int .i64 r51, .slice r52p r52l r52c, .slice r53p r53l r53c, .int .i64 r54, .int .i64 r55, .string r56, .int .i64 r57, .int .i64 r58, .slice r59p r59l r59c]] w19 fun e8 w20 =>
  ∃ (r60 : Bool), e8 = .returned (.bool r60) ∧
  C0 w20 ∧
  cond (!r60)
  (R (.returned (.bool false)) w20)
  (I3 (IntKind.wrap .i64 (i3 + 1)) w20 ∧ M3 (IntKind.wrap .i64 (i3 + 1)) w20 < M3 i3 w13)))))
  (Calls Try.prog 14 #[.pointer r1, .int .i64 0] w13 fun e9 w21 =>
  ∃ (r61 : Int), ∃ (r62 : Int), e9 = .returned (.tuple #[.int .i64 r61, .int .i64 r62]) ∧
  cond (r62 == 17)
  (Calls Try.prog 13 #[.pointer r1] w21 fun e10 w22 =>
  ∃ (r63 : Int), e10 = .returned (.int .i64 r63) ∧
  R (.returned (.bool (r63 == 0))) w22)
  (R (.returned (.bool false)) w21))
def S_law24_NetOrders_j0 (R : Ending → World → Prop) (r1 : Option Addr) (want2p : Option Addr) (want2l : Nat) (w12 : World) : Prop :=
  ∃ (I3 : Int → World → Prop) (M3 : Int → World → Nat), I3 0 w12 ∧
  ∀ (i3 : Int) (w13 : World), I3 i3 w13 →
  S_law24_NetOrders_l1 R r1 want2p want2l i3 w13 I3 M3
def S_law24_NetOrders_l2 (n0 : Int) (copies0p : Option Addr) (copies0l : Nat) (R : Ending → World → Prop) (r1 : Option Addr) (want0p : Option Addr) (want0l : Nat) (want0c : Nat) (i1 : Int) (w5 : World) (I1 : Option Addr → Nat → Nat → Int → World → Prop) (M1 : Option Addr → Nat → Nat → Int → World → Nat) : Prop :=
  cond (decide (i1 < (IntKind.wrap .i64 (1 + (bAnd .i64 n0 31)))))
  (NewC (.cells #[.int .i64 i1] 3 (0, 0)) w5 fun b0 w6 =>
  RunS Try.prog (Builtin.append_ #[47, 47] 47 #[.slice want0p want0l want0c, .slice (some (⟨b0, 0, none⟩)) 1 1]) w6 fun s0p s0l s0c w7 =>
  I1 s0p s0l s0c (IntKind.wrap .i64 (i1 + 1)) w7 ∧ M1 s0p s0l s0c (IntKind.wrap .i64 (i1 + 1)) w7 < M1 want0p want0l want0c i1 w5)
  (∀ k0 : Option Addr → Nat → Nat → World → Prop,
  (∀ (want2p : Option Addr) (want2l : Nat) (want2c : Nat) (w12 : World), S_law24_NetOrders_j0 R r1 want2p want2l w12 → k0 want2p want2l want2c w12) →
  ∃ (I2 : Option Addr → Nat → Nat → Int → World → Prop) (M2 : Option Addr → Nat → Nat → Int → World → Nat), I2 want0p want0l want0c 0 w5 ∧
  ∀ (want1p : Option Addr) (want1l : Nat) (want1c : Nat) (i2 : Int) (w8 : World), I2 want1p want1l want1c i2 w8 →
  S_law24_NetOrders_l0 n0 copies0p copies0l R r1 k0 want1p want1l want1c i2 w8 I2 M2)
def S_law24_NetOrders_l3 (n0 : Int) (copies0p : Option Addr) (copies0l : Nat) (R : Ending → World → Prop) (r1 : Option Addr) (i0 : Int) (w2 : World) (I0 : Int → World → Prop) (M0 : Int → World → Nat) : Prop :=
  cond (decide (i0 < (IntKind.wrap .i64 (1 + (bAnd .i64 n0 31)))))
  (Calls Try.prog 12 #[.int .i64 0, .int .i64 1, .int .i64 i0] w2 fun e2 w3 =>
  ∃ (r2 : Int), ∃ (r3 : Int), ∃ (r4 : Int), ∃ (r5 : Int), ∃ (r6 : Int), ∃ (r7 : Int), ∃ (r8 : Int), ∃ (r9 : Int), ∃ (r10 : Int), ∃ (r11p : Option Addr), ∃ (r11l : Nat), ∃ (r11c : Nat), ∃ (r12p : Option Addr), ∃ (r12l : Nat), ∃ (r12c : Nat), ∃ (r13 : Int), ∃ (r14 : Int), ∃ (r15 : ByteArray), ∃ (r16 : Int), ∃ (r17 : Int), ∃ (r18p : Option Addr), ∃ (r18l : Nat), ∃ (r18c : Nat), e2 = .returned (.agg #[.int .i64 r2, .int .i64 r3, .int .i64 r4, .int .i64 r5, .int .i64 r6, .int .i64 r7, .int .i64 r8, .int .i64 r9, .int .i64 r10, .slice r11p r11l r11c, .slice r12p r12l r12c, .int .i64 r13, .int .i64 r14, .string r15, .int .i64 r16, .int .i64 r17, .slice r18p r18l r18c]) ∧
  Calls Try.prog 11 #[.pointer r1, .agg #[.int .i64 r2, .int .i64 r3, .int .i64 r4, .int .i64 r5, .int .i64 r6, .int .i64 r7, .int .i64 r8, .int .i64 r9, .int .i64 r10, .slice r11p r11l r11c, .slice r12p r12l r12c, .int .i64 r13, .int .i64 r14, .string r15, .int .i64 r16, .int .i64 r17, .slice r18p r18l r18c]] w3 fun e3 w4 =>
  ∃ (r19 : Int), ∃ (r20 : Int), e3 = .returned (.tuple #[.int .i64 r19, .int .i64 r20]) ∧
  cond (r20 != 0)
  (R (.returned (.bool false)) w4)
  (cond (r19 != (IntKind.wrap .i64 (i0 + 1)))
  (R (.returned (.bool false)) w4)
  (I0 (IntKind.wrap .i64 (i0 + 1)) w4 ∧ M0 (IntKind.wrap .i64 (i0 + 1)) w4 < M0 i0 w2)))
  (∃ (I1 : Option Addr → Nat → Nat → Int → World → Prop) (M1 : Option Addr → Nat → Nat → Int → World → Nat), I1 none 0 0 0 w2 ∧
  ∀ (want0p : Option Addr) (want0l : Nat) (want0c : Nat) (i1 : Int) (w5 : World), I1 want0p want0l want0c i1 w5 →
  S_law24_NetOrders_l2 n0 copies0p copies0l R r1 want0p want0l want0c i1 w5 I1 M1)
def S_law24_NetOrders (n0 : Int) (copies0p : Option Addr) (copies0l : Nat) (copies0c : Nat) (w : World) (R : Ending → World → Prop) : Prop :=
  Calls Try.prog 8 #[] w fun e0 w0 =>
  ∃ (r0 : Bool), e0 = .returned (.bool r0) ∧
  cond (!r0)
  (R (.returned (.bool false)) w0)
  (Calls Try.prog 9 #[.int .i64 200] w0 fun e1 w1 =>
  ∃ (r1 : Option Addr), e1 = .returned (.pointer r1) ∧
  cond r1.isNone
  (R (.returned (.bool false)) w1)
  (∃ (I0 : Int → World → Prop) (M0 : Int → World → Nat), I0 0 w1 ∧
  ∀ (i0 : Int) (w2 : World), I0 i0 w2 →
  S_law24_NetOrders_l3 n0 copies0p copies0l R r1 i0 w2 I0 M0))
def S_law24_NetOrders_ann : Ann := (.seq .leaf (.seq .leaf (.seq .leaf (.seq .leaf (.seq .leaf (.seq (.seq .leaf (.block (.loop [1, 5, 6] [(7, (.int .i64))] .leaf))) (.seq .leaf (.seq (.seq .leaf (.block (.loop [1, 5, 6] [(10, .slice), (11, (.int .i64))] .leaf))) (.seq (.seq .leaf (.jblock [6] [(10, .slice)] (.loop [1, 5, 6] [(10, .slice), (12, (.int .i64))] .leaf) .leaf)) (.seq (.seq .leaf (.block (.loop [6, 10] [(16, (.int .i64))] (.seq .leaf (.seq (.block (.seq .leaf (.seq .leaf (.seq .anyl .leaf)))) .leaf))))) .leaf))))))))))
theorem S_law24_NetOrders_eq (n0 : Int) (copies0p : Option Addr) (copies0l : Nat) (copies0c : Nat) (w : World) (R : Ending → World → Prop) : X Try.prog Try.f5.ntmps (bodyOf Try.f5) S_law24_NetOrders_ann (argEnv 0 [.int .i64 n0, .slice copies0p copies0l copies0c]) w (fun e w' => resK Try.prog Try.f5.results.toList e w' [] fun vs => R (.returned (pack vs)) w') (fun e w' => resK Try.prog Try.f5.results.toList e w' [] fun vs => R (.returned (pack vs)) w') (fun _ _ _ => False) = S_law24_NetOrders n0 copies0p copies0l copies0c w R := by kernel_rfl
theorem S_law24_NetOrders_ok (n0 : Int) (copies0p : Option Addr) (copies0l : Nat) (copies0c : Nat) (w : World) (R : Ending → World → Prop) (h : S_law24_NetOrders n0 copies0p copies0l copies0c w R) : Calls Try.prog 5 #[.int .i64 n0, .slice copies0p copies0l copies0c] w R :=
  calls_of_X (an := S_law24_NetOrders_ann) wide_ok Try.func5 (by kernel_rfl) (by kernel_rfl) (by rw [S_law24_NetOrders_eq]; exact h)

def S_law24_NetCounts_j0 (most0 : Int) (R : Ending → World → Prop) (r2 : Option Addr) (k0 : Int → Int → World → Prop) (in1 : Int) (out1 : Int) (w17 : World) : Prop :=
  Calls Try.prog 19 #[.pointer r2] w17 fun e12 w18 =>
  ∃ (r33 : Int), e12 = .returned (.int .i64 r33) ∧
  Calls Try.prog 13 #[.pointer r2] w18 fun e13 w19 =>
  ∃ (r34 : Int), e13 = .returned (.int .i64 r34) ∧
  cond ((IntKind.wrap .i64 ((IntKind.wrap .i64 (r33 + out1)) + r34)) != in1)
  (R (.returned (.bool false)) w19)
  (Calls Try.prog 19 #[.pointer r2] w19 fun e14 w20 =>
  ∃ (r35 : Int), e14 = .returned (.int .i64 r35) ∧
  cond (decide (r35 > (IntKind.wrap .i64 (1 + (bAnd .i64 most0 31)))))
  (R (.returned (.bool false)) w20)
  (k0 in1 out1 w20))
def S_law24_NetCounts_j1 (in0 : Int) (out0 : Int) (i0 : Int) (w3 : World) (I0 : Int → Int → Int → World → Prop) (M0 : Int → Int → Int → World → Nat) (in2 : Int) (out2 : Int) (w21 : World) : Prop :=
  I0 in2 out2 (IntKind.wrap .i64 (i0 + 1)) w21 ∧ M0 in2 out2 (IntKind.wrap .i64 (i0 + 1)) w21 < M0 in0 out0 i0 w3
def S_law24_NetCounts_l0 (most0 : Int) (l0p : Option Addr) (l0l : Nat) (R : Ending → World → Prop) (r2 : Option Addr) (in0 : Int) (out0 : Int) (i0 : Int) (w3 : World) (I0 : Int → Int → Int → World → Prop) (M0 : Int → Int → Int → World → Nat) : Prop :=
  cond (decide (i0 < (Nat.cast l0l : Int)))
  (∀ k0 : Int → Int → World → Prop,
  (∀ (in2 : Int) (out2 : Int) (w21 : World), S_law24_NetCounts_j1 in0 out0 i0 w3 I0 M0 in2 out2 w21 → k0 in2 out2 w21) →
  IdxC l0p l0l i0 21 fun a0 =>
  Ld_tidemarklaw24_Deed w3 a0 fun n0 n1 n2 n3 n4 n5 n6 n7 n8 n9 n10 n11 n12 s0p s0l s0c s1p s1l s1c n13 n14 t0 n15 n16 s2p s2l s2c =>
  NewC (.cells #[.int .i64 0, .int .i64 0, .int .i64 0, .int .i64 0, .int .i64 0, .int .i64 0, .int .i64 0, .int .i64 0, .int .i64 0, .int .i64 0, .int .i64 0, .int .i64 0, .int .i64 0, .slice none 0 0, .slice none 0 0, .int .i64 0, .int .i64 0, .string (⟨#[]⟩), .int .i64 0, .int .i64 0, .slice none 0 0] 52 (0, 0)) w3 fun b0 w4 =>
  St_tidemarklaw24_Deed w4 (⟨b0, 0, none⟩) n0 n1 n2 n3 n4 n5 n6 n7 n8 n9 n10 n11 n12 s0p s0l s0c s1p s1l s1c n13 n14 t0 n15 n16 s2p s2l s2c fun w5 =>
  ∀ k1 : Int → Int → World → Prop,
  (∀ (in1 : Int) (out1 : Int) (w17 : World), S_law24_NetCounts_j0 most0 R r2 k0 in1 out1 w17 → k1 in1 out1 w17) →
  LdI .i64 w5 (⟨b0, 0, none⟩) fun n17 =>
  cond (decide (n17 ≤ 3))
  (Ld_api_Msg w5 (Addr.add (⟨b0, 0, none⟩) 4) fun n18 n19 n20 n21 n22 n23 n24 n25 n26 s3p s3l s3c s4p s4l s4c n27 n28 t1 n29 n30 s5p s5l s5c =>
  Calls Try.prog 11 #[.pointer r2, .agg #[.int .i64 n18, .int .i64 n19, .int .i64 n20, .int .i64 n21, .int .i64 n22, .int .i64 n23, .int .i64 n24, .int .i64 n25, .int .i64 n26, .slice s3p s3l s3c, .slice s4p s4l s4c, .int .i64 n27, .int .i64 n28, .string t1, .int .i64 n29, .int .i64 n30, .slice s5p s5l s5c]] w5 fun e3 w6 =>
  ∃ (r3 : Int), ∃ (r4 : Int), e3 = .returned (.tuple #[.int .i64 r3, .int .i64 r4]) ∧
  k1 (IntKind.wrap .i64 (in0 + 1)) out0 w6)
  (LdI .i64 w5 (⟨b0, 0, none⟩) fun n31 =>
  cond (decide (n31 ≤ 6))
  (LdI .i64 w5 (Addr.add (⟨b0, 0, none⟩) 3) fun n32 =>
  Calls Try.prog 14 #[.pointer r2, .int .i64 (bAnd .i64 n32 65535)] w5 fun e4 w7 =>
  ∃ (r5 : Int), ∃ (r6 : Int), e4 = .returned (.tuple #[.int .i64 r5, .int .i64 r6]) ∧
  cond (r6 != 0)
  (Calls Try.prog 19 #[.pointer r2] w7 fun e5 w8 =>
  ∃ (r7 : Int), e5 = .returned (.int .i64 r7) ∧
  cond (r7 != 0)
  (R (.returned (.bool false)) w8)
  (cond (r6 != 17)
  (R (.returned (.bool false)) w8)
  (k0 in0 out0 w8)))
  (Calls Try.prog 15 #[.pointer r2, .int .i64 r5] w7 fun e6 w9 =>
  ∃ (r8 : Int), ∃ (r9 : Int), ∃ (r10 : Int), ∃ (r11 : Int), ∃ (r12 : Int), ∃ (r13 : Int), ∃ (r14 : Int), ∃ (r15 : Int), ∃ (r16 : Int), ∃ (r17p : Option Addr), ∃ (r17l : Nat), ∃ (r17c : Nat), ∃ (r18p : Option Addr), ∃ (r18l : Nat), ∃ (r18c : Nat), ∃ (r19 : Int), ∃ (r20 : Int), ∃ (r21 : ByteArray), ∃ (r22 : Int), ∃ (r23 : Int), ∃ (r24p : Option Addr), ∃ (r24l : Nat), ∃ (r24c : Nat), ∃ (r25 : Int), e6 = .returned (.tuple #[.agg #[.int .i64 r8, .int .i64 r9, .int .i64 r10, .int .i64 r11, .int .i64 r12, .int .i64 r13, .int .i64 r14, .int .i64 r15, .int .i64 r16, .slice r17p r17l r17c, .slice r18p r18l r18c, .int .i64 r19, .int .i64 r20, .string r21, .int .i64 r22, .int .i64 r23, .slice r24p r24l r24c], .int .i64 r25]) ∧
  NewC (.cells #[.int .i64 0, .int .i64 0, .int .i64 0, .int .i64 0, .int .i64 0, .int .i64 0, .int .i64 0, .int .i64 0, .int .i64 0, .slice none 0 0, .slice none 0 0, .int .i64 0, .int .i64 0, .string (⟨#[]⟩), .int .i64 0, .int .i64 0, .slice none 0 0] 37 (0, 0)) w9 fun b1 w10 =>
  St_api_Msg w10 (⟨b1, 0, none⟩) r8 r9 r10 r11 r12 r13 r14 r15 r16 r17p r17l r17c r18p r18l r18c r19 r20 r21 r22 r23 r24p r24l r24c fun w11 =>
  cond (r25 != 0)
  (R (.returned (.bool false)) w11)
  (k1 in0 (IntKind.wrap .i64 (out0 + 1)) w11)))
  (LdI .i64 w5 (⟨b0, 0, none⟩) fun n33 =>
  cond (n33 == 7)
  (LdI .i64 w5 (Addr.add (⟨b0, 0, none⟩) 3) fun n34 =>
  Calls Try.prog 14 #[.pointer r2, .int .i64 (bAnd .i64 n34 65535)] w5 fun e7 w12 =>
  ∃ (r26 : Int), ∃ (r27 : Int), e7 = .returned (.tuple #[.int .i64 r26, .int .i64 r27]) ∧
  Calls Try.prog 16 #[.pointer r2, .int .i64 r26] w12 fun e8 w13 =>
  ∃ (r28 : Int), ∃ (r29 : Int), e8 = .returned (.tuple #[.int .i64 r28, .int .i64 r29]) ∧
  cond (r27 == 0)
  (cond (r29 == 0)
  (k1 (IntKind.wrap .i64 (in0 + 1)) out0 w13)
  (k1 in0 out0 w13))
  (k1 in0 out0 w13))
  (LdI .i64 w5 (⟨b0, 0, none⟩) fun n35 =>
  cond (n35 == 8)
  (LdI .i64 w5 (Addr.add (⟨b0, 0, none⟩) 3) fun n36 =>
  Calls Try.prog 14 #[.pointer r2, .int .i64 (bAnd .i64 n36 65535)] w5 fun e9 w14 =>
  ∃ (r30 : Int), ∃ (r31 : Int), e9 = .returned (.tuple #[.int .i64 r30, .int .i64 r31]) ∧
  cond (r31 == 0)
  (Calls Try.prog 21 #[.pointer r2, .int .i64 r30] w14 fun e10 w15 =>
  ∃ (r32 : Int), e10 = .returned (.int .i64 r32) ∧
  cond (r32 != 0)
  (R (.returned (.bool false)) w15)
  (k1 in0 out0 w15))
  (k1 in0 out0 w14))
  (LdI .i64 w5 (Addr.add (⟨b0, 0, none⟩) 1) fun n37 =>
  LdI .i64 w5 (Addr.add (⟨b0, 0, none⟩) 2) fun n38 =>
  LdI .i64 w5 (⟨b0, 0, none⟩) fun n39 =>
  Calls Try.prog 10 #[.pointer r2, .int .i64 n37, .int .i64 n38, .bool (n39 == 9)] w5 fun e11 w16 =>
  e11 = .returned (.tuple #[]) ∧
  k1 in0 out0 w16)))))
  (R (.returned (.bool true)) w3)
def S_law24_NetCounts (most0 : Int) (l0p : Option Addr) (l0l : Nat) (l0c : Nat) (w : World) (R : Ending → World → Prop) : Prop :=
  Calls Try.prog 8 #[] w fun e0 w0 =>
  ∃ (r0 : Bool), e0 = .returned (.bool r0) ∧
  cond (!r0)
  (R (.returned (.bool false)) w0)
  (Calls Try.prog 20 #[.slice l0p l0l l0c] w0 fun e1 w1 =>
  ∃ (r1 : Bool), e1 = .returned (.bool r1) ∧
  cond r1
  (R (.returned (.bool true)) w1)
  (Calls Try.prog 9 #[.int .i64 (IntKind.wrap .i64 (1 + (bAnd .i64 most0 31)))] w1 fun e2 w2 =>
  ∃ (r2 : Option Addr), e2 = .returned (.pointer r2) ∧
  cond r2.isNone
  (R (.returned (.bool false)) w2)
  (∃ (I0 : Int → Int → Int → World → Prop) (M0 : Int → Int → Int → World → Nat), I0 0 0 0 w2 ∧
  ∀ (in0 : Int) (out0 : Int) (i0 : Int) (w3 : World), I0 in0 out0 i0 w3 →
  S_law24_NetCounts_l0 most0 l0p l0l R r2 in0 out0 i0 w3 I0 M0)))
def S_law24_NetCounts_ann : Ann := (.seq .leaf (.seq .leaf (.seq .leaf (.seq .leaf (.seq .leaf (.seq .leaf (.seq .leaf (.seq (.seq .leaf (.block (.loop [0, 1, 5] [(6, (.int .i64)), (7, (.int .i64)), (8, (.int .i64))] (.seq .leaf (.seq (.jblock [0, 1, 5, 8] [(6, (.int .i64)), (7, (.int .i64))] (.seq .leaf (.seq (.jblock [0, 1, 5, 8] [(6, (.int .i64)), (7, (.int .i64))] .leaf .leaf) .leaf)) .leaf) .leaf))))) .leaf))))))))
theorem S_law24_NetCounts_eq (most0 : Int) (l0p : Option Addr) (l0l : Nat) (l0c : Nat) (w : World) (R : Ending → World → Prop) : X Try.prog Try.f6.ntmps (bodyOf Try.f6) S_law24_NetCounts_ann (argEnv 0 [.int .i64 most0, .slice l0p l0l l0c]) w (fun e w' => resK Try.prog Try.f6.results.toList e w' [] fun vs => R (.returned (pack vs)) w') (fun e w' => resK Try.prog Try.f6.results.toList e w' [] fun vs => R (.returned (pack vs)) w') (fun _ _ _ => False) = S_law24_NetCounts most0 l0p l0l l0c w R := by kernel_rfl
theorem S_law24_NetCounts_ok (most0 : Int) (l0p : Option Addr) (l0l : Nat) (l0c : Nat) (w : World) (R : Ending → World → Prop) (h : S_law24_NetCounts most0 l0p l0l l0c w R) : Calls Try.prog 6 #[.int .i64 most0, .slice l0p l0l l0c] w R :=
  calls_of_X (an := S_law24_NetCounts_ann) wide_ok Try.func6 (by kernel_rfl) (by kernel_rfl) (by rw [S_law24_NetCounts_eq]; exact h)

def S_law24_NetPlays_j0 (R : Ending → World → Prop) (r0 : Option Addr) (b0 : Nat) (i0 : Int) (w9 : World) (I0 : Int → World → Prop) (M0 : Int → World → Nat) (ok0 : Bool) (w78 : World) : Prop :=
  cond (!ok0)
  (R (.returned (.bool false)) w78)
  (LdI .i64 w78 (⟨b0, 0, none⟩) fun n118 =>
  LdS w78 (Addr.add (⟨b0, 0, none⟩) 1) fun s35p s35l s35c =>
  LdI .i64 w78 (Addr.add (⟨b0, 0, none⟩) 2) fun n119 =>
  LdS w78 (Addr.add (⟨b0, 0, none⟩) 3) fun s36p s36l s36c =>
  LdI .i64 w78 (Addr.add (⟨b0, 0, none⟩) 4) fun n120 =>
  Calls Try.prog 28 #[.pointer r0, .agg #[.int .i64 n118, .slice s35p s35l s35c, .int .i64 n119, .slice s36p s36l s36c, .int .i64 n120]] w78 fun e16 w79 =>
  ∃ (r80 : Bool), e16 = .returned (.bool r80) ∧
  cond (!r80)
  (R (.returned (.bool false)) w79)
  (I0 (IntKind.wrap .i64 (i0 + 1)) w79 ∧ M0 (IntKind.wrap .i64 (i0 + 1)) w79 < M0 i0 w9))
set_option maxRecDepth 100000 in
def S_law24_NetPlays_l0 (l0p : Option Addr) (l0l : Nat) (R : Ending → World → Prop) (r0 : Option Addr) (b0 : Nat) (i0 : Int) (w9 : World) (I0 : Int → World → Prop) (M0 : Int → World → Nat) : Prop :=
  cond (decide (i0 < (Nat.cast l0l : Int)))
  (IdxC l0p l0l i0 21 fun a0 =>
  Ld_tidemarklaw24_Deed w9 a0 fun n0 n1 n2 n3 n4 n5 n6 n7 n8 n9 n10 n11 n12 s0p s0l s0c s1p s1l s1c n13 n14 t0 n15 n16 s2p s2l s2c =>
  NewC (.cells #[.int .i64 0, .int .i64 0, .int .i64 0, .int .i64 0, .int .i64 0, .int .i64 0, .int .i64 0, .int .i64 0, .int .i64 0, .int .i64 0, .int .i64 0, .int .i64 0, .int .i64 0, .slice none 0 0, .slice none 0 0, .int .i64 0, .int .i64 0, .string (⟨#[]⟩), .int .i64 0, .int .i64 0, .slice none 0 0] 52 (0, 0)) w9 fun b1 w10 =>
  St_tidemarklaw24_Deed w10 (⟨b1, 0, none⟩) n0 n1 n2 n3 n4 n5 n6 n7 n8 n9 n10 n11 n12 s0p s0l s0c s1p s1l s1c n13 n14 t0 n15 n16 s2p s2l s2c fun w11 =>
  ∀ k0 : Bool → World → Prop,
  (∀ (ok0 : Bool) (w78 : World), S_law24_NetPlays_j0 R r0 b0 i0 w9 I0 M0 ok0 w78 → k0 ok0 w78) →
  LdI .i64 w11 (⟨b1, 0, none⟩) fun n17 =>
  cond (decide (n17 ≤ 3))
  (Ld_api_Msg w11 (Addr.add (⟨b1, 0, none⟩) 4) fun n18 n19 n20 n21 n22 n23 n24 n25 n26 s3p s3l s3c s4p s4l s4c n27 n28 t1 n29 n30 s5p s5l s5c =>
  Calls Try.prog 11 #[.pointer r0, .agg #[.int .i64 n18, .int .i64 n19, .int .i64 n20, .int .i64 n21, .int .i64 n22, .int .i64 n23, .int .i64 n24, .int .i64 n25, .int .i64 n26, .slice s3p s3l s3c, .slice s4p s4l s4c, .int .i64 n27, .int .i64 n28, .string t1, .int .i64 n29, .int .i64 n30, .slice s5p s5l s5c]] w11 fun e3 w12 =>
  ∃ (r4 : Int), ∃ (r5 : Int), e3 = .returned (.tuple #[.int .i64 r4, .int .i64 r5]) ∧
  LdI .i64 w12 (⟨b0, 0, none⟩) fun n31 =>
  LdS w12 (Addr.add (⟨b0, 0, none⟩) 1) fun s6p s6l s6c =>
  LdI .i64 w12 (Addr.add (⟨b0, 0, none⟩) 2) fun n32 =>
  LdS w12 (Addr.add (⟨b0, 0, none⟩) 3) fun s7p s7l s7c =>
  LdI .i64 w12 (Addr.add (⟨b0, 0, none⟩) 4) fun n33 =>
  Ld_api_Msg w12 (Addr.add (⟨b1, 0, none⟩) 4) fun n34 n35 n36 n37 n38 n39 n40 n41 n42 s8p s8l s8c s9p s9l s9c n43 n44 t2 n45 n46 s10p s10l s10c =>
  Calls Try.prog 22 #[.agg #[.int .i64 n31, .slice s6p s6l s6c, .int .i64 n32, .slice s7p s7l s7c, .int .i64 n33], .agg #[.int .i64 n34, .int .i64 n35, .int .i64 n36, .int .i64 n37, .int .i64 n38, .int .i64 n39, .int .i64 n40, .int .i64 n41, .int .i64 n42, .slice s8p s8l s8c, .slice s9p s9l s9c, .int .i64 n43, .int .i64 n44, .string t2, .int .i64 n45, .int .i64 n46, .slice s10p s10l s10c]] w12 fun e4 w13 =>
  ∃ (r6 : Int), ∃ (r7p : Option Addr), ∃ (r7l : Nat), ∃ (r7c : Nat), ∃ (r8 : Int), ∃ (r9p : Option Addr), ∃ (r9l : Nat), ∃ (r9c : Nat), ∃ (r10 : Int), ∃ (r11 : Int), ∃ (r12 : Int), e4 = .returned (.tuple #[.agg #[.int .i64 r6, .slice r7p r7l r7c, .int .i64 r8, .slice r9p r9l r9c, .int .i64 r10], .int .i64 r11, .int .i64 r12]) ∧
  NewC (.cells #[.int .i64 0, .slice none 0 0, .int .i64 0, .slice none 0 0, .int .i64 0] 58 (0, 0)) w13 fun b2 w14 =>
  StC w14 (⟨b2, 0, none⟩) (.int .i64 r6) fun w15 =>
  StC w15 (Addr.add (⟨b2, 0, none⟩) 1) (.slice r7p r7l r7c) fun w16 =>
  StC w16 (Addr.add (⟨b2, 0, none⟩) 2) (.int .i64 r8) fun w17 =>
  StC w17 (Addr.add (⟨b2, 0, none⟩) 3) (.slice r9p r9l r9c) fun w18 =>
  StC w18 (Addr.add (⟨b2, 0, none⟩) 4) (.int .i64 r10) fun w19 =>
  LdI .i64 w19 (⟨b2, 0, none⟩) fun n47 =>
  LdS w19 (Addr.add (⟨b2, 0, none⟩) 1) fun s11p s11l s11c =>
  LdI .i64 w19 (Addr.add (⟨b2, 0, none⟩) 2) fun n48 =>
  LdS w19 (Addr.add (⟨b2, 0, none⟩) 3) fun s12p s12l s12c =>
  LdI .i64 w19 (Addr.add (⟨b2, 0, none⟩) 4) fun n49 =>
  StC w19 (⟨b0, 0, none⟩) (.int .i64 n47) fun w20 =>
  StC w20 (Addr.add (⟨b0, 0, none⟩) 1) (.slice s11p s11l s11c) fun w21 =>
  StC w21 (Addr.add (⟨b0, 0, none⟩) 2) (.int .i64 n48) fun w22 =>
  StC w22 (Addr.add (⟨b0, 0, none⟩) 3) (.slice s12p s12l s12c) fun w23 =>
  StC w23 (Addr.add (⟨b0, 0, none⟩) 4) (.int .i64 n49) fun w24 =>
  cond (r4 == r11)
  (k0 (r5 == r12) w24)
  (k0 false w24))
  (LdI .i64 w11 (⟨b1, 0, none⟩) fun n50 =>
  cond (n50 == 4)
  (LdI .i64 w11 (Addr.add (⟨b1, 0, none⟩) 3) fun n51 =>
  Calls Try.prog 14 #[.pointer r0, .int .i64 n51] w11 fun e5 w25 =>
  ∃ (r13 : Int), ∃ (r14 : Int), e5 = .returned (.tuple #[.int .i64 r13, .int .i64 r14]) ∧
  LdI .i64 w25 (⟨b0, 0, none⟩) fun n52 =>
  LdS w25 (Addr.add (⟨b0, 0, none⟩) 1) fun s13p s13l s13c =>
  LdI .i64 w25 (Addr.add (⟨b0, 0, none⟩) 2) fun n53 =>
  LdS w25 (Addr.add (⟨b0, 0, none⟩) 3) fun s14p s14l s14c =>
  LdI .i64 w25 (Addr.add (⟨b0, 0, none⟩) 4) fun n54 =>
  LdI .i64 w25 (Addr.add (⟨b1, 0, none⟩) 3) fun n55 =>
  Calls Try.prog 23 #[.agg #[.int .i64 n52, .slice s13p s13l s13c, .int .i64 n53, .slice s14p s14l s14c, .int .i64 n54], .int .i64 n55] w25 fun e6 w26 =>
  ∃ (r15 : Int), ∃ (r16 : Int), e6 = .returned (.tuple #[.int .i64 r15, .int .i64 r16]) ∧
  cond (r13 == r15)
  (k0 (r14 == r16) w26)
  (k0 false w26))
  (LdI .i64 w11 (⟨b1, 0, none⟩) fun n56 =>
  cond (decide (n56 ≤ 6))
  (LdI .i64 w11 (Addr.add (⟨b1, 0, none⟩) 3) fun n57 =>
  Calls Try.prog 15 #[.pointer r0, .int .i64 n57] w11 fun e7 w27 =>
  ∃ (r17 : Int), ∃ (r18 : Int), ∃ (r19 : Int), ∃ (r20 : Int), ∃ (r21 : Int), ∃ (r22 : Int), ∃ (r23 : Int), ∃ (r24 : Int), ∃ (r25 : Int), ∃ (r26p : Option Addr), ∃ (r26l : Nat), ∃ (r26c : Nat), ∃ (r27p : Option Addr), ∃ (r27l : Nat), ∃ (r27c : Nat), ∃ (r28 : Int), ∃ (r29 : Int), ∃ (r30 : ByteArray), ∃ (r31 : Int), ∃ (r32 : Int), ∃ (r33p : Option Addr), ∃ (r33l : Nat), ∃ (r33c : Nat), ∃ (r34 : Int), e7 = .returned (.tuple #[.agg #[.int .i64 r17, .int .i64 r18, .int .i64 r19, .int .i64 r20, .int .i64 r21, .int .i64 r22, .int .i64 r23, .int .i64 r24, .int .i64 r25, .slice r26p r26l r26c, .slice r27p r27l r27c, .int .i64 r28, .int .i64 r29, .string r30, .int .i64 r31, .int .i64 r32, .slice r33p r33l r33c], .int .i64 r34]) ∧
  NewC (.cells #[.int .i64 0, .int .i64 0, .int .i64 0, .int .i64 0, .int .i64 0, .int .i64 0, .int .i64 0, .int .i64 0, .int .i64 0, .slice none 0 0, .slice none 0 0, .int .i64 0, .int .i64 0, .string (⟨#[]⟩), .int .i64 0, .int .i64 0, .slice none 0 0] 37 (0, 0)) w27 fun b3 w28 =>
  St_api_Msg w28 (⟨b3, 0, none⟩) r17 r18 r19 r20 r21 r22 r23 r24 r25 r26p r26l r26c r27p r27l r27c r28 r29 r30 r31 r32 r33p r33l r33c fun w29 =>
  LdI .i64 w29 (⟨b0, 0, none⟩) fun n58 =>
  LdS w29 (Addr.add (⟨b0, 0, none⟩) 1) fun s15p s15l s15c =>
  LdI .i64 w29 (Addr.add (⟨b0, 0, none⟩) 2) fun n59 =>
  LdS w29 (Addr.add (⟨b0, 0, none⟩) 3) fun s16p s16l s16c =>
  LdI .i64 w29 (Addr.add (⟨b0, 0, none⟩) 4) fun n60 =>
  LdI .i64 w29 (Addr.add (⟨b1, 0, none⟩) 3) fun n61 =>
  Calls Try.prog 24 #[.agg #[.int .i64 n58, .slice s15p s15l s15c, .int .i64 n59, .slice s16p s16l s16c, .int .i64 n60], .int .i64 n61] w29 fun e8 w30 =>
  ∃ (r35 : Int), ∃ (r36p : Option Addr), ∃ (r36l : Nat), ∃ (r36c : Nat), ∃ (r37 : Int), ∃ (r38p : Option Addr), ∃ (r38l : Nat), ∃ (r38c : Nat), ∃ (r39 : Int), ∃ (r40 : Int), ∃ (r41 : Int), ∃ (r42 : Int), ∃ (r43 : Int), ∃ (r44 : Int), ∃ (r45 : Int), ∃ (r46 : Int), ∃ (r47 : Int), ∃ (r48 : Int), ∃ (r49p : Option Addr), ∃ (r49l : Nat), ∃ (r49c : Nat), ∃ (r50p : Option Addr), ∃ (r50l : Nat), ∃ (r50c : Nat), ∃ (r51 : Int), ∃ (r52 : Int), ∃ (r53 : ByteArray), ∃ (r54 : Int), ∃ (r55 : Int), ∃ (r56p : Option Addr), ∃ (r56l : Nat), ∃ (r56c : Nat), ∃ (r57 : Int), e8 = .returned (.tuple #[.agg #[.int .i64 r35, .slice r36p r36l r36c, .int .i64 r37, .slice r38p r38l r38c, .int .i64 r39], .agg #[.int .i64 r40, .int .i64 r41, .int .i64 r42, .int .i64 r43, .int .i64 r44, .int .i64 r45, .int .i64 r46, .int .i64 r47, .int .i64 r48, .slice r49p r49l r49c, .slice r50p r50l r50c, .int .i64 r51, .int .i64 r52, .string r53, .int .i64 r54, .int .i64 r55, .slice r56p r56l r56c], .int .i64 r57]) ∧
  NewC (.cells #[.int .i64 0, .slice none 0 0, .int .i64 0, .slice none 0 0, .int .i64 0] 58 (0, 0)) w30 fun b4 w31 =>
  NewC (.cells #[.int .i64 0, .int .i64 0, .int .i64 0, .int .i64 0, .int .i64 0, .int .i64 0, .int .i64 0, .int .i64 0, .int .i64 0, .slice none 0 0, .slice none 0 0, .int .i64 0, .int .i64 0, .string (⟨#[]⟩), .int .i64 0, .int .i64 0, .slice none 0 0] 37 (0, 0)) w31 fun b5 w32 =>
  StC w32 (⟨b4, 0, none⟩) (.int .i64 r35) fun w33 =>
  StC w33 (Addr.add (⟨b4, 0, none⟩) 1) (.slice r36p r36l r36c) fun w34 =>
  StC w34 (Addr.add (⟨b4, 0, none⟩) 2) (.int .i64 r37) fun w35 =>
  StC w35 (Addr.add (⟨b4, 0, none⟩) 3) (.slice r38p r38l r38c) fun w36 =>
  StC w36 (Addr.add (⟨b4, 0, none⟩) 4) (.int .i64 r39) fun w37 =>
  St_api_Msg w37 (⟨b5, 0, none⟩) r40 r41 r42 r43 r44 r45 r46 r47 r48 r49p r49l r49c r50p r50l r50c r51 r52 r53 r54 r55 r56p r56l r56c fun w38 =>
  LdI .i64 w38 (⟨b4, 0, none⟩) fun n62 =>
  LdS w38 (Addr.add (⟨b4, 0, none⟩) 1) fun s17p s17l s17c =>
  LdI .i64 w38 (Addr.add (⟨b4, 0, none⟩) 2) fun n63 =>
  LdS w38 (Addr.add (⟨b4, 0, none⟩) 3) fun s18p s18l s18c =>
  LdI .i64 w38 (Addr.add (⟨b4, 0, none⟩) 4) fun n64 =>
  StC w38 (⟨b0, 0, none⟩) (.int .i64 n62) fun w39 =>
  StC w39 (Addr.add (⟨b0, 0, none⟩) 1) (.slice s17p s17l s17c) fun w40 =>
  StC w40 (Addr.add (⟨b0, 0, none⟩) 2) (.int .i64 n63) fun w41 =>
  StC w41 (Addr.add (⟨b0, 0, none⟩) 3) (.slice s18p s18l s18c) fun w42 =>
  StC w42 (Addr.add (⟨b0, 0, none⟩) 4) (.int .i64 n64) fun w43 =>
  Ld_api_Msg w43 (⟨b3, 0, none⟩) fun n65 n66 n67 n68 n69 n70 n71 n72 n73 s19p s19l s19c s20p s20l s20c n74 n75 t3 n76 n77 s21p s21l s21c =>
  Ld_api_Msg w43 (⟨b5, 0, none⟩) fun n78 n79 n80 n81 n82 n83 n84 n85 n86 s22p s22l s22c s23p s23l s23c n87 n88 t4 n89 n90 s24p s24l s24c =>
  Calls Try.prog 18 #[.agg #[.int .i64 n65, .int .i64 n66, .int .i64 n67, .int .i64 n68, .int .i64 n69, .int .i64 n70, .int .i64 n71, .int .i64 n72, .int .i64 n73, .slice s19p s19l s19c, .slice s20p s20l s20c, .int .i64 n74, .int .i64 n75, .string t3, .int .i64 n76, .int .i64 n77, .slice s21p s21l s21c], .agg #[.int .i64 n78, .int .i64 n79, .int .i64 n80, .int .i64 n81, .int .i64 n82, .int .i64 n83, .int .i64 n84, .int .i64 n85, .int .i64 n86, .slice s22p s22l s22c, .slice s23p s23l s23c, .int .i64 n87, .int .i64 n88, .string t4, .int .i64 n89, .int .i64 n90, .slice s24p s24l s24c]] w43 fun e9 w44 =>
  ∃ (r58 : Bool), e9 = .returned (.bool r58) ∧
  cond r58
  (k0 (r34 == r57) w44)
  (k0 false w44))
  (LdI .i64 w11 (⟨b1, 0, none⟩) fun n91 =>
  cond (n91 == 7)
  (LdI .i64 w11 (Addr.add (⟨b1, 0, none⟩) 3) fun n92 =>
  Calls Try.prog 16 #[.pointer r0, .int .i64 n92] w11 fun e10 w45 =>
  ∃ (r59 : Int), ∃ (r60 : Int), e10 = .returned (.tuple #[.int .i64 r59, .int .i64 r60]) ∧
  LdI .i64 w45 (⟨b0, 0, none⟩) fun n93 =>
  LdS w45 (Addr.add (⟨b0, 0, none⟩) 1) fun s25p s25l s25c =>
  LdI .i64 w45 (Addr.add (⟨b0, 0, none⟩) 2) fun n94 =>
  LdS w45 (Addr.add (⟨b0, 0, none⟩) 3) fun s26p s26l s26c =>
  LdI .i64 w45 (Addr.add (⟨b0, 0, none⟩) 4) fun n95 =>
  LdI .i64 w45 (Addr.add (⟨b1, 0, none⟩) 3) fun n96 =>
  Calls Try.prog 25 #[.agg #[.int .i64 n93, .slice s25p s25l s25c, .int .i64 n94, .slice s26p s26l s26c, .int .i64 n95], .int .i64 n96] w45 fun e11 w46 =>
  ∃ (r61 : Int), ∃ (r62p : Option Addr), ∃ (r62l : Nat), ∃ (r62c : Nat), ∃ (r63 : Int), ∃ (r64p : Option Addr), ∃ (r64l : Nat), ∃ (r64c : Nat), ∃ (r65 : Int), ∃ (r66 : Int), ∃ (r67 : Int), e11 = .returned (.tuple #[.agg #[.int .i64 r61, .slice r62p r62l r62c, .int .i64 r63, .slice r64p r64l r64c, .int .i64 r65], .int .i64 r66, .int .i64 r67]) ∧
  NewC (.cells #[.int .i64 0, .slice none 0 0, .int .i64 0, .slice none 0 0, .int .i64 0] 58 (0, 0)) w46 fun b6 w47 =>
  StC w47 (⟨b6, 0, none⟩) (.int .i64 r61) fun w48 =>
  StC w48 (Addr.add (⟨b6, 0, none⟩) 1) (.slice r62p r62l r62c) fun w49 =>
  StC w49 (Addr.add (⟨b6, 0, none⟩) 2) (.int .i64 r63) fun w50 =>
  StC w50 (Addr.add (⟨b6, 0, none⟩) 3) (.slice r64p r64l r64c) fun w51 =>
  StC w51 (Addr.add (⟨b6, 0, none⟩) 4) (.int .i64 r65) fun w52 =>
  LdI .i64 w52 (⟨b6, 0, none⟩) fun n97 =>
  LdS w52 (Addr.add (⟨b6, 0, none⟩) 1) fun s27p s27l s27c =>
  LdI .i64 w52 (Addr.add (⟨b6, 0, none⟩) 2) fun n98 =>
  LdS w52 (Addr.add (⟨b6, 0, none⟩) 3) fun s28p s28l s28c =>
  LdI .i64 w52 (Addr.add (⟨b6, 0, none⟩) 4) fun n99 =>
  StC w52 (⟨b0, 0, none⟩) (.int .i64 n97) fun w53 =>
  StC w53 (Addr.add (⟨b0, 0, none⟩) 1) (.slice s27p s27l s27c) fun w54 =>
  StC w54 (Addr.add (⟨b0, 0, none⟩) 2) (.int .i64 n98) fun w55 =>
  StC w55 (Addr.add (⟨b0, 0, none⟩) 3) (.slice s28p s28l s28c) fun w56 =>
  StC w56 (Addr.add (⟨b0, 0, none⟩) 4) (.int .i64 n99) fun w57 =>
  cond (r59 == r66)
  (k0 (r60 == r67) w57)
  (k0 false w57))
  (LdI .i64 w11 (⟨b1, 0, none⟩) fun n100 =>
  cond (n100 == 8)
  (LdI .i64 w11 (Addr.add (⟨b1, 0, none⟩) 3) fun n101 =>
  Calls Try.prog 21 #[.pointer r0, .int .i64 n101] w11 fun e12 w58 =>
  ∃ (r68 : Int), e12 = .returned (.int .i64 r68) ∧
  LdI .i64 w58 (⟨b0, 0, none⟩) fun n102 =>
  LdS w58 (Addr.add (⟨b0, 0, none⟩) 1) fun s29p s29l s29c =>
  LdI .i64 w58 (Addr.add (⟨b0, 0, none⟩) 2) fun n103 =>
  LdS w58 (Addr.add (⟨b0, 0, none⟩) 3) fun s30p s30l s30c =>
  LdI .i64 w58 (Addr.add (⟨b0, 0, none⟩) 4) fun n104 =>
  LdI .i64 w58 (Addr.add (⟨b1, 0, none⟩) 3) fun n105 =>
  Calls Try.prog 26 #[.agg #[.int .i64 n102, .slice s29p s29l s29c, .int .i64 n103, .slice s30p s30l s30c, .int .i64 n104], .int .i64 n105] w58 fun e13 w59 =>
  ∃ (r69 : Int), ∃ (r70p : Option Addr), ∃ (r70l : Nat), ∃ (r70c : Nat), ∃ (r71 : Int), ∃ (r72p : Option Addr), ∃ (r72l : Nat), ∃ (r72c : Nat), ∃ (r73 : Int), ∃ (r74 : Int), e13 = .returned (.tuple #[.agg #[.int .i64 r69, .slice r70p r70l r70c, .int .i64 r71, .slice r72p r72l r72c, .int .i64 r73], .int .i64 r74]) ∧
  NewC (.cells #[.int .i64 0, .slice none 0 0, .int .i64 0, .slice none 0 0, .int .i64 0] 58 (0, 0)) w59 fun b7 w60 =>
  StC w60 (⟨b7, 0, none⟩) (.int .i64 r69) fun w61 =>
  StC w61 (Addr.add (⟨b7, 0, none⟩) 1) (.slice r70p r70l r70c) fun w62 =>
  StC w62 (Addr.add (⟨b7, 0, none⟩) 2) (.int .i64 r71) fun w63 =>
  StC w63 (Addr.add (⟨b7, 0, none⟩) 3) (.slice r72p r72l r72c) fun w64 =>
  StC w64 (Addr.add (⟨b7, 0, none⟩) 4) (.int .i64 r73) fun w65 =>
  LdI .i64 w65 (⟨b7, 0, none⟩) fun n106 =>
  LdS w65 (Addr.add (⟨b7, 0, none⟩) 1) fun s31p s31l s31c =>
  LdI .i64 w65 (Addr.add (⟨b7, 0, none⟩) 2) fun n107 =>
  LdS w65 (Addr.add (⟨b7, 0, none⟩) 3) fun s32p s32l s32c =>
  LdI .i64 w65 (Addr.add (⟨b7, 0, none⟩) 4) fun n108 =>
  StC w65 (⟨b0, 0, none⟩) (.int .i64 n106) fun w66 =>
  StC w66 (Addr.add (⟨b0, 0, none⟩) 1) (.slice s31p s31l s31c) fun w67 =>
  StC w67 (Addr.add (⟨b0, 0, none⟩) 2) (.int .i64 n107) fun w68 =>
  StC w68 (Addr.add (⟨b0, 0, none⟩) 3) (.slice s32p s32l s32c) fun w69 =>
  StC w69 (Addr.add (⟨b0, 0, none⟩) 4) (.int .i64 n108) fun w70 =>
  k0 (r68 == r74) w70)
  (LdI .i64 w11 (Addr.add (⟨b1, 0, none⟩) 1) fun n109 =>
  LdI .i64 w11 (Addr.add (⟨b1, 0, none⟩) 2) fun n110 =>
  LdI .i64 w11 (⟨b1, 0, none⟩) fun n111 =>
  Calls Try.prog 10 #[.pointer r0, .int .i64 n109, .int .i64 n110, .bool (n111 == 9)] w11 fun e14 w71 =>
  e14 = .returned (.tuple #[]) ∧
  LdI .i64 w71 (⟨b0, 0, none⟩) fun n112 =>
  LdS w71 (Addr.add (⟨b0, 0, none⟩) 1) fun s33p s33l s33c =>
  LdI .i64 w71 (Addr.add (⟨b0, 0, none⟩) 2) fun n113 =>
  LdS w71 (Addr.add (⟨b0, 0, none⟩) 3) fun s34p s34l s34c =>
  LdI .i64 w71 (Addr.add (⟨b0, 0, none⟩) 4) fun n114 =>
  LdI .i64 w71 (Addr.add (⟨b1, 0, none⟩) 1) fun n115 =>
  LdI .i64 w71 (Addr.add (⟨b1, 0, none⟩) 2) fun n116 =>
  LdI .i64 w71 (⟨b1, 0, none⟩) fun n117 =>
  Calls Try.prog 27 #[.agg #[.int .i64 n112, .slice s33p s33l s33c, .int .i64 n113, .slice s34p s34l s34c, .int .i64 n114], .int .i64 n115, .int .i64 n116, .bool (n117 == 9)] w71 fun e15 w72 =>
  ∃ (r75 : Int), ∃ (r76p : Option Addr), ∃ (r76l : Nat), ∃ (r76c : Nat), ∃ (r77 : Int), ∃ (r78p : Option Addr), ∃ (r78l : Nat), ∃ (r78c : Nat), ∃ (r79 : Int), e15 = .returned (.agg #[.int .i64 r75, .slice r76p r76l r76c, .int .i64 r77, .slice r78p r78l r78c, .int .i64 r79]) ∧
  StC w72 (⟨b0, 0, none⟩) (.int .i64 r75) fun w73 =>
  StC w73 (Addr.add (⟨b0, 0, none⟩) 1) (.slice r76p r76l r76c) fun w74 =>
  StC w74 (Addr.add (⟨b0, 0, none⟩) 2) (.int .i64 r77) fun w75 =>
  StC w75 (Addr.add (⟨b0, 0, none⟩) 3) (.slice r78p r78l r78c) fun w76 =>
  StC w76 (Addr.add (⟨b0, 0, none⟩) 4) (.int .i64 r79) fun w77 =>
  k0 true w77))))))
  (R (.returned (.bool true)) w9)
def S_law24_NetPlays (most0 : Int) (l0p : Option Addr) (l0l : Nat) (l0c : Nat) (w : World) (R : Ending → World → Prop) : Prop :=
  Calls Try.prog 17 #[.int .i64 most0] w fun e0 w0 =>
  ∃ (r0 : Option Addr), ∃ (r1 : Int), e0 = .returned (.tuple #[.pointer r0, .int .i64 r1]) ∧
  Calls Try.prog 8 #[] w0 fun e1 w1 =>
  ∃ (r2 : Bool), e1 = .returned (.bool r2) ∧
  cond (!r2)
  (R (.returned (.bool false)) w1)
  (Calls Try.prog 20 #[.slice l0p l0l l0c] w1 fun e2 w2 =>
  ∃ (r3 : Bool), e2 = .returned (.bool r3) ∧
  cond r3
  (R (.returned (.bool true)) w2)
  (cond (decide (most0 < 1))
  (cond (r1 == 1)
  (R (.returned (.bool r0.isNone)) w2)
  (R (.returned (.bool false)) w2))
  (cond (decide (most0 > 100000))
  (cond (r1 == 1)
  (R (.returned (.bool r0.isNone)) w2)
  (R (.returned (.bool false)) w2))
  (cond (r1 != 0)
  (R (.returned (.bool false)) w2)
  (cond r0.isNone
  (R (.returned (.bool false)) w2)
  (NewC (.cells #[.int .i64 0, .slice none 0 0, .int .i64 0, .slice none 0 0, .int .i64 0] 58 (0, 0)) w2 fun b0 w3 =>
  StC w3 (⟨b0, 0, none⟩) (.int .i64 most0) fun w4 =>
  StC w4 (Addr.add (⟨b0, 0, none⟩) 1) (.slice none 0 0) fun w5 =>
  StC w5 (Addr.add (⟨b0, 0, none⟩) 2) (.int .i64 0) fun w6 =>
  StC w6 (Addr.add (⟨b0, 0, none⟩) 3) (.slice none 0 0) fun w7 =>
  StC w7 (Addr.add (⟨b0, 0, none⟩) 4) (.int .i64 0) fun w8 =>
  ∃ (I0 : Int → World → Prop) (M0 : Int → World → Nat), I0 0 w8 ∧
  ∀ (i0 : Int) (w9 : World), I0 i0 w9 →
  S_law24_NetPlays_l0 l0p l0l R r0 b0 i0 w9 I0 M0))))))
def S_law24_NetPlays_ann : Ann := (.seq .leaf (.seq .leaf (.seq .leaf (.seq .leaf (.seq .leaf (.seq .leaf (.seq .leaf (.seq (.seq .leaf (.block (.loop [1, 5, 7] [(8, (.int .i64))] (.seq .leaf (.seq (.block (.seq .leaf (.seq .leaf (.seq (.jblock [1, 5, 7, 8] [(10, .bool)] .leaf .leaf) .leaf)))) .leaf))))) .leaf))))))))
theorem S_law24_NetPlays_eq (most0 : Int) (l0p : Option Addr) (l0l : Nat) (l0c : Nat) (w : World) (R : Ending → World → Prop) : X Try.prog Try.f7.ntmps (bodyOf Try.f7) S_law24_NetPlays_ann (argEnv 0 [.int .i64 most0, .slice l0p l0l l0c]) w (fun e w' => resK Try.prog Try.f7.results.toList e w' [] fun vs => R (.returned (pack vs)) w') (fun e w' => resK Try.prog Try.f7.results.toList e w' [] fun vs => R (.returned (pack vs)) w') (fun _ _ _ => False) = S_law24_NetPlays most0 l0p l0l l0c w R := by kernel_rfl
theorem S_law24_NetPlays_ok (most0 : Int) (l0p : Option Addr) (l0l : Nat) (l0c : Nat) (w : World) (R : Ending → World → Prop) (h : S_law24_NetPlays most0 l0p l0l l0c w R) : Calls Try.prog 7 #[.int .i64 most0, .slice l0p l0l l0c] w R :=
  calls_of_X (an := S_law24_NetPlays_ann) wide_ok Try.func7 (by kernel_rfl) (by kernel_rfl) (by rw [S_law24_NetPlays_eq]; exact h)

def S_law24_awake (w : World) (R : Ending → World → Prop) : Prop :=
  Calls Try.prog 9 #[.int .i64 2] w fun e0 w0 =>
  ∃ (r0 : Option Addr), e0 = .returned (.pointer r0) ∧
  cond r0.isNone
  (R (.returned (.bool false)) w0)
  (Calls Try.prog 12 #[.int .i64 0, .int .i64 1, .int .i64 7] w0 fun e1 w1 =>
  ∃ (r1 : Int), ∃ (r2 : Int), ∃ (r3 : Int), ∃ (r4 : Int), ∃ (r5 : Int), ∃ (r6 : Int), ∃ (r7 : Int), ∃ (r8 : Int), ∃ (r9 : Int), ∃ (r10p : Option Addr), ∃ (r10l : Nat), ∃ (r10c : Nat), ∃ (r11p : Option Addr), ∃ (r11l : Nat), ∃ (r11c : Nat), ∃ (r12 : Int), ∃ (r13 : Int), ∃ (r14 : ByteArray), ∃ (r15 : Int), ∃ (r16 : Int), ∃ (r17p : Option Addr), ∃ (r17l : Nat), ∃ (r17c : Nat), e1 = .returned (.agg #[.int .i64 r1, .int .i64 r2, .int .i64 r3, .int .i64 r4, .int .i64 r5, .int .i64 r6, .int .i64 r7, .int .i64 r8, .int .i64 r9, .slice r10p r10l r10c, .slice r11p r11l r11c, .int .i64 r12, .int .i64 r13, .string r14, .int .i64 r15, .int .i64 r16, .slice r17p r17l r17c]) ∧
  Calls Try.prog 11 #[.pointer r0, .agg #[.int .i64 r1, .int .i64 r2, .int .i64 r3, .int .i64 r4, .int .i64 r5, .int .i64 r6, .int .i64 r7, .int .i64 r8, .int .i64 r9, .slice r10p r10l r10c, .slice r11p r11l r11c, .int .i64 r12, .int .i64 r13, .string r14, .int .i64 r15, .int .i64 r16, .slice r17p r17l r17c]] w1 fun e2 w2 =>
  ∃ (r18 : Int), ∃ (r19 : Int), e2 = .returned (.tuple #[.int .i64 r18, .int .i64 r19]) ∧
  Calls Try.prog 15 #[.pointer r0, .int .i64 1] w2 fun e3 w3 =>
  ∃ (r20 : Int), ∃ (r21 : Int), ∃ (r22 : Int), ∃ (r23 : Int), ∃ (r24 : Int), ∃ (r25 : Int), ∃ (r26 : Int), ∃ (r27 : Int), ∃ (r28 : Int), ∃ (r29p : Option Addr), ∃ (r29l : Nat), ∃ (r29c : Nat), ∃ (r30p : Option Addr), ∃ (r30l : Nat), ∃ (r30c : Nat), ∃ (r31 : Int), ∃ (r32 : Int), ∃ (r33 : ByteArray), ∃ (r34 : Int), ∃ (r35 : Int), ∃ (r36p : Option Addr), ∃ (r36l : Nat), ∃ (r36c : Nat), ∃ (r37 : Int), e3 = .returned (.tuple #[.agg #[.int .i64 r20, .int .i64 r21, .int .i64 r22, .int .i64 r23, .int .i64 r24, .int .i64 r25, .int .i64 r26, .int .i64 r27, .int .i64 r28, .slice r29p r29l r29c, .slice r30p r30l r30c, .int .i64 r31, .int .i64 r32, .string r33, .int .i64 r34, .int .i64 r35, .slice r36p r36l r36c], .int .i64 r37]) ∧
  NewC (.cells #[.int .i64 0, .int .i64 0, .int .i64 0, .int .i64 0, .int .i64 0, .int .i64 0, .int .i64 0, .int .i64 0, .int .i64 0, .slice none 0 0, .slice none 0 0, .int .i64 0, .int .i64 0, .string (⟨#[]⟩), .int .i64 0, .int .i64 0, .slice none 0 0] 37 (0, 0)) w3 fun b0 w4 =>
  St_api_Msg w4 (⟨b0, 0, none⟩) r20 r21 r22 r23 r24 r25 r26 r27 r28 r29p r29l r29c r30p r30l r30c r31 r32 r33 r34 r35 r36p r36l r36c fun w5 =>
  ∃ C0 : World → Prop, C0 (World.drew w5) ∧
  cond (r18 == 1)
  (cond (r19 == 0)
  (cond (r37 == 0)
  (∃ (n0 : Int), ∃ (n1 : Int), ∃ (n2 : Int), ∃ (n3 : Int), ∃ (n4 : Int), ∃ (n5 : Int), ∃ (n6 : Int), ∃ (n7 : Int), ∃ (n8 : Int), ∃ (s0p : Option Addr), ∃ (s0l : Nat), ∃ (s0c : Nat), ∃ (s1p : Option Addr), ∃ (s1l : Nat), ∃ (s1c : Nat), ∃ (n9 : Int), ∃ (n10 : Int), ∃ (t0 : ByteArray), ∃ (n11 : Int), ∃ (n12 : Int), ∃ (s2p : Option Addr), ∃ (s2l : Nat), ∃ (s2c : Nat), (∀ (w6 : World), C0 w6 →
  Ld_api_Msg w6 (⟨b0, 0, none⟩) fun n13 n14 n15 n16 n17 n18 n19 n20 n21 s3p s3l s3c s4p s4l s4c n22 n23 t1 n24 n25 s5p s5l s5c =>
  Value.agg #[.int .i64 n13, .int .i64 n14, .int .i64 n15, .int .i64 n16, .int .i64 n17, .int .i64 n18, .int .i64 n19, .int .i64 n20, .int .i64 n21, .slice s3p s3l s3c, .slice s4p s4l s4c, .int .i64 n22, .int .i64 n23, .string t1, .int .i64 n24, .int .i64 n25, .slice s5p s5l s5c] = .agg #[.int .i64 n0, .int .i64 n1, .int .i64 n2, .int .i64 n3, .int .i64 n4, .int .i64 n5, .int .i64 n6, .int .i64 n7, .int .i64 n8, .slice s0p s0l s0c, .slice s1p s1l s1c, .int .i64 n9, .int .i64 n10, .string t0, .int .i64 n11, .int .i64 n12, .slice s2p s2l s2c]) ∧
  Calls Try.prog 12 #[.int .i64 0, .int .i64 1, .int .i64 7] (World.drew w5) fun e4 w7 =>
  ∃ (r38 : Int), ∃ (r39 : Int), ∃ (r40 : Int), ∃ (r41 : Int), ∃ (r42 : Int), ∃ (r43 : Int), ∃ (r44 : Int), ∃ (r45 : Int), ∃ (r46 : Int), ∃ (r47p : Option Addr), ∃ (r47l : Nat), ∃ (r47c : Nat), ∃ (r48p : Option Addr), ∃ (r48l : Nat), ∃ (r48c : Nat), ∃ (r49 : Int), ∃ (r50 : Int), ∃ (r51 : ByteArray), ∃ (r52 : Int), ∃ (r53 : Int), ∃ (r54p : Option Addr), ∃ (r54l : Nat), ∃ (r54c : Nat), e4 = .returned (.agg #[.int .i64 r38, .int .i64 r39, .int .i64 r40, .int .i64 r41, .int .i64 r42, .int .i64 r43, .int .i64 r44, .int .i64 r45, .int .i64 r46, .slice r47p r47l r47c, .slice r48p r48l r48c, .int .i64 r49, .int .i64 r50, .string r51, .int .i64 r52, .int .i64 r53, .slice r54p r54l r54c]) ∧
  C0 w7 ∧
  Calls Try.prog 18 #[.agg #[.int .i64 n0, .int .i64 n1, .int .i64 n2, .int .i64 n3, .int .i64 n4, .int .i64 n5, .int .i64 n6, .int .i64 n7, .int .i64 n8, .slice s0p s0l s0c, .slice s1p s1l s1c, .int .i64 n9, .int .i64 n10, .string t0, .int .i64 n11, .int .i64 n12, .slice s2p s2l s2c], .agg #[.int .i64 r38, .int .i64 r39, .int .i64 r40, .int .i64 r41, .int .i64 r42, .int .i64 r43, .int .i64 r44, .int .i64 r45, .int .i64 r46, .slice r47p r47l r47c, .slice r48p r48l r48c, .int .i64 r49, .int .i64 r50, .string r51, .int .i64 r52, .int .i64 r53, .slice r54p r54l r54c]] w7 fun e5 w8 =>
  ∃ (r55 : Bool), e5 = .returned (.bool r55) ∧
  cond r55
  (Calls Try.prog 19 #[.pointer r0] w8 fun e6 w9 =>
  ∃ (r56 : Int), e6 = .returned (.int .i64 r56) ∧
  R (.returned (.bool (r56 == 0))) w9)
  (R (.returned (.bool false)) w8))
  (R (.returned (.bool false)) (World.drew w5)))
  (R (.returned (.bool false)) (World.drew w5)))
  (R (.returned (.bool false)) (World.drew w5)))
def S_law24_awake_ann : Ann := (.seq .leaf (.seq .leaf (.seq .leaf (.seq .leaf (.seq .leaf (.seq .anyl .leaf))))))
theorem S_law24_awake_eq (w : World) (R : Ending → World → Prop) : X Try.prog Try.f8.ntmps (bodyOf Try.f8) S_law24_awake_ann (argEnv 0 []) w (fun e w' => resK Try.prog Try.f8.results.toList e w' [] fun vs => R (.returned (pack vs)) w') (fun e w' => resK Try.prog Try.f8.results.toList e w' [] fun vs => R (.returned (pack vs)) w') (fun _ _ _ => False) = S_law24_awake w R := by kernel_rfl
theorem S_law24_awake_ok (w : World) (R : Ending → World → Prop) (h : S_law24_awake w R) : Calls Try.prog 8 #[] w R :=
  calls_of_X (an := S_law24_awake_ann) wide_ok Try.func8 (by kernel_rfl) (by kernel_rfl) (by rw [S_law24_awake_eq]; exact h)

def S_law24_fresh (most0 : Int) (w : World) (R : Ending → World → Prop) : Prop :=
  Calls Try.prog 17 #[.int .i64 most0] w fun e0 w0 =>
  ∃ (r0 : Option Addr), ∃ (r1 : Int), e0 = .returned (.tuple #[.pointer r0, .int .i64 r1]) ∧
  cond (r1 != 0)
  (R (.returned (.pointer none)) w0)
  (R (.returned (.pointer r0)) w0)
def S_law24_fresh_ann : Ann := .leaf
theorem S_law24_fresh_eq (most0 : Int) (w : World) (R : Ending → World → Prop) : X Try.prog Try.f9.ntmps (bodyOf Try.f9) S_law24_fresh_ann (argEnv 0 [.int .i64 most0]) w (fun e w' => resK Try.prog Try.f9.results.toList e w' [] fun vs => R (.returned (pack vs)) w') (fun e w' => resK Try.prog Try.f9.results.toList e w' [] fun vs => R (.returned (pack vs)) w') (fun _ _ _ => False) = S_law24_fresh most0 w R := by kernel_rfl
theorem S_law24_fresh_ok (most0 : Int) (w : World) (R : Ending → World → Prop) (h : S_law24_fresh most0 w R) : Calls Try.prog 9 #[.int .i64 most0] w R :=
  calls_of_X (an := S_law24_fresh_ann) wide_ok Try.func9 (by kernel_rfl) (by kernel_rfl) (by rw [S_law24_fresh_eq]; exact h)

def S_net_Net_Cut (n0 : Option Addr) (a0 : Int) (b0 : Int) (on0 : Bool) (w : World) (R : Ending → World → Prop) : Prop :=
  NewC (.cells #[.int .i64 0, .int .i64 0] 71 (0, 0)) w fun b1 w0 =>
  StC w0 (⟨b1, 0, none⟩) (.int .i64 (iMin a0 b0)) fun w1 =>
  StC w1 (Addr.add (⟨b1, 0, none⟩) 1) (.int .i64 (iMax a0 b0)) fun w2 =>
  cond on0
  (onSome n0 fun a1 =>
  LdM (World.drew w2) (Addr.add a1 3) fun m0 =>
  LdI .i64 (World.drew w2) (⟨b1, 0, none⟩) fun n1 =>
  LdI .i64 (World.drew w2) (Addr.add (⟨b1, 0, none⟩) 1) fun n2 =>
  RunN Try.prog (Instr.mapUpdate 74 (.map m0) (.agg #[.int .i64 n1, .int .i64 n2]) (.agg #[])) (World.drew w2) fun w3 =>
  R (.returned (.tuple #[])) w3)
  (onSome n0 fun a2 =>
  LdM (World.drew w2) (Addr.add a2 3) fun m1 =>
  LdI .i64 (World.drew w2) (⟨b1, 0, none⟩) fun n3 =>
  LdI .i64 (World.drew w2) (Addr.add (⟨b1, 0, none⟩) 1) fun n4 =>
  RunU Try.prog (Builtin.delete_ #[74, 71] 0 #[.map m1, .agg #[.int .i64 n3, .int .i64 n4]]) (World.drew w2) fun w4 =>
  R (.returned (.tuple #[])) w4)
def S_net_Net_Cut_ann : Ann := (.seq .leaf (.seq .leaf (.cond (.draw 6) (.draw 5))))
theorem S_net_Net_Cut_eq (n0 : Option Addr) (a0 : Int) (b0 : Int) (on0 : Bool) (w : World) (R : Ending → World → Prop) : X Try.prog Try.f10.ntmps (bodyOf Try.f10) S_net_Net_Cut_ann (argEnv 0 [.pointer n0, .int .i64 a0, .int .i64 b0, .bool on0]) w (fun e w' => resK Try.prog Try.f10.results.toList e w' [] fun vs => R (.returned (pack vs)) w') (fun e w' => resK Try.prog Try.f10.results.toList e w' [] fun vs => R (.returned (pack vs)) w') (fun _ _ _ => False) = S_net_Net_Cut n0 a0 b0 on0 w R := by kernel_rfl
theorem S_net_Net_Cut_ok (n0 : Option Addr) (a0 : Int) (b0 : Int) (on0 : Bool) (w : World) (R : Ending → World → Prop) (h : S_net_Net_Cut n0 a0 b0 on0 w R) : Calls Try.prog 10 #[.pointer n0, .int .i64 a0, .int .i64 b0, .bool on0] w R :=
  calls_of_X (an := S_net_Net_Cut_ann) wide_ok Try.func10 (by kernel_rfl) (by kernel_rfl) (by rw [S_net_Net_Cut_eq]; exact h)

def S_net_Net_Send_j0 (n0 : Option Addr) (R : Ending → World → Prop) (b0 : Nat) (off0 : Bool) (w4 : World) : Prop :=
  cond off0
  (onSome n0 fun a1 =>
  LdI .i64 w4 (Addr.add a1 4) fun n5 =>
  onSome n0 fun a2 =>
  StC w4 (Addr.add a2 4) (.int .i64 (IntKind.wrap .i64 (n5 + 1))) fun w5 =>
  R (.returned (.tuple #[.int .i64 0, .int .i64 0])) w5)
  (onSome n0 fun a3 =>
  LdS (World.drew w4) (Addr.add a3 1) fun _ s0l _ =>
  onSome n0 fun a4 =>
  LdI .i64 (World.drew w4) a4 fun n6 =>
  cond (decide ((Nat.cast s0l : Int) ≥ n6))
  (onSome n0 fun a5 =>
  LdI .i64 (World.drew w4) (Addr.add a5 4) fun n7 =>
  onSome n0 fun a6 =>
  StC (World.drew w4) (Addr.add a6 4) (.int .i64 (IntKind.wrap .i64 (n7 + 1))) fun w6 =>
  R (.returned (.tuple #[.int .i64 0, .int .i64 5])) w6)
  (Ld_api_Msg (World.drew w4) (⟨b0, 0, none⟩) fun n8 n9 n10 n11 n12 n13 n14 n15 n16 s1p s1l s1c s2p s2l s2c n17 n18 t0 n19 n20 s3p s3l s3c =>
  Calls Try.prog 29 #[.pointer n0, .agg #[.int .i64 n8, .int .i64 n9, .int .i64 n10, .int .i64 n11, .int .i64 n12, .int .i64 n13, .int .i64 n14, .int .i64 n15, .int .i64 n16, .slice s1p s1l s1c, .slice s2p s2l s2c, .int .i64 n17, .int .i64 n18, .string t0, .int .i64 n19, .int .i64 n20, .slice s3p s3l s3c]] (World.drew w4) fun e0 w7 =>
  ∃ (r0 : Int), e0 = .returned (.int .i64 r0) ∧
  R (.returned (.tuple #[.int .i64 r0, .int .i64 0])) w7))
def S_net_Net_Send (n0 : Option Addr) (m0 : Int) (m1 : Int) (m2 : Int) (m3 : Int) (m4 : Int) (m5 : Int) (m6 : Int) (m7 : Int) (m8 : Int) (m9p : Option Addr) (m9l : Nat) (m9c : Nat) (m10p : Option Addr) (m10l : Nat) (m10c : Nat) (m11 : Int) (m12 : Int) (m13 : ByteArray) (m14 : Int) (m15 : Int) (m16p : Option Addr) (m16l : Nat) (m16c : Nat) (w : World) (R : Ending → World → Prop) : Prop :=
  NewC (.cells #[.int .i64 m0, .int .i64 m1, .int .i64 m2, .int .i64 m3, .int .i64 m4, .int .i64 m5, .int .i64 m6, .int .i64 m7, .int .i64 m8, .slice m9p m9l m9c, .slice m10p m10l m10c, .int .i64 m11, .int .i64 m12, .string m13, .int .i64 m14, .int .i64 m15, .slice m16p m16l m16c] 37 (0, 0)) w fun b0 w0 =>
  ∀ k0 : Bool → World → Prop,
  (∀ (off0 : Bool) (w4 : World), S_net_Net_Send_j0 n0 R b0 off0 w4 → k0 off0 w4) →
  ∃ C0 : World → Prop, C0 (World.drew w0) ∧
  onSome n0 fun a0 =>
  ∃ (m17 : Option Nat), (∀ (w1 : World), C0 w1 →
  LdM w1 (Addr.add a0 3) fun m18 =>
  Value.map m18 = .map m17) ∧
  LdIQ .i64 C0 (Addr.add (⟨b0, 0, none⟩) 1) fun n1 =>
  LdIQ .i64 C0 (Addr.add (⟨b0, 0, none⟩) 2) fun n2 =>
  LdIQ .i64 C0 (Addr.add (⟨b0, 0, none⟩) 1) fun n3 =>
  LdIQ .i64 C0 (Addr.add (⟨b0, 0, none⟩) 2) fun n4 =>
  (∃ (b1 : Bool), (Instr.lookup 74 (.map m17) (.agg #[.int .i64 (iMin n1 n2), .int .i64 (iMax n3 n4)]) true).run Try.prog (World.drew w0) = .ok (.tuple #[.agg #[], .bool b1]) (World.drew w0) ∧
  C0 (World.drew w0) ∧
  NewC (.cells #[] 72 (0, 0)) (World.drew w0) fun _ w2 =>
  C0 w2 ∧
  k0 b1 w2) ∧
  (NewC (.cells #[] 72 (0, 0)) (World.drew w0) fun _ w3 =>
  C0 w3 ∧
  ∃ (b4 : Bool), (Instr.lookup 74 (.map m17) (.agg #[.int .i64 (iMin n1 n2), .int .i64 (iMax n3 n4)]) true).run Try.prog w3 = .ok (.tuple #[.agg #[], .bool b4]) w3 ∧
  C0 w3 ∧
  k0 b4 w3)
def S_net_Net_Send_ann : Ann := (.seq .leaf (.seq (.join [0, 3] [(7, .bool)] .anyl .leaf) (.seq (.seq (.draw 10) .leaf) .leaf)))
theorem S_net_Net_Send_eq (n0 : Option Addr) (m0 : Int) (m1 : Int) (m2 : Int) (m3 : Int) (m4 : Int) (m5 : Int) (m6 : Int) (m7 : Int) (m8 : Int) (m9p : Option Addr) (m9l : Nat) (m9c : Nat) (m10p : Option Addr) (m10l : Nat) (m10c : Nat) (m11 : Int) (m12 : Int) (m13 : ByteArray) (m14 : Int) (m15 : Int) (m16p : Option Addr) (m16l : Nat) (m16c : Nat) (w : World) (R : Ending → World → Prop) : X Try.prog Try.f11.ntmps (bodyOf Try.f11) S_net_Net_Send_ann (argEnv 0 [.pointer n0, .agg #[.int .i64 m0, .int .i64 m1, .int .i64 m2, .int .i64 m3, .int .i64 m4, .int .i64 m5, .int .i64 m6, .int .i64 m7, .int .i64 m8, .slice m9p m9l m9c, .slice m10p m10l m10c, .int .i64 m11, .int .i64 m12, .string m13, .int .i64 m14, .int .i64 m15, .slice m16p m16l m16c]]) w (fun e w' => resK Try.prog Try.f11.results.toList e w' [] fun vs => R (.returned (pack vs)) w') (fun e w' => resK Try.prog Try.f11.results.toList e w' [] fun vs => R (.returned (pack vs)) w') (fun _ _ _ => False) = S_net_Net_Send n0 m0 m1 m2 m3 m4 m5 m6 m7 m8 m9p m9l m9c m10p m10l m10c m11 m12 m13 m14 m15 m16p m16l m16c w R := by kernel_rfl
theorem S_net_Net_Send_ok (n0 : Option Addr) (m0 : Int) (m1 : Int) (m2 : Int) (m3 : Int) (m4 : Int) (m5 : Int) (m6 : Int) (m7 : Int) (m8 : Int) (m9p : Option Addr) (m9l : Nat) (m9c : Nat) (m10p : Option Addr) (m10l : Nat) (m10c : Nat) (m11 : Int) (m12 : Int) (m13 : ByteArray) (m14 : Int) (m15 : Int) (m16p : Option Addr) (m16l : Nat) (m16c : Nat) (w : World) (R : Ending → World → Prop) (h : S_net_Net_Send n0 m0 m1 m2 m3 m4 m5 m6 m7 m8 m9p m9l m9c m10p m10l m10c m11 m12 m13 m14 m15 m16p m16l m16c w R) : Calls Try.prog 11 #[.pointer n0, .agg #[.int .i64 m0, .int .i64 m1, .int .i64 m2, .int .i64 m3, .int .i64 m4, .int .i64 m5, .int .i64 m6, .int .i64 m7, .int .i64 m8, .slice m9p m9l m9c, .slice m10p m10l m10c, .int .i64 m11, .int .i64 m12, .string m13, .int .i64 m14, .int .i64 m15, .slice m16p m16l m16c]] w R :=
  calls_of_X (an := S_net_Net_Send_ann) wide_ok Try.func11 (by kernel_rfl) (by kernel_rfl) (by rw [S_net_Net_Send_eq]; exact h)

def S_law24_msg (from0 : Int) (to0 : Int) (n0 : Int) (w : World) (R : Ending → World → Prop) : Prop :=
  NewC (.cells #[.int .i64 0, .int .i64 0, .int .i64 0, .int .i64 0, .int .i64 0, .int .i64 0, .int .i64 0, .int .i64 0, .int .i64 0, .slice none 0 0, .slice none 0 0, .int .i64 0, .int .i64 0, .string (⟨#[]⟩), .int .i64 0, .int .i64 0, .slice none 0 0] 37 (0, 0)) w fun b0 w0 =>
  St_api_Msg w0 (⟨b0, 0, none⟩) 5 from0 to0 n0 0 0 0 0 0 none 0 0 none 0 0 0 0 (⟨#[]⟩) 0 0 none 0 0 fun w1 =>
  Ld_api_Msg w1 (⟨b0, 0, none⟩) fun n1 n2 n3 n4 n5 n6 n7 n8 n9 s0p s0l s0c s1p s1l s1c n10 n11 t0 n12 n13 s2p s2l s2c =>
  R (.returned (.agg #[.int .i64 n1, .int .i64 n2, .int .i64 n3, .int .i64 n4, .int .i64 n5, .int .i64 n6, .int .i64 n7, .int .i64 n8, .int .i64 n9, .slice s0p s0l s0c, .slice s1p s1l s1c, .int .i64 n10, .int .i64 n11, .string t0, .int .i64 n12, .int .i64 n13, .slice s2p s2l s2c])) w1
def S_law24_msg_ann : Ann := .leaf
theorem S_law24_msg_eq (from0 : Int) (to0 : Int) (n0 : Int) (w : World) (R : Ending → World → Prop) : X Try.prog Try.f12.ntmps (bodyOf Try.f12) S_law24_msg_ann (argEnv 0 [.int .i64 from0, .int .i64 to0, .int .i64 n0]) w (fun e w' => resK Try.prog Try.f12.results.toList e w' [] fun vs => R (.returned (pack vs)) w') (fun e w' => resK Try.prog Try.f12.results.toList e w' [] fun vs => R (.returned (pack vs)) w') (fun _ _ _ => False) = S_law24_msg from0 to0 n0 w R := by kernel_rfl
theorem S_law24_msg_ok (from0 : Int) (to0 : Int) (n0 : Int) (w : World) (R : Ending → World → Prop) (h : S_law24_msg from0 to0 n0 w R) : Calls Try.prog 12 #[.int .i64 from0, .int .i64 to0, .int .i64 n0] w R :=
  calls_of_X (an := S_law24_msg_ann) wide_ok Try.func12 (by kernel_rfl) (by kernel_rfl) (by rw [S_law24_msg_eq]; exact h)

def S_net_Net_Lost (n0 : Option Addr) (w : World) (R : Ending → World → Prop) : Prop :=
  onSome n0 fun a0 =>
  LdI .i64 w (Addr.add a0 4) fun n1 =>
  R (.returned (.int .i64 n1)) w
def S_net_Net_Lost_ann : Ann := .leaf
theorem S_net_Net_Lost_eq (n0 : Option Addr) (w : World) (R : Ending → World → Prop) : X Try.prog Try.f13.ntmps (bodyOf Try.f13) S_net_Net_Lost_ann (argEnv 0 [.pointer n0]) w (fun e w' => resK Try.prog Try.f13.results.toList e w' [] fun vs => R (.returned (pack vs)) w') (fun e w' => resK Try.prog Try.f13.results.toList e w' [] fun vs => R (.returned (pack vs)) w') (fun _ _ _ => False) = S_net_Net_Lost n0 w R := by kernel_rfl
theorem S_net_Net_Lost_ok (n0 : Option Addr) (w : World) (R : Ending → World → Prop) (h : S_net_Net_Lost n0 w R) : Calls Try.prog 13 #[.pointer n0] w R :=
  calls_of_X (an := S_net_Net_Lost_ann) wide_ok Try.func13 (by kernel_rfl) (by kernel_rfl) (by rw [S_net_Net_Lost_eq]; exact h)

def S_net_Net_Pick (n0 : Option Addr) (k0 : Int) (w : World) (R : Ending → World → Prop) : Prop :=
  onSome n0 fun a0 =>
  LdS w (Addr.add a0 1) fun _ s0l _ =>
  cond ((Nat.cast s0l : Int) == 0)
  (R (.returned (.tuple #[.int .i64 0, .int .i64 17])) w)
  (cond (decide (k0 < 0))
  (R (.returned (.tuple #[.int .i64 0, .int .i64 1])) w)
  (onSome n0 fun a1 =>
  LdS (World.drew w) (Addr.add a1 1) fun s1p s1l _ =>
  onSome n0 fun a2 =>
  LdS (World.drew w) (Addr.add a2 1) fun _ s2l _ =>
  DivC (Nat.cast s2l : Int)
  (IdxC s1p s1l (Int.tmod k0 (Nat.cast s2l : Int)) 18 fun a3 =>
  LdI .i64 (World.drew w) a3 fun n1 =>
  R (.returned (.tuple #[.int .i64 n1, .int .i64 0])) (World.drew w))))
def S_net_Net_Pick_ann : Ann := (.seq .leaf (.seq .leaf (.seq (.draw 16) .leaf)))
theorem S_net_Net_Pick_eq (n0 : Option Addr) (k0 : Int) (w : World) (R : Ending → World → Prop) : X Try.prog Try.f14.ntmps (bodyOf Try.f14) S_net_Net_Pick_ann (argEnv 0 [.pointer n0, .int .i64 k0]) w (fun e w' => resK Try.prog Try.f14.results.toList e w' [] fun vs => R (.returned (pack vs)) w') (fun e w' => resK Try.prog Try.f14.results.toList e w' [] fun vs => R (.returned (pack vs)) w') (fun _ _ _ => False) = S_net_Net_Pick n0 k0 w R := by kernel_rfl
theorem S_net_Net_Pick_ok (n0 : Option Addr) (k0 : Int) (w : World) (R : Ending → World → Prop) (h : S_net_Net_Pick n0 k0 w R) : Calls Try.prog 14 #[.pointer n0, .int .i64 k0] w R :=
  calls_of_X (an := S_net_Net_Pick_ann) wide_ok Try.func14 (by kernel_rfl) (by kernel_rfl) (by rw [S_net_Net_Pick_eq]; exact h)

def S_net_Net_Take (n0 : Option Addr) (id0 : Int) (w : World) (R : Ending → World → Prop) : Prop :=
  NewC (.cells #[.int .i64 0, .int .i64 0, .int .i64 0, .int .i64 0, .int .i64 0, .int .i64 0, .int .i64 0, .int .i64 0, .int .i64 0, .slice none 0 0, .slice none 0 0, .int .i64 0, .int .i64 0, .string (⟨#[]⟩), .int .i64 0, .int .i64 0, .slice none 0 0] 37 (0, 0)) w fun b0 w0 =>
  Calls Try.prog 30 #[.pointer n0, .int .i64 id0] w0 fun e0 w1 =>
  ∃ (r0 : Int), ∃ (r1 : Bool), e0 = .returned (.tuple #[.int .i64 r0, .bool r1]) ∧
  cond (!r1)
  (St_api_Msg w1 (⟨b0, 0, none⟩) 0 0 0 0 0 0 0 0 0 none 0 0 none 0 0 0 0 (⟨#[]⟩) 0 0 none 0 0 fun w2 =>
  Ld_api_Msg w2 (⟨b0, 0, none⟩) fun n1 n2 n3 n4 n5 n6 n7 n8 n9 s0p s0l s0c s1p s1l s1c n10 n11 t0 n12 n13 s2p s2l s2c =>
  R (.returned (.tuple #[.agg #[.int .i64 n1, .int .i64 n2, .int .i64 n3, .int .i64 n4, .int .i64 n5, .int .i64 n6, .int .i64 n7, .int .i64 n8, .int .i64 n9, .slice s0p s0l s0c, .slice s1p s1l s1c, .int .i64 n10, .int .i64 n11, .string t0, .int .i64 n12, .int .i64 n13, .slice s2p s2l s2c], .int .i64 8])) w2)
  (Calls Try.prog 31 #[.pointer n0, .int .i64 r0] w1 fun e1 w3 =>
  ∃ (r2 : Int), ∃ (r3 : Int), ∃ (r4 : Int), ∃ (r5 : Int), ∃ (r6 : Int), ∃ (r7 : Int), ∃ (r8 : Int), ∃ (r9 : Int), ∃ (r10 : Int), ∃ (r11p : Option Addr), ∃ (r11l : Nat), ∃ (r11c : Nat), ∃ (r12p : Option Addr), ∃ (r12l : Nat), ∃ (r12c : Nat), ∃ (r13 : Int), ∃ (r14 : Int), ∃ (r15 : ByteArray), ∃ (r16 : Int), ∃ (r17 : Int), ∃ (r18p : Option Addr), ∃ (r18l : Nat), ∃ (r18c : Nat), e1 = .returned (.agg #[.int .i64 r2, .int .i64 r3, .int .i64 r4, .int .i64 r5, .int .i64 r6, .int .i64 r7, .int .i64 r8, .int .i64 r9, .int .i64 r10, .slice r11p r11l r11c, .slice r12p r12l r12c, .int .i64 r13, .int .i64 r14, .string r15, .int .i64 r16, .int .i64 r17, .slice r18p r18l r18c]) ∧
  St_api_Msg w3 (⟨b0, 0, none⟩) r2 r3 r4 r5 r6 r7 r8 r9 r10 r11p r11l r11c r12p r12l r12c r13 r14 r15 r16 r17 r18p r18l r18c fun w4 =>
  Ld_api_Msg w4 (⟨b0, 0, none⟩) fun n14 n15 n16 n17 n18 n19 n20 n21 n22 s3p s3l s3c s4p s4l s4c n23 n24 t1 n25 n26 s5p s5l s5c =>
  R (.returned (.tuple #[.agg #[.int .i64 n14, .int .i64 n15, .int .i64 n16, .int .i64 n17, .int .i64 n18, .int .i64 n19, .int .i64 n20, .int .i64 n21, .int .i64 n22, .slice s3p s3l s3c, .slice s4p s4l s4c, .int .i64 n23, .int .i64 n24, .string t1, .int .i64 n25, .int .i64 n26, .slice s5p s5l s5c], .int .i64 0])) w4)
def S_net_Net_Take_ann : Ann := .leaf
theorem S_net_Net_Take_eq (n0 : Option Addr) (id0 : Int) (w : World) (R : Ending → World → Prop) : X Try.prog Try.f15.ntmps (bodyOf Try.f15) S_net_Net_Take_ann (argEnv 0 [.pointer n0, .int .i64 id0]) w (fun e w' => resK Try.prog Try.f15.results.toList e w' [] fun vs => R (.returned (pack vs)) w') (fun e w' => resK Try.prog Try.f15.results.toList e w' [] fun vs => R (.returned (pack vs)) w') (fun _ _ _ => False) = S_net_Net_Take n0 id0 w R := by kernel_rfl
theorem S_net_Net_Take_ok (n0 : Option Addr) (id0 : Int) (w : World) (R : Ending → World → Prop) (h : S_net_Net_Take n0 id0 w R) : Calls Try.prog 15 #[.pointer n0, .int .i64 id0] w R :=
  calls_of_X (an := S_net_Net_Take_ann) wide_ok Try.func15 (by kernel_rfl) (by kernel_rfl) (by rw [S_net_Net_Take_eq]; exact h)

def S_net_Net_Copy (n0 : Option Addr) (id0 : Int) (w : World) (R : Ending → World → Prop) : Prop :=
  Calls Try.prog 30 #[.pointer n0, .int .i64 id0] w fun e0 w0 =>
  ∃ (r0 : Int), ∃ (r1 : Bool), e0 = .returned (.tuple #[.int .i64 r0, .bool r1]) ∧
  cond (!r1)
  (R (.returned (.tuple #[.int .i64 0, .int .i64 8])) w0)
  (onSome n0 fun a0 =>
  LdS (World.drew w0) (Addr.add a0 1) fun _ s0l _ =>
  onSome n0 fun a1 =>
  LdI .i64 (World.drew w0) a1 fun n1 =>
  cond (decide ((Nat.cast s0l : Int) ≥ n1))
  (R (.returned (.tuple #[.int .i64 0, .int .i64 5])) (World.drew w0))
  (onSome n0 fun a2 =>
  LdS (World.drew w0) (Addr.add a2 1) fun s1p s1l _ =>
  IdxC s1p s1l r0 18 fun a3 =>
  Ld_api_Msg (World.drew w0) (Addr.add a3 1) fun n2 n3 n4 n5 n6 n7 n8 n9 n10 s2p s2l s2c s3p s3l s3c n11 n12 t0 n13 n14 s4p s4l s4c =>
  Calls Try.prog 29 #[.pointer n0, .agg #[.int .i64 n2, .int .i64 n3, .int .i64 n4, .int .i64 n5, .int .i64 n6, .int .i64 n7, .int .i64 n8, .int .i64 n9, .int .i64 n10, .slice s2p s2l s2c, .slice s3p s3l s3c, .int .i64 n11, .int .i64 n12, .string t0, .int .i64 n13, .int .i64 n14, .slice s4p s4l s4c]] (World.drew w0) fun e1 w1 =>
  ∃ (r2 : Int), e1 = .returned (.int .i64 r2) ∧
  R (.returned (.tuple #[.int .i64 r2, .int .i64 0])) w1))
def S_net_Net_Copy_ann : Ann := (.seq .leaf (.seq .leaf (.seq (.block (.seq .leaf (.cond .leaf (.seq (.draw 11) .leaf)))) .leaf)))
theorem S_net_Net_Copy_eq (n0 : Option Addr) (id0 : Int) (w : World) (R : Ending → World → Prop) : X Try.prog Try.f16.ntmps (bodyOf Try.f16) S_net_Net_Copy_ann (argEnv 0 [.pointer n0, .int .i64 id0]) w (fun e w' => resK Try.prog Try.f16.results.toList e w' [] fun vs => R (.returned (pack vs)) w') (fun e w' => resK Try.prog Try.f16.results.toList e w' [] fun vs => R (.returned (pack vs)) w') (fun _ _ _ => False) = S_net_Net_Copy n0 id0 w R := by kernel_rfl
theorem S_net_Net_Copy_ok (n0 : Option Addr) (id0 : Int) (w : World) (R : Ending → World → Prop) (h : S_net_Net_Copy n0 id0 w R) : Calls Try.prog 16 #[.pointer n0, .int .i64 id0] w R :=
  calls_of_X (an := S_net_Net_Copy_ann) wide_ok Try.func16 (by kernel_rfl) (by kernel_rfl) (by rw [S_net_Net_Copy_eq]; exact h)

def S_net_New (most0 : Int) (w : World) (R : Ending → World → Prop) : Prop :=
  cond (decide (most0 < 1))
  (R (.returned (.tuple #[.pointer none, .int .i64 1])) w)
  (cond (decide (most0 > 100000))
  (R (.returned (.tuple #[.pointer none, .int .i64 1])) w)
  (NewC (.map #[] 0) w fun m0 w0 =>
  NewC (.cells #[.int .i64 most0, .slice none 0 0, .int .i64 0, .map (some m0), .int .i64 0] 76 (0, 0)) w0 fun b0 w1 =>
  R (.returned (.tuple #[.pointer (some (⟨b0, 0, none⟩)), .int .i64 0])) w1))
def S_net_New_ann : Ann := .leaf
theorem S_net_New_eq (most0 : Int) (w : World) (R : Ending → World → Prop) : X Try.prog Try.f17.ntmps (bodyOf Try.f17) S_net_New_ann (argEnv 0 [.int .i64 most0]) w (fun e w' => resK Try.prog Try.f17.results.toList e w' [] fun vs => R (.returned (pack vs)) w') (fun e w' => resK Try.prog Try.f17.results.toList e w' [] fun vs => R (.returned (pack vs)) w') (fun _ _ _ => False) = S_net_New most0 w R := by kernel_rfl
theorem S_net_New_ok (most0 : Int) (w : World) (R : Ending → World → Prop) (h : S_net_New most0 w R) : Calls Try.prog 17 #[.int .i64 most0] w R :=
  calls_of_X (an := S_net_New_ann) wide_ok Try.func17 (by kernel_rfl) (by kernel_rfl) (by rw [S_net_New_eq]; exact h)

def S_law24_same (a0 : Int) (a1 : Int) (a2 : Int) (a3 : Int) (a4 : Int) (a5 : Int) (a6 : Int) (a7 : Int) (a8 : Int) (a9p : Option Addr) (a9l : Nat) (a9c : Nat) (a10p : Option Addr) (a10l : Nat) (a10c : Nat) (a11 : Int) (a12 : Int) (a13 : ByteArray) (a14 : Int) (a15 : Int) (a16p : Option Addr) (a16l : Nat) (a16c : Nat) (b0 : Int) (b1 : Int) (b2 : Int) (b3 : Int) (b4 : Int) (b5 : Int) (b6 : Int) (b7 : Int) (b8 : Int) (b9p : Option Addr) (b9l : Nat) (b9c : Nat) (b10p : Option Addr) (b10l : Nat) (b10c : Nat) (b11 : Int) (b12 : Int) (b13 : ByteArray) (b14 : Int) (b15 : Int) (b16p : Option Addr) (b16l : Nat) (b16c : Nat) (w : World) (R : Ending → World → Prop) : Prop :=
  NewC (.cells #[.int .i64 a0, .int .i64 a1, .int .i64 a2, .int .i64 a3, .int .i64 a4, .int .i64 a5, .int .i64 a6, .int .i64 a7, .int .i64 a8, .slice a9p a9l a9c, .slice a10p a10l a10c, .int .i64 a11, .int .i64 a12, .string a13, .int .i64 a14, .int .i64 a15, .slice a16p a16l a16c] 37 (0, 0)) w fun b17 w0 =>
  NewC (.cells #[.int .i64 b0, .int .i64 b1, .int .i64 b2, .int .i64 b3, .int .i64 b4, .int .i64 b5, .int .i64 b6, .int .i64 b7, .int .i64 b8, .slice b9p b9l b9c, .slice b10p b10l b10c, .int .i64 b11, .int .i64 b12, .string b13, .int .i64 b14, .int .i64 b15, .slice b16p b16l b16c] 37 (0, 0)) w0 fun b18 w1 =>
  Ld_api_Msg w1 (⟨b17, 0, none⟩) fun n0 n1 n2 n3 n4 n5 n6 n7 n8 s0p s0l s0c s1p s1l s1c n9 n10 t0 n11 n12 s2p s2l s2c =>
  Ld_api_Msg w1 (⟨b18, 0, none⟩) fun n13 n14 n15 n16 n17 n18 n19 n20 n21 s3p s3l s3c s4p s4l s4c n22 n23 t1 n24 n25 s5p s5l s5c =>
  Calls Try.prog 32 #[.agg #[.int .i64 n0, .int .i64 n1, .int .i64 n2, .int .i64 n3, .int .i64 n4, .int .i64 n5, .int .i64 n6, .int .i64 n7, .int .i64 n8, .slice s0p s0l s0c, .slice s1p s1l s1c, .int .i64 n9, .int .i64 n10, .string t0, .int .i64 n11, .int .i64 n12, .slice s2p s2l s2c], .agg #[.int .i64 n13, .int .i64 n14, .int .i64 n15, .int .i64 n16, .int .i64 n17, .int .i64 n18, .int .i64 n19, .int .i64 n20, .int .i64 n21, .slice s3p s3l s3c, .slice s4p s4l s4c, .int .i64 n22, .int .i64 n23, .string t1, .int .i64 n24, .int .i64 n25, .slice s5p s5l s5c], .bool true] w1 fun e0 w2 =>
  ∃ (r0 : Bool), e0 = .returned (.bool r0) ∧
  R (.returned (.bool r0)) w2
def S_law24_same_ann : Ann := .leaf
theorem S_law24_same_eq (a0 : Int) (a1 : Int) (a2 : Int) (a3 : Int) (a4 : Int) (a5 : Int) (a6 : Int) (a7 : Int) (a8 : Int) (a9p : Option Addr) (a9l : Nat) (a9c : Nat) (a10p : Option Addr) (a10l : Nat) (a10c : Nat) (a11 : Int) (a12 : Int) (a13 : ByteArray) (a14 : Int) (a15 : Int) (a16p : Option Addr) (a16l : Nat) (a16c : Nat) (b0 : Int) (b1 : Int) (b2 : Int) (b3 : Int) (b4 : Int) (b5 : Int) (b6 : Int) (b7 : Int) (b8 : Int) (b9p : Option Addr) (b9l : Nat) (b9c : Nat) (b10p : Option Addr) (b10l : Nat) (b10c : Nat) (b11 : Int) (b12 : Int) (b13 : ByteArray) (b14 : Int) (b15 : Int) (b16p : Option Addr) (b16l : Nat) (b16c : Nat) (w : World) (R : Ending → World → Prop) : X Try.prog Try.f18.ntmps (bodyOf Try.f18) S_law24_same_ann (argEnv 0 [.agg #[.int .i64 a0, .int .i64 a1, .int .i64 a2, .int .i64 a3, .int .i64 a4, .int .i64 a5, .int .i64 a6, .int .i64 a7, .int .i64 a8, .slice a9p a9l a9c, .slice a10p a10l a10c, .int .i64 a11, .int .i64 a12, .string a13, .int .i64 a14, .int .i64 a15, .slice a16p a16l a16c], .agg #[.int .i64 b0, .int .i64 b1, .int .i64 b2, .int .i64 b3, .int .i64 b4, .int .i64 b5, .int .i64 b6, .int .i64 b7, .int .i64 b8, .slice b9p b9l b9c, .slice b10p b10l b10c, .int .i64 b11, .int .i64 b12, .string b13, .int .i64 b14, .int .i64 b15, .slice b16p b16l b16c]]) w (fun e w' => resK Try.prog Try.f18.results.toList e w' [] fun vs => R (.returned (pack vs)) w') (fun e w' => resK Try.prog Try.f18.results.toList e w' [] fun vs => R (.returned (pack vs)) w') (fun _ _ _ => False) = S_law24_same a0 a1 a2 a3 a4 a5 a6 a7 a8 a9p a9l a9c a10p a10l a10c a11 a12 a13 a14 a15 a16p a16l a16c b0 b1 b2 b3 b4 b5 b6 b7 b8 b9p b9l b9c b10p b10l b10c b11 b12 b13 b14 b15 b16p b16l b16c w R := by kernel_rfl
theorem S_law24_same_ok (a0 : Int) (a1 : Int) (a2 : Int) (a3 : Int) (a4 : Int) (a5 : Int) (a6 : Int) (a7 : Int) (a8 : Int) (a9p : Option Addr) (a9l : Nat) (a9c : Nat) (a10p : Option Addr) (a10l : Nat) (a10c : Nat) (a11 : Int) (a12 : Int) (a13 : ByteArray) (a14 : Int) (a15 : Int) (a16p : Option Addr) (a16l : Nat) (a16c : Nat) (b0 : Int) (b1 : Int) (b2 : Int) (b3 : Int) (b4 : Int) (b5 : Int) (b6 : Int) (b7 : Int) (b8 : Int) (b9p : Option Addr) (b9l : Nat) (b9c : Nat) (b10p : Option Addr) (b10l : Nat) (b10c : Nat) (b11 : Int) (b12 : Int) (b13 : ByteArray) (b14 : Int) (b15 : Int) (b16p : Option Addr) (b16l : Nat) (b16c : Nat) (w : World) (R : Ending → World → Prop) (h : S_law24_same a0 a1 a2 a3 a4 a5 a6 a7 a8 a9p a9l a9c a10p a10l a10c a11 a12 a13 a14 a15 a16p a16l a16c b0 b1 b2 b3 b4 b5 b6 b7 b8 b9p b9l b9c b10p b10l b10c b11 b12 b13 b14 b15 b16p b16l b16c w R) : Calls Try.prog 18 #[.agg #[.int .i64 a0, .int .i64 a1, .int .i64 a2, .int .i64 a3, .int .i64 a4, .int .i64 a5, .int .i64 a6, .int .i64 a7, .int .i64 a8, .slice a9p a9l a9c, .slice a10p a10l a10c, .int .i64 a11, .int .i64 a12, .string a13, .int .i64 a14, .int .i64 a15, .slice a16p a16l a16c], .agg #[.int .i64 b0, .int .i64 b1, .int .i64 b2, .int .i64 b3, .int .i64 b4, .int .i64 b5, .int .i64 b6, .int .i64 b7, .int .i64 b8, .slice b9p b9l b9c, .slice b10p b10l b10c, .int .i64 b11, .int .i64 b12, .string b13, .int .i64 b14, .int .i64 b15, .slice b16p b16l b16c]] w R :=
  calls_of_X (an := S_law24_same_ann) wide_ok Try.func18 (by kernel_rfl) (by kernel_rfl) (by rw [S_law24_same_eq]; exact h)

def S_net_Net_Count (n0 : Option Addr) (w : World) (R : Ending → World → Prop) : Prop :=
  onSome n0 fun a0 =>
  LdS w (Addr.add a0 1) fun _ s0l _ =>
  R (.returned (.int .i64 (Nat.cast s0l : Int))) w
def S_net_Net_Count_ann : Ann := .leaf
theorem S_net_Net_Count_eq (n0 : Option Addr) (w : World) (R : Ending → World → Prop) : X Try.prog Try.f19.ntmps (bodyOf Try.f19) S_net_Net_Count_ann (argEnv 0 [.pointer n0]) w (fun e w' => resK Try.prog Try.f19.results.toList e w' [] fun vs => R (.returned (pack vs)) w') (fun e w' => resK Try.prog Try.f19.results.toList e w' [] fun vs => R (.returned (pack vs)) w') (fun _ _ _ => False) = S_net_Net_Count n0 w R := by kernel_rfl
theorem S_net_Net_Count_ok (n0 : Option Addr) (w : World) (R : Ending → World → Prop) (h : S_net_Net_Count n0 w R) : Calls Try.prog 19 #[.pointer n0] w R :=
  calls_of_X (an := S_net_Net_Count_ann) wide_ok Try.func19 (by kernel_rfl) (by kernel_rfl) (by rw [S_net_Net_Count_eq]; exact h)

def S_law24_vast_l0 (l0p : Option Addr) (l0l : Nat) (R : Ending → World → Prop) (v0p : Option Addr) (v0l : Nat) (v0c : Nat) (i0 : Int) (w0 : World) (I0 : Option Addr → Nat → Nat → Int → World → Prop) (M0 : Option Addr → Nat → Nat → Int → World → Nat) : Prop :=
  cond (decide (i0 < (Nat.cast l0l : Int)))
  (IdxC l0p l0l i0 21 fun a0 =>
  LdS w0 (Addr.add (Addr.add (Addr.add a0 4) 14) 2) fun s0p s0l s0c =>
  RunS Try.prog (Builtin.append_ #[33, 33] 33 #[.slice v0p v0l v0c, .slice s0p s0l s0c]) w0 fun s1p s1l s1c w1 =>
  I0 s1p s1l s1c (IntKind.wrap .i64 (i0 + 1)) w1 ∧ M0 s1p s1l s1c (IntKind.wrap .i64 (i0 + 1)) w1 < M0 v0p v0l v0c i0 w0)
  (Calls Try.prog 33 #[.slice v0p v0l v0c] w0 fun e0 w2 =>
  ∃ (r0 : Bool), e0 = .returned (.bool r0) ∧
  R (.returned (.bool r0)) w2)
def S_law24_vast (l0p : Option Addr) (l0l : Nat) (l0c : Nat) (w : World) (R : Ending → World → Prop) : Prop :=
  ∃ (I0 : Option Addr → Nat → Nat → Int → World → Prop) (M0 : Option Addr → Nat → Nat → Int → World → Nat), I0 none 0 0 0 w ∧
  ∀ (v0p : Option Addr) (v0l : Nat) (v0c : Nat) (i0 : Int) (w0 : World), I0 v0p v0l v0c i0 w0 →
  S_law24_vast_l0 l0p l0l R v0p v0l v0c i0 w0 I0 M0
def S_law24_vast_ann : Ann := (.seq .leaf (.seq .leaf (.seq (.seq .leaf (.block (.loop [0] [(3, .slice), (4, (.int .i64))] .leaf))) .leaf)))
theorem S_law24_vast_eq (l0p : Option Addr) (l0l : Nat) (l0c : Nat) (w : World) (R : Ending → World → Prop) : X Try.prog Try.f20.ntmps (bodyOf Try.f20) S_law24_vast_ann (argEnv 0 [.slice l0p l0l l0c]) w (fun e w' => resK Try.prog Try.f20.results.toList e w' [] fun vs => R (.returned (pack vs)) w') (fun e w' => resK Try.prog Try.f20.results.toList e w' [] fun vs => R (.returned (pack vs)) w') (fun _ _ _ => False) = S_law24_vast l0p l0l l0c w R := by kernel_rfl
theorem S_law24_vast_ok (l0p : Option Addr) (l0l : Nat) (l0c : Nat) (w : World) (R : Ending → World → Prop) (h : S_law24_vast l0p l0l l0c w R) : Calls Try.prog 20 #[.slice l0p l0l l0c] w R :=
  calls_of_X (an := S_law24_vast_ann) wide_ok Try.func20 (by kernel_rfl) (by kernel_rfl) (by rw [S_law24_vast_eq]; exact h)

def S_net_Net_Drop (n0 : Option Addr) (id0 : Int) (w : World) (R : Ending → World → Prop) : Prop :=
  Calls Try.prog 30 #[.pointer n0, .int .i64 id0] w fun e0 w0 =>
  ∃ (r0 : Int), ∃ (r1 : Bool), e0 = .returned (.tuple #[.int .i64 r0, .bool r1]) ∧
  cond (!r1)
  (R (.returned (.int .i64 8)) w0)
  (Calls Try.prog 31 #[.pointer n0, .int .i64 r0] w0 fun e1 w1 =>
  ∃ (r2 : Int), ∃ (r3 : Int), ∃ (r4 : Int), ∃ (r5 : Int), ∃ (r6 : Int), ∃ (r7 : Int), ∃ (r8 : Int), ∃ (r9 : Int), ∃ (r10 : Int), ∃ (r11p : Option Addr), ∃ (r11l : Nat), ∃ (r11c : Nat), ∃ (r12p : Option Addr), ∃ (r12l : Nat), ∃ (r12c : Nat), ∃ (r13 : Int), ∃ (r14 : Int), ∃ (r15 : ByteArray), ∃ (r16 : Int), ∃ (r17 : Int), ∃ (r18p : Option Addr), ∃ (r18l : Nat), ∃ (r18c : Nat), e1 = .returned (.agg #[.int .i64 r2, .int .i64 r3, .int .i64 r4, .int .i64 r5, .int .i64 r6, .int .i64 r7, .int .i64 r8, .int .i64 r9, .int .i64 r10, .slice r11p r11l r11c, .slice r12p r12l r12c, .int .i64 r13, .int .i64 r14, .string r15, .int .i64 r16, .int .i64 r17, .slice r18p r18l r18c]) ∧
  onSome n0 fun a0 =>
  LdI .i64 w1 (Addr.add a0 4) fun n1 =>
  onSome n0 fun a1 =>
  StC w1 (Addr.add a1 4) (.int .i64 (IntKind.wrap .i64 (n1 + 1))) fun w2 =>
  R (.returned (.int .i64 0)) w2)
def S_net_Net_Drop_ann : Ann := .leaf
theorem S_net_Net_Drop_eq (n0 : Option Addr) (id0 : Int) (w : World) (R : Ending → World → Prop) : X Try.prog Try.f21.ntmps (bodyOf Try.f21) S_net_Net_Drop_ann (argEnv 0 [.pointer n0, .int .i64 id0]) w (fun e w' => resK Try.prog Try.f21.results.toList e w' [] fun vs => R (.returned (pack vs)) w') (fun e w' => resK Try.prog Try.f21.results.toList e w' [] fun vs => R (.returned (pack vs)) w') (fun _ _ _ => False) = S_net_Net_Drop n0 id0 w R := by kernel_rfl
theorem S_net_Net_Drop_ok (n0 : Option Addr) (id0 : Int) (w : World) (R : Ending → World → Prop) (h : S_net_Net_Drop n0 id0 w R) : Calls Try.prog 21 #[.pointer n0, .int .i64 id0] w R :=
  calls_of_X (an := S_net_Net_Drop_ann) wide_ok Try.func21 (by kernel_rfl) (by kernel_rfl) (by rw [S_net_Net_Drop_eq]; exact h)

set_option maxRecDepth 100000 in
def S_ref24_Send (n0 : Int) (n1p : Option Addr) (n1l : Nat) (n1c : Nat) (n2 : Int) (n3p : Option Addr) (n3l : Nat) (n3c : Nat) (n4 : Int) (m0 : Int) (m1 : Int) (m2 : Int) (m3 : Int) (m4 : Int) (m5 : Int) (m6 : Int) (m7 : Int) (m8 : Int) (m9p : Option Addr) (m9l : Nat) (m9c : Nat) (m10p : Option Addr) (m10l : Nat) (m10c : Nat) (m11 : Int) (m12 : Int) (m13 : ByteArray) (m14 : Int) (m15 : Int) (m16p : Option Addr) (m16l : Nat) (m16c : Nat) (w : World) (R : Ending → World → Prop) : Prop :=
  NewC (.cells #[.int .i64 n0, .slice n1p n1l n1c, .int .i64 n2, .slice n3p n3l n3c, .int .i64 n4] 58 (0, 0)) w fun b0 w0 =>
  NewC (.cells #[.int .i64 m0, .int .i64 m1, .int .i64 m2, .int .i64 m3, .int .i64 m4, .int .i64 m5, .int .i64 m6, .int .i64 m7, .int .i64 m8, .slice m9p m9l m9c, .slice m10p m10l m10c, .int .i64 m11, .int .i64 m12, .string m13, .int .i64 m14, .int .i64 m15, .slice m16p m16l m16c] 37 (0, 0)) w0 fun b1 w1 =>
  NewC (.cells #[.int .i64 0, .slice none 0 0, .int .i64 0, .slice none 0 0, .int .i64 0] 58 (0, 0)) w1 fun b2 w2 =>
  LdI .i64 w2 (⟨b0, 0, none⟩) fun n5 =>
  LdS w2 (Addr.add (⟨b0, 0, none⟩) 1) fun s0p s0l s0c =>
  LdI .i64 w2 (Addr.add (⟨b0, 0, none⟩) 2) fun n6 =>
  LdS w2 (Addr.add (⟨b0, 0, none⟩) 3) fun s1p s1l s1c =>
  LdI .i64 w2 (Addr.add (⟨b0, 0, none⟩) 4) fun n7 =>
  LdI .i64 w2 (Addr.add (⟨b1, 0, none⟩) 1) fun n8 =>
  LdI .i64 w2 (Addr.add (⟨b1, 0, none⟩) 2) fun n9 =>
  Calls Try.prog 34 #[.agg #[.int .i64 n5, .slice s0p s0l s0c, .int .i64 n6, .slice s1p s1l s1c, .int .i64 n7], .int .i64 n8, .int .i64 n9] w2 fun e0 w3 =>
  ∃ (r0 : Bool), e0 = .returned (.bool r0) ∧
  cond r0
  (LdI .i64 w3 (Addr.add (⟨b0, 0, none⟩) 4) fun n10 =>
  StC w3 (Addr.add (⟨b0, 0, none⟩) 4) (.int .i64 (IntKind.wrap .i64 (n10 + 1))) fun w4 =>
  LdI .i64 w4 (⟨b0, 0, none⟩) fun n11 =>
  LdS w4 (Addr.add (⟨b0, 0, none⟩) 1) fun s2p s2l s2c =>
  LdI .i64 w4 (Addr.add (⟨b0, 0, none⟩) 2) fun n12 =>
  LdS w4 (Addr.add (⟨b0, 0, none⟩) 3) fun s3p s3l s3c =>
  LdI .i64 w4 (Addr.add (⟨b0, 0, none⟩) 4) fun n13 =>
  StC w4 (⟨b2, 0, none⟩) (.int .i64 n11) fun w5 =>
  StC w5 (Addr.add (⟨b2, 0, none⟩) 1) (.slice s2p s2l s2c) fun w6 =>
  StC w6 (Addr.add (⟨b2, 0, none⟩) 2) (.int .i64 n12) fun w7 =>
  StC w7 (Addr.add (⟨b2, 0, none⟩) 3) (.slice s3p s3l s3c) fun w8 =>
  StC w8 (Addr.add (⟨b2, 0, none⟩) 4) (.int .i64 n13) fun w9 =>
  LdI .i64 w9 (⟨b2, 0, none⟩) fun n14 =>
  LdS w9 (Addr.add (⟨b2, 0, none⟩) 1) fun s4p s4l s4c =>
  LdI .i64 w9 (Addr.add (⟨b2, 0, none⟩) 2) fun n15 =>
  LdS w9 (Addr.add (⟨b2, 0, none⟩) 3) fun s5p s5l s5c =>
  LdI .i64 w9 (Addr.add (⟨b2, 0, none⟩) 4) fun n16 =>
  R (.returned (.tuple #[.agg #[.int .i64 n14, .slice s4p s4l s4c, .int .i64 n15, .slice s5p s5l s5c, .int .i64 n16], .int .i64 0, .int .i64 0])) w9)
  (LdS w3 (Addr.add (⟨b0, 0, none⟩) 1) fun _ s6l _ =>
  LdI .i64 w3 (⟨b0, 0, none⟩) fun n17 =>
  cond (decide ((Nat.cast s6l : Int) ≥ n17))
  (LdI .i64 w3 (Addr.add (⟨b0, 0, none⟩) 4) fun n18 =>
  StC w3 (Addr.add (⟨b0, 0, none⟩) 4) (.int .i64 (IntKind.wrap .i64 (n18 + 1))) fun w10 =>
  LdI .i64 w10 (⟨b0, 0, none⟩) fun n19 =>
  LdS w10 (Addr.add (⟨b0, 0, none⟩) 1) fun s7p s7l s7c =>
  LdI .i64 w10 (Addr.add (⟨b0, 0, none⟩) 2) fun n20 =>
  LdS w10 (Addr.add (⟨b0, 0, none⟩) 3) fun s8p s8l s8c =>
  LdI .i64 w10 (Addr.add (⟨b0, 0, none⟩) 4) fun n21 =>
  StC w10 (⟨b2, 0, none⟩) (.int .i64 n19) fun w11 =>
  StC w11 (Addr.add (⟨b2, 0, none⟩) 1) (.slice s7p s7l s7c) fun w12 =>
  StC w12 (Addr.add (⟨b2, 0, none⟩) 2) (.int .i64 n20) fun w13 =>
  StC w13 (Addr.add (⟨b2, 0, none⟩) 3) (.slice s8p s8l s8c) fun w14 =>
  StC w14 (Addr.add (⟨b2, 0, none⟩) 4) (.int .i64 n21) fun w15 =>
  LdI .i64 w15 (⟨b2, 0, none⟩) fun n22 =>
  LdS w15 (Addr.add (⟨b2, 0, none⟩) 1) fun s9p s9l s9c =>
  LdI .i64 w15 (Addr.add (⟨b2, 0, none⟩) 2) fun n23 =>
  LdS w15 (Addr.add (⟨b2, 0, none⟩) 3) fun s10p s10l s10c =>
  LdI .i64 w15 (Addr.add (⟨b2, 0, none⟩) 4) fun n24 =>
  R (.returned (.tuple #[.agg #[.int .i64 n22, .slice s9p s9l s9c, .int .i64 n23, .slice s10p s10l s10c, .int .i64 n24], .int .i64 0, .int .i64 5])) w15)
  (LdI .i64 w3 (⟨b0, 0, none⟩) fun n25 =>
  LdS w3 (Addr.add (⟨b0, 0, none⟩) 1) fun s11p s11l s11c =>
  LdI .i64 w3 (Addr.add (⟨b0, 0, none⟩) 2) fun n26 =>
  LdS w3 (Addr.add (⟨b0, 0, none⟩) 3) fun s12p s12l s12c =>
  LdI .i64 w3 (Addr.add (⟨b0, 0, none⟩) 4) fun n27 =>
  Ld_api_Msg w3 (⟨b1, 0, none⟩) fun n28 n29 n30 n31 n32 n33 n34 n35 n36 s13p s13l s13c s14p s14l s14c n37 n38 t0 n39 n40 s15p s15l s15c =>
  Calls Try.prog 35 #[.agg #[.int .i64 n25, .slice s11p s11l s11c, .int .i64 n26, .slice s12p s12l s12c, .int .i64 n27], .agg #[.int .i64 n28, .int .i64 n29, .int .i64 n30, .int .i64 n31, .int .i64 n32, .int .i64 n33, .int .i64 n34, .int .i64 n35, .int .i64 n36, .slice s13p s13l s13c, .slice s14p s14l s14c, .int .i64 n37, .int .i64 n38, .string t0, .int .i64 n39, .int .i64 n40, .slice s15p s15l s15c]] w3 fun e1 w16 =>
  ∃ (r1 : Int), ∃ (r2p : Option Addr), ∃ (r2l : Nat), ∃ (r2c : Nat), ∃ (r3 : Int), ∃ (r4p : Option Addr), ∃ (r4l : Nat), ∃ (r4c : Nat), ∃ (r5 : Int), e1 = .returned (.agg #[.int .i64 r1, .slice r2p r2l r2c, .int .i64 r3, .slice r4p r4l r4c, .int .i64 r5]) ∧
  StC w16 (⟨b0, 0, none⟩) (.int .i64 r1) fun w17 =>
  StC w17 (Addr.add (⟨b0, 0, none⟩) 1) (.slice r2p r2l r2c) fun w18 =>
  StC w18 (Addr.add (⟨b0, 0, none⟩) 2) (.int .i64 r3) fun w19 =>
  StC w19 (Addr.add (⟨b0, 0, none⟩) 3) (.slice r4p r4l r4c) fun w20 =>
  StC w20 (Addr.add (⟨b0, 0, none⟩) 4) (.int .i64 r5) fun w21 =>
  ∃ C0 : World → Prop, C0 (World.drew w21) ∧
  ∃ (n41 : Int), ∃ (s16p : Option Addr), ∃ (s16l : Nat), ∃ (s16c : Nat), ∃ (n42 : Int), ∃ (s17p : Option Addr), ∃ (s17l : Nat), ∃ (s17c : Nat), ∃ (n43 : Int), (∀ (w22 : World), C0 w22 →
  LdI .i64 w22 (⟨b0, 0, none⟩) fun n44 =>
  LdS w22 (Addr.add (⟨b0, 0, none⟩) 1) fun s18p s18l s18c =>
  LdI .i64 w22 (Addr.add (⟨b0, 0, none⟩) 2) fun n45 =>
  LdS w22 (Addr.add (⟨b0, 0, none⟩) 3) fun s19p s19l s19c =>
  LdI .i64 w22 (Addr.add (⟨b0, 0, none⟩) 4) fun n46 =>
  Value.agg #[.int .i64 n44, .slice s18p s18l s18c, .int .i64 n45, .slice s19p s19l s19c, .int .i64 n46] = .agg #[.int .i64 n41, .slice s16p s16l s16c, .int .i64 n42, .slice s17p s17l s17c, .int .i64 n43]) ∧
  LdIQ .i64 C0 (Addr.add (⟨b0, 0, none⟩) 2) fun n47 =>
  StC (World.drew w21) (⟨b2, 0, none⟩) (.int .i64 n41) fun w23 =>
  StC w23 (Addr.add (⟨b2, 0, none⟩) 1) (.slice s16p s16l s16c) fun w24 =>
  StC w24 (Addr.add (⟨b2, 0, none⟩) 2) (.int .i64 n42) fun w25 =>
  StC w25 (Addr.add (⟨b2, 0, none⟩) 3) (.slice s17p s17l s17c) fun w26 =>
  StC w26 (Addr.add (⟨b2, 0, none⟩) 4) (.int .i64 n43) fun w27 =>
  C0 w27 ∧
  LdI .i64 w27 (⟨b2, 0, none⟩) fun n48 =>
  LdS w27 (Addr.add (⟨b2, 0, none⟩) 1) fun s20p s20l s20c =>
  LdI .i64 w27 (Addr.add (⟨b2, 0, none⟩) 2) fun n49 =>
  LdS w27 (Addr.add (⟨b2, 0, none⟩) 3) fun s21p s21l s21c =>
  LdI .i64 w27 (Addr.add (⟨b2, 0, none⟩) 4) fun n50 =>
  R (.returned (.tuple #[.agg #[.int .i64 n48, .slice s20p s20l s20c, .int .i64 n49, .slice s21p s21l s21c, .int .i64 n50], .int .i64 n47, .int .i64 0])) w27))
def S_ref24_Send_ann : Ann := (.seq .leaf (.seq .leaf (.seq .leaf (.seq .leaf (.seq .anyl .leaf)))))
theorem S_ref24_Send_eq (n0 : Int) (n1p : Option Addr) (n1l : Nat) (n1c : Nat) (n2 : Int) (n3p : Option Addr) (n3l : Nat) (n3c : Nat) (n4 : Int) (m0 : Int) (m1 : Int) (m2 : Int) (m3 : Int) (m4 : Int) (m5 : Int) (m6 : Int) (m7 : Int) (m8 : Int) (m9p : Option Addr) (m9l : Nat) (m9c : Nat) (m10p : Option Addr) (m10l : Nat) (m10c : Nat) (m11 : Int) (m12 : Int) (m13 : ByteArray) (m14 : Int) (m15 : Int) (m16p : Option Addr) (m16l : Nat) (m16c : Nat) (w : World) (R : Ending → World → Prop) : X Try.prog Try.f22.ntmps (bodyOf Try.f22) S_ref24_Send_ann (argEnv 0 [.agg #[.int .i64 n0, .slice n1p n1l n1c, .int .i64 n2, .slice n3p n3l n3c, .int .i64 n4], .agg #[.int .i64 m0, .int .i64 m1, .int .i64 m2, .int .i64 m3, .int .i64 m4, .int .i64 m5, .int .i64 m6, .int .i64 m7, .int .i64 m8, .slice m9p m9l m9c, .slice m10p m10l m10c, .int .i64 m11, .int .i64 m12, .string m13, .int .i64 m14, .int .i64 m15, .slice m16p m16l m16c]]) w (fun e w' => resK Try.prog Try.f22.results.toList e w' [] fun vs => R (.returned (pack vs)) w') (fun e w' => resK Try.prog Try.f22.results.toList e w' [] fun vs => R (.returned (pack vs)) w') (fun _ _ _ => False) = S_ref24_Send n0 n1p n1l n1c n2 n3p n3l n3c n4 m0 m1 m2 m3 m4 m5 m6 m7 m8 m9p m9l m9c m10p m10l m10c m11 m12 m13 m14 m15 m16p m16l m16c w R := by kernel_rfl
theorem S_ref24_Send_ok (n0 : Int) (n1p : Option Addr) (n1l : Nat) (n1c : Nat) (n2 : Int) (n3p : Option Addr) (n3l : Nat) (n3c : Nat) (n4 : Int) (m0 : Int) (m1 : Int) (m2 : Int) (m3 : Int) (m4 : Int) (m5 : Int) (m6 : Int) (m7 : Int) (m8 : Int) (m9p : Option Addr) (m9l : Nat) (m9c : Nat) (m10p : Option Addr) (m10l : Nat) (m10c : Nat) (m11 : Int) (m12 : Int) (m13 : ByteArray) (m14 : Int) (m15 : Int) (m16p : Option Addr) (m16l : Nat) (m16c : Nat) (w : World) (R : Ending → World → Prop) (h : S_ref24_Send n0 n1p n1l n1c n2 n3p n3l n3c n4 m0 m1 m2 m3 m4 m5 m6 m7 m8 m9p m9l m9c m10p m10l m10c m11 m12 m13 m14 m15 m16p m16l m16c w R) : Calls Try.prog 22 #[.agg #[.int .i64 n0, .slice n1p n1l n1c, .int .i64 n2, .slice n3p n3l n3c, .int .i64 n4], .agg #[.int .i64 m0, .int .i64 m1, .int .i64 m2, .int .i64 m3, .int .i64 m4, .int .i64 m5, .int .i64 m6, .int .i64 m7, .int .i64 m8, .slice m9p m9l m9c, .slice m10p m10l m10c, .int .i64 m11, .int .i64 m12, .string m13, .int .i64 m14, .int .i64 m15, .slice m16p m16l m16c]] w R :=
  calls_of_X (an := S_ref24_Send_ann) wide_ok Try.func22 (by kernel_rfl) (by kernel_rfl) (by rw [S_ref24_Send_eq]; exact h)

def S_ref24_Pick (n0 : Int) (n1p : Option Addr) (n1l : Nat) (n1c : Nat) (n2 : Int) (n3p : Option Addr) (n3l : Nat) (n3c : Nat) (n4 : Int) (k0 : Int) (w : World) (R : Ending → World → Prop) : Prop :=
  NewC (.cells #[.int .i64 n0, .slice n1p n1l n1c, .int .i64 n2, .slice n3p n3l n3c, .int .i64 n4] 58 (0, 0)) w fun b0 w0 =>
  LdS w0 (Addr.add (⟨b0, 0, none⟩) 1) fun _ s0l _ =>
  cond ((Nat.cast s0l : Int) == 0)
  (R (.returned (.tuple #[.int .i64 0, .int .i64 17])) w0)
  (cond (decide (k0 < 0))
  (R (.returned (.tuple #[.int .i64 0, .int .i64 1])) w0)
  (LdS (World.drew w0) (Addr.add (⟨b0, 0, none⟩) 1) fun s1p s1l _ =>
  LdS (World.drew w0) (Addr.add (⟨b0, 0, none⟩) 1) fun _ s2l _ =>
  DivC (Nat.cast s2l : Int)
  (IdxC s1p s1l (Int.tmod k0 (Nat.cast s2l : Int)) 18 fun a0 =>
  LdI .i64 (World.drew w0) a0 fun n5 =>
  R (.returned (.tuple #[.int .i64 n5, .int .i64 0])) (World.drew w0))))
def S_ref24_Pick_ann : Ann := (.seq .leaf (.seq .leaf (.seq .leaf (.seq (.draw 12) .leaf))))
theorem S_ref24_Pick_eq (n0 : Int) (n1p : Option Addr) (n1l : Nat) (n1c : Nat) (n2 : Int) (n3p : Option Addr) (n3l : Nat) (n3c : Nat) (n4 : Int) (k0 : Int) (w : World) (R : Ending → World → Prop) : X Try.prog Try.f23.ntmps (bodyOf Try.f23) S_ref24_Pick_ann (argEnv 0 [.agg #[.int .i64 n0, .slice n1p n1l n1c, .int .i64 n2, .slice n3p n3l n3c, .int .i64 n4], .int .i64 k0]) w (fun e w' => resK Try.prog Try.f23.results.toList e w' [] fun vs => R (.returned (pack vs)) w') (fun e w' => resK Try.prog Try.f23.results.toList e w' [] fun vs => R (.returned (pack vs)) w') (fun _ _ _ => False) = S_ref24_Pick n0 n1p n1l n1c n2 n3p n3l n3c n4 k0 w R := by kernel_rfl
theorem S_ref24_Pick_ok (n0 : Int) (n1p : Option Addr) (n1l : Nat) (n1c : Nat) (n2 : Int) (n3p : Option Addr) (n3l : Nat) (n3c : Nat) (n4 : Int) (k0 : Int) (w : World) (R : Ending → World → Prop) (h : S_ref24_Pick n0 n1p n1l n1c n2 n3p n3l n3c n4 k0 w R) : Calls Try.prog 23 #[.agg #[.int .i64 n0, .slice n1p n1l n1c, .int .i64 n2, .slice n3p n3l n3c, .int .i64 n4], .int .i64 k0] w R :=
  calls_of_X (an := S_ref24_Pick_ann) wide_ok Try.func23 (by kernel_rfl) (by kernel_rfl) (by rw [S_ref24_Pick_eq]; exact h)

set_option maxRecDepth 100000 in
def S_ref24_Take (n0 : Int) (n1p : Option Addr) (n1l : Nat) (n1c : Nat) (n2 : Int) (n3p : Option Addr) (n3l : Nat) (n3c : Nat) (n4 : Int) (id0 : Int) (w : World) (R : Ending → World → Prop) : Prop :=
  NewC (.cells #[.int .i64 n0, .slice n1p n1l n1c, .int .i64 n2, .slice n3p n3l n3c, .int .i64 n4] 58 (0, 0)) w fun b0 w0 =>
  NewC (.cells #[.int .i64 0, .slice none 0 0, .int .i64 0, .slice none 0 0, .int .i64 0] 58 (0, 0)) w0 fun b1 w1 =>
  NewC (.cells #[.int .i64 0, .int .i64 0, .int .i64 0, .int .i64 0, .int .i64 0, .int .i64 0, .int .i64 0, .int .i64 0, .int .i64 0, .slice none 0 0, .slice none 0 0, .int .i64 0, .int .i64 0, .string (⟨#[]⟩), .int .i64 0, .int .i64 0, .slice none 0 0] 37 (0, 0)) w1 fun b2 w2 =>
  LdI .i64 w2 (⟨b0, 0, none⟩) fun n5 =>
  LdS w2 (Addr.add (⟨b0, 0, none⟩) 1) fun s0p s0l s0c =>
  LdI .i64 w2 (Addr.add (⟨b0, 0, none⟩) 2) fun n6 =>
  LdS w2 (Addr.add (⟨b0, 0, none⟩) 3) fun s1p s1l s1c =>
  LdI .i64 w2 (Addr.add (⟨b0, 0, none⟩) 4) fun n7 =>
  Calls Try.prog 36 #[.agg #[.int .i64 n5, .slice s0p s0l s0c, .int .i64 n6, .slice s1p s1l s1c, .int .i64 n7], .int .i64 id0] w2 fun e0 w3 =>
  ∃ (r0 : Int), e0 = .returned (.int .i64 r0) ∧
  cond (decide (r0 < 0))
  (LdI .i64 w3 (⟨b0, 0, none⟩) fun n8 =>
  LdS w3 (Addr.add (⟨b0, 0, none⟩) 1) fun s2p s2l s2c =>
  LdI .i64 w3 (Addr.add (⟨b0, 0, none⟩) 2) fun n9 =>
  LdS w3 (Addr.add (⟨b0, 0, none⟩) 3) fun s3p s3l s3c =>
  LdI .i64 w3 (Addr.add (⟨b0, 0, none⟩) 4) fun n10 =>
  StC w3 (⟨b1, 0, none⟩) (.int .i64 n8) fun w4 =>
  StC w4 (Addr.add (⟨b1, 0, none⟩) 1) (.slice s2p s2l s2c) fun w5 =>
  StC w5 (Addr.add (⟨b1, 0, none⟩) 2) (.int .i64 n9) fun w6 =>
  StC w6 (Addr.add (⟨b1, 0, none⟩) 3) (.slice s3p s3l s3c) fun w7 =>
  StC w7 (Addr.add (⟨b1, 0, none⟩) 4) (.int .i64 n10) fun w8 =>
  St_api_Msg w8 (⟨b2, 0, none⟩) 0 0 0 0 0 0 0 0 0 none 0 0 none 0 0 0 0 (⟨#[]⟩) 0 0 none 0 0 fun w9 =>
  LdI .i64 w9 (⟨b1, 0, none⟩) fun n11 =>
  LdS w9 (Addr.add (⟨b1, 0, none⟩) 1) fun s4p s4l s4c =>
  LdI .i64 w9 (Addr.add (⟨b1, 0, none⟩) 2) fun n12 =>
  LdS w9 (Addr.add (⟨b1, 0, none⟩) 3) fun s5p s5l s5c =>
  LdI .i64 w9 (Addr.add (⟨b1, 0, none⟩) 4) fun n13 =>
  Ld_api_Msg w9 (⟨b2, 0, none⟩) fun n14 n15 n16 n17 n18 n19 n20 n21 n22 s6p s6l s6c s7p s7l s7c n23 n24 t0 n25 n26 s8p s8l s8c =>
  R (.returned (.tuple #[.agg #[.int .i64 n11, .slice s4p s4l s4c, .int .i64 n12, .slice s5p s5l s5c, .int .i64 n13], .agg #[.int .i64 n14, .int .i64 n15, .int .i64 n16, .int .i64 n17, .int .i64 n18, .int .i64 n19, .int .i64 n20, .int .i64 n21, .int .i64 n22, .slice s6p s6l s6c, .slice s7p s7l s7c, .int .i64 n23, .int .i64 n24, .string t0, .int .i64 n25, .int .i64 n26, .slice s8p s8l s8c], .int .i64 8])) w9)
  (LdS w3 (Addr.add (⟨b0, 0, none⟩) 1) fun s9p s9l _ =>
  IdxC s9p s9l r0 18 fun a0 =>
  Ld_api_Msg w3 (Addr.add a0 1) fun n27 n28 n29 n30 n31 n32 n33 n34 n35 s10p s10l s10c s11p s11l s11c n36 n37 t1 n38 n39 s12p s12l s12c =>
  NewC (.cells #[.int .i64 0, .int .i64 0, .int .i64 0, .int .i64 0, .int .i64 0, .int .i64 0, .int .i64 0, .int .i64 0, .int .i64 0, .slice none 0 0, .slice none 0 0, .int .i64 0, .int .i64 0, .string (⟨#[]⟩), .int .i64 0, .int .i64 0, .slice none 0 0] 37 (0, 0)) w3 fun b3 w10 =>
  St_api_Msg w10 (⟨b3, 0, none⟩) n27 n28 n29 n30 n31 n32 n33 n34 n35 s10p s10l s10c s11p s11l s11c n36 n37 t1 n38 n39 s12p s12l s12c fun w11 =>
  ∃ C0 : World → Prop, C0 (World.drew w11) ∧
  ∃ (n40 : Int), ∃ (s13p : Option Addr), ∃ (s13l : Nat), ∃ (s13c : Nat), ∃ (n41 : Int), ∃ (s14p : Option Addr), ∃ (s14l : Nat), ∃ (s14c : Nat), ∃ (n42 : Int), (∀ (w12 : World), C0 w12 →
  LdI .i64 w12 (⟨b0, 0, none⟩) fun n43 =>
  LdS w12 (Addr.add (⟨b0, 0, none⟩) 1) fun s15p s15l s15c =>
  LdI .i64 w12 (Addr.add (⟨b0, 0, none⟩) 2) fun n44 =>
  LdS w12 (Addr.add (⟨b0, 0, none⟩) 3) fun s16p s16l s16c =>
  LdI .i64 w12 (Addr.add (⟨b0, 0, none⟩) 4) fun n45 =>
  Value.agg #[.int .i64 n43, .slice s15p s15l s15c, .int .i64 n44, .slice s16p s16l s16c, .int .i64 n45] = .agg #[.int .i64 n40, .slice s13p s13l s13c, .int .i64 n41, .slice s14p s14l s14c, .int .i64 n42]) ∧
  ∃ (n46 : Int), ∃ (n47 : Int), ∃ (n48 : Int), ∃ (n49 : Int), ∃ (n50 : Int), ∃ (n51 : Int), ∃ (n52 : Int), ∃ (n53 : Int), ∃ (n54 : Int), ∃ (s17p : Option Addr), ∃ (s17l : Nat), ∃ (s17c : Nat), ∃ (s18p : Option Addr), ∃ (s18l : Nat), ∃ (s18c : Nat), ∃ (n55 : Int), ∃ (n56 : Int), ∃ (t2 : ByteArray), ∃ (n57 : Int), ∃ (n58 : Int), ∃ (s19p : Option Addr), ∃ (s19l : Nat), ∃ (s19c : Nat), (∀ (w13 : World), C0 w13 →
  Ld_api_Msg w13 (⟨b3, 0, none⟩) fun n59 n60 n61 n62 n63 n64 n65 n66 n67 s20p s20l s20c s21p s21l s21c n68 n69 t3 n70 n71 s22p s22l s22c =>
  Value.agg #[.int .i64 n59, .int .i64 n60, .int .i64 n61, .int .i64 n62, .int .i64 n63, .int .i64 n64, .int .i64 n65, .int .i64 n66, .int .i64 n67, .slice s20p s20l s20c, .slice s21p s21l s21c, .int .i64 n68, .int .i64 n69, .string t3, .int .i64 n70, .int .i64 n71, .slice s22p s22l s22c] = .agg #[.int .i64 n46, .int .i64 n47, .int .i64 n48, .int .i64 n49, .int .i64 n50, .int .i64 n51, .int .i64 n52, .int .i64 n53, .int .i64 n54, .slice s17p s17l s17c, .slice s18p s18l s18c, .int .i64 n55, .int .i64 n56, .string t2, .int .i64 n57, .int .i64 n58, .slice s19p s19l s19c]) ∧
  Calls Try.prog 37 #[.agg #[.int .i64 n40, .slice s13p s13l s13c, .int .i64 n41, .slice s14p s14l s14c, .int .i64 n42], .int .i64 r0] (World.drew w11) fun e1 w14 =>
  ∃ (r1 : Int), ∃ (r2p : Option Addr), ∃ (r2l : Nat), ∃ (r2c : Nat), ∃ (r3 : Int), ∃ (r4p : Option Addr), ∃ (r4l : Nat), ∃ (r4c : Nat), ∃ (r5 : Int), e1 = .returned (.agg #[.int .i64 r1, .slice r2p r2l r2c, .int .i64 r3, .slice r4p r4l r4c, .int .i64 r5]) ∧
  C0 w14 ∧
  StC w14 (⟨b1, 0, none⟩) (.int .i64 r1) fun w15 =>
  StC w15 (Addr.add (⟨b1, 0, none⟩) 1) (.slice r2p r2l r2c) fun w16 =>
  StC w16 (Addr.add (⟨b1, 0, none⟩) 2) (.int .i64 r3) fun w17 =>
  StC w17 (Addr.add (⟨b1, 0, none⟩) 3) (.slice r4p r4l r4c) fun w18 =>
  StC w18 (Addr.add (⟨b1, 0, none⟩) 4) (.int .i64 r5) fun w19 =>
  C0 w19 ∧
  St_api_Msg w19 (⟨b2, 0, none⟩) n46 n47 n48 n49 n50 n51 n52 n53 n54 s17p s17l s17c s18p s18l s18c n55 n56 t2 n57 n58 s19p s19l s19c fun w20 =>
  LdI .i64 w20 (⟨b1, 0, none⟩) fun n72 =>
  LdS w20 (Addr.add (⟨b1, 0, none⟩) 1) fun s23p s23l s23c =>
  LdI .i64 w20 (Addr.add (⟨b1, 0, none⟩) 2) fun n73 =>
  LdS w20 (Addr.add (⟨b1, 0, none⟩) 3) fun s24p s24l s24c =>
  LdI .i64 w20 (Addr.add (⟨b1, 0, none⟩) 4) fun n74 =>
  Ld_api_Msg w20 (⟨b2, 0, none⟩) fun n75 n76 n77 n78 n79 n80 n81 n82 n83 s25p s25l s25c s26p s26l s26c n84 n85 t4 n86 n87 s27p s27l s27c =>
  R (.returned (.tuple #[.agg #[.int .i64 n72, .slice s23p s23l s23c, .int .i64 n73, .slice s24p s24l s24c, .int .i64 n74], .agg #[.int .i64 n75, .int .i64 n76, .int .i64 n77, .int .i64 n78, .int .i64 n79, .int .i64 n80, .int .i64 n81, .int .i64 n82, .int .i64 n83, .slice s25p s25l s25c, .slice s26p s26l s26c, .int .i64 n84, .int .i64 n85, .string t4, .int .i64 n86, .int .i64 n87, .slice s27p s27l s27c], .int .i64 0])) w20)
def S_ref24_Take_ann : Ann := (.seq .leaf (.seq .leaf (.seq .leaf (.seq .leaf (.seq .anyl .leaf)))))
theorem S_ref24_Take_eq (n0 : Int) (n1p : Option Addr) (n1l : Nat) (n1c : Nat) (n2 : Int) (n3p : Option Addr) (n3l : Nat) (n3c : Nat) (n4 : Int) (id0 : Int) (w : World) (R : Ending → World → Prop) : X Try.prog Try.f24.ntmps (bodyOf Try.f24) S_ref24_Take_ann (argEnv 0 [.agg #[.int .i64 n0, .slice n1p n1l n1c, .int .i64 n2, .slice n3p n3l n3c, .int .i64 n4], .int .i64 id0]) w (fun e w' => resK Try.prog Try.f24.results.toList e w' [] fun vs => R (.returned (pack vs)) w') (fun e w' => resK Try.prog Try.f24.results.toList e w' [] fun vs => R (.returned (pack vs)) w') (fun _ _ _ => False) = S_ref24_Take n0 n1p n1l n1c n2 n3p n3l n3c n4 id0 w R := by kernel_rfl
theorem S_ref24_Take_ok (n0 : Int) (n1p : Option Addr) (n1l : Nat) (n1c : Nat) (n2 : Int) (n3p : Option Addr) (n3l : Nat) (n3c : Nat) (n4 : Int) (id0 : Int) (w : World) (R : Ending → World → Prop) (h : S_ref24_Take n0 n1p n1l n1c n2 n3p n3l n3c n4 id0 w R) : Calls Try.prog 24 #[.agg #[.int .i64 n0, .slice n1p n1l n1c, .int .i64 n2, .slice n3p n3l n3c, .int .i64 n4], .int .i64 id0] w R :=
  calls_of_X (an := S_ref24_Take_ann) wide_ok Try.func24 (by kernel_rfl) (by kernel_rfl) (by rw [S_ref24_Take_eq]; exact h)

def S_ref24_Copy (n0 : Int) (n1p : Option Addr) (n1l : Nat) (n1c : Nat) (n2 : Int) (n3p : Option Addr) (n3l : Nat) (n3c : Nat) (n4 : Int) (id0 : Int) (w : World) (R : Ending → World → Prop) : Prop :=
  NewC (.cells #[.int .i64 n0, .slice n1p n1l n1c, .int .i64 n2, .slice n3p n3l n3c, .int .i64 n4] 58 (0, 0)) w fun b0 w0 =>
  NewC (.cells #[.int .i64 0, .slice none 0 0, .int .i64 0, .slice none 0 0, .int .i64 0] 58 (0, 0)) w0 fun b1 w1 =>
  LdI .i64 w1 (⟨b0, 0, none⟩) fun n5 =>
  LdS w1 (Addr.add (⟨b0, 0, none⟩) 1) fun s0p s0l s0c =>
  LdI .i64 w1 (Addr.add (⟨b0, 0, none⟩) 2) fun n6 =>
  LdS w1 (Addr.add (⟨b0, 0, none⟩) 3) fun s1p s1l s1c =>
  LdI .i64 w1 (Addr.add (⟨b0, 0, none⟩) 4) fun n7 =>
  Calls Try.prog 36 #[.agg #[.int .i64 n5, .slice s0p s0l s0c, .int .i64 n6, .slice s1p s1l s1c, .int .i64 n7], .int .i64 id0] w1 fun e0 w2 =>
  ∃ (r0 : Int), e0 = .returned (.int .i64 r0) ∧
  cond (decide (r0 < 0))
  (LdI .i64 w2 (⟨b0, 0, none⟩) fun n8 =>
  LdS w2 (Addr.add (⟨b0, 0, none⟩) 1) fun s2p s2l s2c =>
  LdI .i64 w2 (Addr.add (⟨b0, 0, none⟩) 2) fun n9 =>
  LdS w2 (Addr.add (⟨b0, 0, none⟩) 3) fun s3p s3l s3c =>
  LdI .i64 w2 (Addr.add (⟨b0, 0, none⟩) 4) fun n10 =>
  StC w2 (⟨b1, 0, none⟩) (.int .i64 n8) fun w3 =>
  StC w3 (Addr.add (⟨b1, 0, none⟩) 1) (.slice s2p s2l s2c) fun w4 =>
  StC w4 (Addr.add (⟨b1, 0, none⟩) 2) (.int .i64 n9) fun w5 =>
  StC w5 (Addr.add (⟨b1, 0, none⟩) 3) (.slice s3p s3l s3c) fun w6 =>
  StC w6 (Addr.add (⟨b1, 0, none⟩) 4) (.int .i64 n10) fun w7 =>
  LdI .i64 w7 (⟨b1, 0, none⟩) fun n11 =>
  LdS w7 (Addr.add (⟨b1, 0, none⟩) 1) fun s4p s4l s4c =>
  LdI .i64 w7 (Addr.add (⟨b1, 0, none⟩) 2) fun n12 =>
  LdS w7 (Addr.add (⟨b1, 0, none⟩) 3) fun s5p s5l s5c =>
  LdI .i64 w7 (Addr.add (⟨b1, 0, none⟩) 4) fun n13 =>
  R (.returned (.tuple #[.agg #[.int .i64 n11, .slice s4p s4l s4c, .int .i64 n12, .slice s5p s5l s5c, .int .i64 n13], .int .i64 0, .int .i64 8])) w7)
  (LdS w2 (Addr.add (⟨b0, 0, none⟩) 1) fun _ s6l _ =>
  LdI .i64 w2 (⟨b0, 0, none⟩) fun n14 =>
  cond (decide ((Nat.cast s6l : Int) ≥ n14))
  (LdI .i64 w2 (⟨b0, 0, none⟩) fun n15 =>
  LdS w2 (Addr.add (⟨b0, 0, none⟩) 1) fun s7p s7l s7c =>
  LdI .i64 w2 (Addr.add (⟨b0, 0, none⟩) 2) fun n16 =>
  LdS w2 (Addr.add (⟨b0, 0, none⟩) 3) fun s8p s8l s8c =>
  LdI .i64 w2 (Addr.add (⟨b0, 0, none⟩) 4) fun n17 =>
  StC w2 (⟨b1, 0, none⟩) (.int .i64 n15) fun w8 =>
  StC w8 (Addr.add (⟨b1, 0, none⟩) 1) (.slice s7p s7l s7c) fun w9 =>
  StC w9 (Addr.add (⟨b1, 0, none⟩) 2) (.int .i64 n16) fun w10 =>
  StC w10 (Addr.add (⟨b1, 0, none⟩) 3) (.slice s8p s8l s8c) fun w11 =>
  StC w11 (Addr.add (⟨b1, 0, none⟩) 4) (.int .i64 n17) fun w12 =>
  LdI .i64 w12 (⟨b1, 0, none⟩) fun n18 =>
  LdS w12 (Addr.add (⟨b1, 0, none⟩) 1) fun s9p s9l s9c =>
  LdI .i64 w12 (Addr.add (⟨b1, 0, none⟩) 2) fun n19 =>
  LdS w12 (Addr.add (⟨b1, 0, none⟩) 3) fun s10p s10l s10c =>
  LdI .i64 w12 (Addr.add (⟨b1, 0, none⟩) 4) fun n20 =>
  R (.returned (.tuple #[.agg #[.int .i64 n18, .slice s9p s9l s9c, .int .i64 n19, .slice s10p s10l s10c, .int .i64 n20], .int .i64 0, .int .i64 5])) w12)
  (LdI .i64 (World.drew w2) (⟨b0, 0, none⟩) fun n21 =>
  LdS (World.drew w2) (Addr.add (⟨b0, 0, none⟩) 1) fun s11p s11l s11c =>
  LdI .i64 (World.drew w2) (Addr.add (⟨b0, 0, none⟩) 2) fun n22 =>
  LdS (World.drew w2) (Addr.add (⟨b0, 0, none⟩) 3) fun s12p s12l s12c =>
  LdI .i64 (World.drew w2) (Addr.add (⟨b0, 0, none⟩) 4) fun n23 =>
  LdS (World.drew w2) (Addr.add (⟨b0, 0, none⟩) 1) fun s13p s13l _ =>
  IdxC s13p s13l r0 18 fun a0 =>
  Ld_api_Msg (World.drew w2) (Addr.add a0 1) fun n24 n25 n26 n27 n28 n29 n30 n31 n32 s14p s14l s14c s15p s15l s15c n33 n34 t0 n35 n36 s16p s16l s16c =>
  Calls Try.prog 35 #[.agg #[.int .i64 n21, .slice s11p s11l s11c, .int .i64 n22, .slice s12p s12l s12c, .int .i64 n23], .agg #[.int .i64 n24, .int .i64 n25, .int .i64 n26, .int .i64 n27, .int .i64 n28, .int .i64 n29, .int .i64 n30, .int .i64 n31, .int .i64 n32, .slice s14p s14l s14c, .slice s15p s15l s15c, .int .i64 n33, .int .i64 n34, .string t0, .int .i64 n35, .int .i64 n36, .slice s16p s16l s16c]] (World.drew w2) fun e1 w13 =>
  ∃ (r1 : Int), ∃ (r2p : Option Addr), ∃ (r2l : Nat), ∃ (r2c : Nat), ∃ (r3 : Int), ∃ (r4p : Option Addr), ∃ (r4l : Nat), ∃ (r4c : Nat), ∃ (r5 : Int), e1 = .returned (.agg #[.int .i64 r1, .slice r2p r2l r2c, .int .i64 r3, .slice r4p r4l r4c, .int .i64 r5]) ∧
  StC w13 (⟨b0, 0, none⟩) (.int .i64 r1) fun w14 =>
  StC w14 (Addr.add (⟨b0, 0, none⟩) 1) (.slice r2p r2l r2c) fun w15 =>
  StC w15 (Addr.add (⟨b0, 0, none⟩) 2) (.int .i64 r3) fun w16 =>
  StC w16 (Addr.add (⟨b0, 0, none⟩) 3) (.slice r4p r4l r4c) fun w17 =>
  StC w17 (Addr.add (⟨b0, 0, none⟩) 4) (.int .i64 r5) fun w18 =>
  ∃ C0 : World → Prop, C0 (World.drew w18) ∧
  ∃ (n37 : Int), ∃ (s17p : Option Addr), ∃ (s17l : Nat), ∃ (s17c : Nat), ∃ (n38 : Int), ∃ (s18p : Option Addr), ∃ (s18l : Nat), ∃ (s18c : Nat), ∃ (n39 : Int), (∀ (w19 : World), C0 w19 →
  LdI .i64 w19 (⟨b0, 0, none⟩) fun n40 =>
  LdS w19 (Addr.add (⟨b0, 0, none⟩) 1) fun s19p s19l s19c =>
  LdI .i64 w19 (Addr.add (⟨b0, 0, none⟩) 2) fun n41 =>
  LdS w19 (Addr.add (⟨b0, 0, none⟩) 3) fun s20p s20l s20c =>
  LdI .i64 w19 (Addr.add (⟨b0, 0, none⟩) 4) fun n42 =>
  Value.agg #[.int .i64 n40, .slice s19p s19l s19c, .int .i64 n41, .slice s20p s20l s20c, .int .i64 n42] = .agg #[.int .i64 n37, .slice s17p s17l s17c, .int .i64 n38, .slice s18p s18l s18c, .int .i64 n39]) ∧
  LdIQ .i64 C0 (Addr.add (⟨b0, 0, none⟩) 2) fun n43 =>
  StC (World.drew w18) (⟨b1, 0, none⟩) (.int .i64 n37) fun w20 =>
  StC w20 (Addr.add (⟨b1, 0, none⟩) 1) (.slice s17p s17l s17c) fun w21 =>
  StC w21 (Addr.add (⟨b1, 0, none⟩) 2) (.int .i64 n38) fun w22 =>
  StC w22 (Addr.add (⟨b1, 0, none⟩) 3) (.slice s18p s18l s18c) fun w23 =>
  StC w23 (Addr.add (⟨b1, 0, none⟩) 4) (.int .i64 n39) fun w24 =>
  C0 w24 ∧
  LdI .i64 w24 (⟨b1, 0, none⟩) fun n44 =>
  LdS w24 (Addr.add (⟨b1, 0, none⟩) 1) fun s21p s21l s21c =>
  LdI .i64 w24 (Addr.add (⟨b1, 0, none⟩) 2) fun n45 =>
  LdS w24 (Addr.add (⟨b1, 0, none⟩) 3) fun s22p s22l s22c =>
  LdI .i64 w24 (Addr.add (⟨b1, 0, none⟩) 4) fun n46 =>
  R (.returned (.tuple #[.agg #[.int .i64 n44, .slice s21p s21l s21c, .int .i64 n45, .slice s22p s22l s22c, .int .i64 n46], .int .i64 n43, .int .i64 0])) w24))
def S_ref24_Copy_ann : Ann := (.seq .leaf (.seq .leaf (.seq .leaf (.seq .leaf (.seq (.draw 7) (.seq .anyl .leaf))))))
theorem S_ref24_Copy_eq (n0 : Int) (n1p : Option Addr) (n1l : Nat) (n1c : Nat) (n2 : Int) (n3p : Option Addr) (n3l : Nat) (n3c : Nat) (n4 : Int) (id0 : Int) (w : World) (R : Ending → World → Prop) : X Try.prog Try.f25.ntmps (bodyOf Try.f25) S_ref24_Copy_ann (argEnv 0 [.agg #[.int .i64 n0, .slice n1p n1l n1c, .int .i64 n2, .slice n3p n3l n3c, .int .i64 n4], .int .i64 id0]) w (fun e w' => resK Try.prog Try.f25.results.toList e w' [] fun vs => R (.returned (pack vs)) w') (fun e w' => resK Try.prog Try.f25.results.toList e w' [] fun vs => R (.returned (pack vs)) w') (fun _ _ _ => False) = S_ref24_Copy n0 n1p n1l n1c n2 n3p n3l n3c n4 id0 w R := by kernel_rfl
theorem S_ref24_Copy_ok (n0 : Int) (n1p : Option Addr) (n1l : Nat) (n1c : Nat) (n2 : Int) (n3p : Option Addr) (n3l : Nat) (n3c : Nat) (n4 : Int) (id0 : Int) (w : World) (R : Ending → World → Prop) (h : S_ref24_Copy n0 n1p n1l n1c n2 n3p n3l n3c n4 id0 w R) : Calls Try.prog 25 #[.agg #[.int .i64 n0, .slice n1p n1l n1c, .int .i64 n2, .slice n3p n3l n3c, .int .i64 n4], .int .i64 id0] w R :=
  calls_of_X (an := S_ref24_Copy_ann) wide_ok Try.func25 (by kernel_rfl) (by kernel_rfl) (by rw [S_ref24_Copy_eq]; exact h)

def S_ref24_Drop (n0 : Int) (n1p : Option Addr) (n1l : Nat) (n1c : Nat) (n2 : Int) (n3p : Option Addr) (n3l : Nat) (n3c : Nat) (n4 : Int) (id0 : Int) (w : World) (R : Ending → World → Prop) : Prop :=
  NewC (.cells #[.int .i64 n0, .slice n1p n1l n1c, .int .i64 n2, .slice n3p n3l n3c, .int .i64 n4] 58 (0, 0)) w fun b0 w0 =>
  NewC (.cells #[.int .i64 0, .slice none 0 0, .int .i64 0, .slice none 0 0, .int .i64 0] 58 (0, 0)) w0 fun b1 w1 =>
  LdI .i64 w1 (⟨b0, 0, none⟩) fun n5 =>
  LdS w1 (Addr.add (⟨b0, 0, none⟩) 1) fun s0p s0l s0c =>
  LdI .i64 w1 (Addr.add (⟨b0, 0, none⟩) 2) fun n6 =>
  LdS w1 (Addr.add (⟨b0, 0, none⟩) 3) fun s1p s1l s1c =>
  LdI .i64 w1 (Addr.add (⟨b0, 0, none⟩) 4) fun n7 =>
  Calls Try.prog 36 #[.agg #[.int .i64 n5, .slice s0p s0l s0c, .int .i64 n6, .slice s1p s1l s1c, .int .i64 n7], .int .i64 id0] w1 fun e0 w2 =>
  ∃ (r0 : Int), e0 = .returned (.int .i64 r0) ∧
  cond (decide (r0 < 0))
  (LdI .i64 w2 (⟨b0, 0, none⟩) fun n8 =>
  LdS w2 (Addr.add (⟨b0, 0, none⟩) 1) fun s2p s2l s2c =>
  LdI .i64 w2 (Addr.add (⟨b0, 0, none⟩) 2) fun n9 =>
  LdS w2 (Addr.add (⟨b0, 0, none⟩) 3) fun s3p s3l s3c =>
  LdI .i64 w2 (Addr.add (⟨b0, 0, none⟩) 4) fun n10 =>
  StC w2 (⟨b1, 0, none⟩) (.int .i64 n8) fun w3 =>
  StC w3 (Addr.add (⟨b1, 0, none⟩) 1) (.slice s2p s2l s2c) fun w4 =>
  StC w4 (Addr.add (⟨b1, 0, none⟩) 2) (.int .i64 n9) fun w5 =>
  StC w5 (Addr.add (⟨b1, 0, none⟩) 3) (.slice s3p s3l s3c) fun w6 =>
  StC w6 (Addr.add (⟨b1, 0, none⟩) 4) (.int .i64 n10) fun w7 =>
  LdI .i64 w7 (⟨b1, 0, none⟩) fun n11 =>
  LdS w7 (Addr.add (⟨b1, 0, none⟩) 1) fun s4p s4l s4c =>
  LdI .i64 w7 (Addr.add (⟨b1, 0, none⟩) 2) fun n12 =>
  LdS w7 (Addr.add (⟨b1, 0, none⟩) 3) fun s5p s5l s5c =>
  LdI .i64 w7 (Addr.add (⟨b1, 0, none⟩) 4) fun n13 =>
  R (.returned (.tuple #[.agg #[.int .i64 n11, .slice s4p s4l s4c, .int .i64 n12, .slice s5p s5l s5c, .int .i64 n13], .int .i64 8])) w7)
  (LdI .i64 w2 (⟨b0, 0, none⟩) fun n14 =>
  LdS w2 (Addr.add (⟨b0, 0, none⟩) 1) fun s6p s6l s6c =>
  LdI .i64 w2 (Addr.add (⟨b0, 0, none⟩) 2) fun n15 =>
  LdS w2 (Addr.add (⟨b0, 0, none⟩) 3) fun s7p s7l s7c =>
  LdI .i64 w2 (Addr.add (⟨b0, 0, none⟩) 4) fun n16 =>
  Calls Try.prog 37 #[.agg #[.int .i64 n14, .slice s6p s6l s6c, .int .i64 n15, .slice s7p s7l s7c, .int .i64 n16], .int .i64 r0] w2 fun e1 w8 =>
  ∃ (r1 : Int), ∃ (r2p : Option Addr), ∃ (r2l : Nat), ∃ (r2c : Nat), ∃ (r3 : Int), ∃ (r4p : Option Addr), ∃ (r4l : Nat), ∃ (r4c : Nat), ∃ (r5 : Int), e1 = .returned (.agg #[.int .i64 r1, .slice r2p r2l r2c, .int .i64 r3, .slice r4p r4l r4c, .int .i64 r5]) ∧
  StC w8 (⟨b0, 0, none⟩) (.int .i64 r1) fun w9 =>
  StC w9 (Addr.add (⟨b0, 0, none⟩) 1) (.slice r2p r2l r2c) fun w10 =>
  StC w10 (Addr.add (⟨b0, 0, none⟩) 2) (.int .i64 r3) fun w11 =>
  StC w11 (Addr.add (⟨b0, 0, none⟩) 3) (.slice r4p r4l r4c) fun w12 =>
  StC w12 (Addr.add (⟨b0, 0, none⟩) 4) (.int .i64 r5) fun w13 =>
  LdI .i64 w13 (Addr.add (⟨b0, 0, none⟩) 4) fun n17 =>
  StC w13 (Addr.add (⟨b0, 0, none⟩) 4) (.int .i64 (IntKind.wrap .i64 (n17 + 1))) fun w14 =>
  LdI .i64 w14 (⟨b0, 0, none⟩) fun n18 =>
  LdS w14 (Addr.add (⟨b0, 0, none⟩) 1) fun s8p s8l s8c =>
  LdI .i64 w14 (Addr.add (⟨b0, 0, none⟩) 2) fun n19 =>
  LdS w14 (Addr.add (⟨b0, 0, none⟩) 3) fun s9p s9l s9c =>
  LdI .i64 w14 (Addr.add (⟨b0, 0, none⟩) 4) fun n20 =>
  StC w14 (⟨b1, 0, none⟩) (.int .i64 n18) fun w15 =>
  StC w15 (Addr.add (⟨b1, 0, none⟩) 1) (.slice s8p s8l s8c) fun w16 =>
  StC w16 (Addr.add (⟨b1, 0, none⟩) 2) (.int .i64 n19) fun w17 =>
  StC w17 (Addr.add (⟨b1, 0, none⟩) 3) (.slice s9p s9l s9c) fun w18 =>
  StC w18 (Addr.add (⟨b1, 0, none⟩) 4) (.int .i64 n20) fun w19 =>
  LdI .i64 w19 (⟨b1, 0, none⟩) fun n21 =>
  LdS w19 (Addr.add (⟨b1, 0, none⟩) 1) fun s10p s10l s10c =>
  LdI .i64 w19 (Addr.add (⟨b1, 0, none⟩) 2) fun n22 =>
  LdS w19 (Addr.add (⟨b1, 0, none⟩) 3) fun s11p s11l s11c =>
  LdI .i64 w19 (Addr.add (⟨b1, 0, none⟩) 4) fun n23 =>
  R (.returned (.tuple #[.agg #[.int .i64 n21, .slice s10p s10l s10c, .int .i64 n22, .slice s11p s11l s11c, .int .i64 n23], .int .i64 0])) w19)
def S_ref24_Drop_ann : Ann := .leaf
theorem S_ref24_Drop_eq (n0 : Int) (n1p : Option Addr) (n1l : Nat) (n1c : Nat) (n2 : Int) (n3p : Option Addr) (n3l : Nat) (n3c : Nat) (n4 : Int) (id0 : Int) (w : World) (R : Ending → World → Prop) : X Try.prog Try.f26.ntmps (bodyOf Try.f26) S_ref24_Drop_ann (argEnv 0 [.agg #[.int .i64 n0, .slice n1p n1l n1c, .int .i64 n2, .slice n3p n3l n3c, .int .i64 n4], .int .i64 id0]) w (fun e w' => resK Try.prog Try.f26.results.toList e w' [] fun vs => R (.returned (pack vs)) w') (fun e w' => resK Try.prog Try.f26.results.toList e w' [] fun vs => R (.returned (pack vs)) w') (fun _ _ _ => False) = S_ref24_Drop n0 n1p n1l n1c n2 n3p n3l n3c n4 id0 w R := by kernel_rfl
theorem S_ref24_Drop_ok (n0 : Int) (n1p : Option Addr) (n1l : Nat) (n1c : Nat) (n2 : Int) (n3p : Option Addr) (n3l : Nat) (n3c : Nat) (n4 : Int) (id0 : Int) (w : World) (R : Ending → World → Prop) (h : S_ref24_Drop n0 n1p n1l n1c n2 n3p n3l n3c n4 id0 w R) : Calls Try.prog 26 #[.agg #[.int .i64 n0, .slice n1p n1l n1c, .int .i64 n2, .slice n3p n3l n3c, .int .i64 n4], .int .i64 id0] w R :=
  calls_of_X (an := S_ref24_Drop_ann) wide_ok Try.func26 (by kernel_rfl) (by kernel_rfl) (by rw [S_ref24_Drop_eq]; exact h)

def S_ref24_Cut_j0 (l0p : Option Addr) (l0l : Nat) (l0c : Nat) (i0 : Int) (w2 : World) (I0 : Option Addr → Nat → Nat → Int → World → Prop) (M0 : Option Addr → Nat → Nat → Int → World → Nat) (l1p : Option Addr) (l1l : Nat) (l1c : Nat) (w5 : World) : Prop :=
  I0 l1p l1l l1c (IntKind.wrap .i64 (i0 + 1)) w5 ∧ M0 l1p l1l l1c (IntKind.wrap .i64 (i0 + 1)) w5 < M0 l0p l0l l0c i0 w2
def S_ref24_Cut_l0 (a0 : Int) (b0 : Int) (on0 : Bool) (R : Ending → World → Prop) (b1 : Nat) (b2 : Nat) (l0p : Option Addr) (l0l : Nat) (l0c : Nat) (i0 : Int) (w2 : World) (I0 : Option Addr → Nat → Nat → Int → World → Prop) (M0 : Option Addr → Nat → Nat → Int → World → Nat) : Prop :=
  LdS w2 (Addr.add (⟨b1, 0, none⟩) 3) fun _ s0l _ =>
  cond (decide (i0 < (Nat.cast s0l : Int)))
  (∀ k0 : Option Addr → Nat → Nat → World → Prop,
  (∀ (l1p : Option Addr) (l1l : Nat) (l1c : Nat) (w5 : World), S_ref24_Cut_j0 l0p l0l l0c i0 w2 I0 M0 l1p l1l l1c w5 → k0 l1p l1l l1c w5) →
  LdS w2 (Addr.add (⟨b1, 0, none⟩) 3) fun s1p s1l _ =>
  IdxC s1p s1l i0 2 fun a1 =>
  LdI .i64 w2 a1 fun n5 =>
  LdI .i64 w2 (Addr.add a1 1) fun n6 =>
  EqR Try.prog .neq 91 (.agg #[.int .i64 n5, .int .i64 n6]) (.agg #[.int .i64 a0, .int .i64 b0]) fun b3 =>
  cond b3
  (LdS w2 (Addr.add (⟨b1, 0, none⟩) 3) fun s2p s2l _ =>
  IdxC s2p s2l i0 2 fun a2 =>
  LdI .i64 w2 a2 fun n7 =>
  LdI .i64 w2 (Addr.add a2 1) fun n8 =>
  EqR Try.prog .neq 91 (.agg #[.int .i64 n7, .int .i64 n8]) (.agg #[.int .i64 b0, .int .i64 a0]) fun b4 =>
  cond b4
  (LdS w2 (Addr.add (⟨b1, 0, none⟩) 3) fun s3p s3l _ =>
  IdxC s3p s3l i0 2 fun a3 =>
  LdI .i64 w2 a3 fun n9 =>
  LdI .i64 w2 (Addr.add a3 1) fun n10 =>
  NewC (.cells #[.int .i64 n9, .int .i64 n10] 91 (0, 0)) w2 fun b5 w3 =>
  RunS Try.prog (Builtin.append_ #[56, 56] 56 #[.slice l0p l0l l0c, .slice (some (⟨b5, 0, none⟩)) 1 1]) w3 fun s4p s4l s4c w4 =>
  k0 s4p s4l s4c w4)
  (k0 l0p l0l l0c w2))
  (k0 l0p l0l l0c w2))
  (cond on0
  (NewC (.cells #[.int .i64 a0, .int .i64 b0] 91 (0, 0)) w2 fun b6 w6 =>
  RunS Try.prog (Builtin.append_ #[56, 56] 56 #[.slice l0p l0l l0c, .slice (some (⟨b6, 0, none⟩)) 1 1]) w6 fun s5p s5l s5c w7 =>
  StC w7 (Addr.add (⟨b1, 0, none⟩) 3) (.slice s5p s5l s5c) fun w8 =>
  LdI .i64 w8 (⟨b1, 0, none⟩) fun n11 =>
  LdS w8 (Addr.add (⟨b1, 0, none⟩) 1) fun s6p s6l s6c =>
  LdI .i64 w8 (Addr.add (⟨b1, 0, none⟩) 2) fun n12 =>
  LdS w8 (Addr.add (⟨b1, 0, none⟩) 3) fun s7p s7l s7c =>
  LdI .i64 w8 (Addr.add (⟨b1, 0, none⟩) 4) fun n13 =>
  StC w8 (⟨b2, 0, none⟩) (.int .i64 n11) fun w9 =>
  StC w9 (Addr.add (⟨b2, 0, none⟩) 1) (.slice s6p s6l s6c) fun w10 =>
  StC w10 (Addr.add (⟨b2, 0, none⟩) 2) (.int .i64 n12) fun w11 =>
  StC w11 (Addr.add (⟨b2, 0, none⟩) 3) (.slice s7p s7l s7c) fun w12 =>
  StC w12 (Addr.add (⟨b2, 0, none⟩) 4) (.int .i64 n13) fun w13 =>
  LdI .i64 w13 (⟨b2, 0, none⟩) fun n14 =>
  LdS w13 (Addr.add (⟨b2, 0, none⟩) 1) fun s8p s8l s8c =>
  LdI .i64 w13 (Addr.add (⟨b2, 0, none⟩) 2) fun n15 =>
  LdS w13 (Addr.add (⟨b2, 0, none⟩) 3) fun s9p s9l s9c =>
  LdI .i64 w13 (Addr.add (⟨b2, 0, none⟩) 4) fun n16 =>
  R (.returned (.agg #[.int .i64 n14, .slice s8p s8l s8c, .int .i64 n15, .slice s9p s9l s9c, .int .i64 n16])) w13)
  (StC w2 (Addr.add (⟨b1, 0, none⟩) 3) (.slice l0p l0l l0c) fun w14 =>
  LdI .i64 w14 (⟨b1, 0, none⟩) fun n17 =>
  LdS w14 (Addr.add (⟨b1, 0, none⟩) 1) fun s10p s10l s10c =>
  LdI .i64 w14 (Addr.add (⟨b1, 0, none⟩) 2) fun n18 =>
  LdS w14 (Addr.add (⟨b1, 0, none⟩) 3) fun s11p s11l s11c =>
  LdI .i64 w14 (Addr.add (⟨b1, 0, none⟩) 4) fun n19 =>
  StC w14 (⟨b2, 0, none⟩) (.int .i64 n17) fun w15 =>
  StC w15 (Addr.add (⟨b2, 0, none⟩) 1) (.slice s10p s10l s10c) fun w16 =>
  StC w16 (Addr.add (⟨b2, 0, none⟩) 2) (.int .i64 n18) fun w17 =>
  StC w17 (Addr.add (⟨b2, 0, none⟩) 3) (.slice s11p s11l s11c) fun w18 =>
  StC w18 (Addr.add (⟨b2, 0, none⟩) 4) (.int .i64 n19) fun w19 =>
  LdI .i64 w19 (⟨b2, 0, none⟩) fun n20 =>
  LdS w19 (Addr.add (⟨b2, 0, none⟩) 1) fun s12p s12l s12c =>
  LdI .i64 w19 (Addr.add (⟨b2, 0, none⟩) 2) fun n21 =>
  LdS w19 (Addr.add (⟨b2, 0, none⟩) 3) fun s13p s13l s13c =>
  LdI .i64 w19 (Addr.add (⟨b2, 0, none⟩) 4) fun n22 =>
  R (.returned (.agg #[.int .i64 n20, .slice s12p s12l s12c, .int .i64 n21, .slice s13p s13l s13c, .int .i64 n22])) w19))
def S_ref24_Cut (n0 : Int) (n1p : Option Addr) (n1l : Nat) (n1c : Nat) (n2 : Int) (n3p : Option Addr) (n3l : Nat) (n3c : Nat) (n4 : Int) (a0 : Int) (b0 : Int) (on0 : Bool) (w : World) (R : Ending → World → Prop) : Prop :=
  NewC (.cells #[.int .i64 n0, .slice n1p n1l n1c, .int .i64 n2, .slice n3p n3l n3c, .int .i64 n4] 58 (0, 0)) w fun b1 w0 =>
  NewC (.cells #[.int .i64 0, .slice none 0 0, .int .i64 0, .slice none 0 0, .int .i64 0] 58 (0, 0)) w0 fun b2 w1 =>
  ∃ (I0 : Option Addr → Nat → Nat → Int → World → Prop) (M0 : Option Addr → Nat → Nat → Int → World → Nat), I0 none 0 0 0 w1 ∧
  ∀ (l0p : Option Addr) (l0l : Nat) (l0c : Nat) (i0 : Int) (w2 : World), I0 l0p l0l l0c i0 w2 →
  S_ref24_Cut_l0 a0 b0 on0 R b1 b2 l0p l0l l0c i0 w2 I0 M0
def S_ref24_Cut_ann : Ann := (.seq .leaf (.seq .leaf (.seq (.seq .leaf (.block (.loop [1, 2, 3, 4, 8] [(9, .slice), (10, (.int .i64))] (.seq .leaf (.seq (.jblock [1, 2, 3, 4, 8, 10] [(9, .slice)] .leaf .leaf) .leaf))))) .leaf)))
theorem S_ref24_Cut_eq (n0 : Int) (n1p : Option Addr) (n1l : Nat) (n1c : Nat) (n2 : Int) (n3p : Option Addr) (n3l : Nat) (n3c : Nat) (n4 : Int) (a0 : Int) (b0 : Int) (on0 : Bool) (w : World) (R : Ending → World → Prop) : X Try.prog Try.f27.ntmps (bodyOf Try.f27) S_ref24_Cut_ann (argEnv 0 [.agg #[.int .i64 n0, .slice n1p n1l n1c, .int .i64 n2, .slice n3p n3l n3c, .int .i64 n4], .int .i64 a0, .int .i64 b0, .bool on0]) w (fun e w' => resK Try.prog Try.f27.results.toList e w' [] fun vs => R (.returned (pack vs)) w') (fun e w' => resK Try.prog Try.f27.results.toList e w' [] fun vs => R (.returned (pack vs)) w') (fun _ _ _ => False) = S_ref24_Cut n0 n1p n1l n1c n2 n3p n3l n3c n4 a0 b0 on0 w R := by kernel_rfl
theorem S_ref24_Cut_ok (n0 : Int) (n1p : Option Addr) (n1l : Nat) (n1c : Nat) (n2 : Int) (n3p : Option Addr) (n3l : Nat) (n3c : Nat) (n4 : Int) (a0 : Int) (b0 : Int) (on0 : Bool) (w : World) (R : Ending → World → Prop) (h : S_ref24_Cut n0 n1p n1l n1c n2 n3p n3l n3c n4 a0 b0 on0 w R) : Calls Try.prog 27 #[.agg #[.int .i64 n0, .slice n1p n1l n1c, .int .i64 n2, .slice n3p n3l n3c, .int .i64 n4], .int .i64 a0, .int .i64 b0, .bool on0] w R :=
  calls_of_X (an := S_ref24_Cut_ann) wide_ok Try.func27 (by kernel_rfl) (by kernel_rfl) (by rw [S_ref24_Cut_eq]; exact h)

def S_law24_looks_l0 (R : Ending → World → Prop) (b0 : Nat) (r0p : Option Addr) (r0l : Nat) (i0 : Int) (w4 : World) (I0 : Int → World → Prop) (M0 : Int → World → Nat) : Prop :=
  cond (decide (i0 < (Nat.cast r0l : Int)))
  (IdxC r0p r0l i0 18 fun a0 =>
  LdI .i64 (World.drew w4) a0 fun n2 =>
  LdS (World.drew w4) (Addr.add (⟨b0, 0, none⟩) 1) fun s2p s2l _ =>
  IdxC s2p s2l i0 18 fun a1 =>
  LdI .i64 (World.drew w4) a1 fun n3 =>
  cond (n2 != n3)
  (R (.returned (.bool false)) (World.drew w4))
  (IdxC r0p r0l i0 18 fun a2 =>
  Ld_api_Msg (World.drew w4) (Addr.add a2 1) fun n4 n5 n6 n7 n8 n9 n10 n11 n12 s3p s3l s3c s4p s4l s4c n13 n14 t0 n15 n16 s5p s5l s5c =>
  LdS (World.drew w4) (Addr.add (⟨b0, 0, none⟩) 1) fun s6p s6l _ =>
  IdxC s6p s6l i0 18 fun a3 =>
  Ld_api_Msg (World.drew w4) (Addr.add a3 1) fun n17 n18 n19 n20 n21 n22 n23 n24 n25 s7p s7l s7c s8p s8l s8c n26 n27 t1 n28 n29 s9p s9l s9c =>
  Calls Try.prog 18 #[.agg #[.int .i64 n4, .int .i64 n5, .int .i64 n6, .int .i64 n7, .int .i64 n8, .int .i64 n9, .int .i64 n10, .int .i64 n11, .int .i64 n12, .slice s3p s3l s3c, .slice s4p s4l s4c, .int .i64 n13, .int .i64 n14, .string t0, .int .i64 n15, .int .i64 n16, .slice s5p s5l s5c], .agg #[.int .i64 n17, .int .i64 n18, .int .i64 n19, .int .i64 n20, .int .i64 n21, .int .i64 n22, .int .i64 n23, .int .i64 n24, .int .i64 n25, .slice s7p s7l s7c, .slice s8p s8l s8c, .int .i64 n26, .int .i64 n27, .string t1, .int .i64 n28, .int .i64 n29, .slice s9p s9l s9c]] (World.drew w4) fun e3 w5 =>
  ∃ (r3 : Bool), e3 = .returned (.bool r3) ∧
  cond (!r3)
  (R (.returned (.bool false)) w5)
  (I0 (IntKind.wrap .i64 (i0 + 1)) w5 ∧ M0 (IntKind.wrap .i64 (i0 + 1)) w5 < M0 i0 w4)))
  (R (.returned (.bool true)) w4)
def S_law24_looks (n0 : Option Addr) (m0 : Int) (m1p : Option Addr) (m1l : Nat) (m1c : Nat) (m2 : Int) (m3p : Option Addr) (m3l : Nat) (m3c : Nat) (m4 : Int) (w : World) (R : Ending → World → Prop) : Prop :=
  NewC (.cells #[.int .i64 m0, .slice m1p m1l m1c, .int .i64 m2, .slice m3p m3l m3c, .int .i64 m4] 58 (0, 0)) w fun b0 w0 =>
  Calls Try.prog 38 #[.pointer n0] w0 fun e0 w1 =>
  ∃ (r0p : Option Addr), ∃ (r0l : Nat), ∃ (r0c : Nat), e0 = .returned (.slice r0p r0l r0c) ∧
  ∃ C0 : World → Prop, C0 (World.drew w1) ∧
  LdSQ C0 (Addr.add (⟨b0, 0, none⟩) 1) fun _ s0l _ =>
  Calls Try.prog 19 #[.pointer n0] (World.drew w1) fun e1 w2 =>
  ∃ (r1 : Int), e1 = .returned (.int .i64 r1) ∧
  C0 w2 ∧
  cond (r1 != (Nat.cast s0l : Int))
  (R (.returned (.bool false)) w2)
  (LdIQ .i64 C0 (Addr.add (⟨b0, 0, none⟩) 4) fun n1 =>
  Calls Try.prog 13 #[.pointer n0] w2 fun e2 w3 =>
  ∃ (r2 : Int), e2 = .returned (.int .i64 r2) ∧
  C0 w3 ∧
  cond (r2 != n1)
  (R (.returned (.bool false)) w3)
  (LdSQ C0 (Addr.add (⟨b0, 0, none⟩) 1) fun _ s1l _ =>
  cond ((Nat.cast r0l : Int) != (Nat.cast s1l : Int))
  (R (.returned (.bool false)) w3)
  (∃ (I0 : Int → World → Prop) (M0 : Int → World → Nat), I0 0 w3 ∧
  ∀ (i0 : Int) (w4 : World), I0 i0 w4 →
  S_law24_looks_l0 R b0 r0p r0l i0 w4 I0 M0)))
def S_law24_looks_ann : Ann := (.seq .leaf (.seq .leaf (.seq (.seq .anyl .leaf) (.seq (.seq .leaf (.block (.loop [3, 5] [(6, (.int .i64))] (.seq .leaf (.seq (.block (.seq (.draw 24) .leaf)) .leaf))))) .leaf))))
theorem S_law24_looks_eq (n0 : Option Addr) (m0 : Int) (m1p : Option Addr) (m1l : Nat) (m1c : Nat) (m2 : Int) (m3p : Option Addr) (m3l : Nat) (m3c : Nat) (m4 : Int) (w : World) (R : Ending → World → Prop) : X Try.prog Try.f28.ntmps (bodyOf Try.f28) S_law24_looks_ann (argEnv 0 [.pointer n0, .agg #[.int .i64 m0, .slice m1p m1l m1c, .int .i64 m2, .slice m3p m3l m3c, .int .i64 m4]]) w (fun e w' => resK Try.prog Try.f28.results.toList e w' [] fun vs => R (.returned (pack vs)) w') (fun e w' => resK Try.prog Try.f28.results.toList e w' [] fun vs => R (.returned (pack vs)) w') (fun _ _ _ => False) = S_law24_looks n0 m0 m1p m1l m1c m2 m3p m3l m3c m4 w R := by kernel_rfl
theorem S_law24_looks_ok (n0 : Option Addr) (m0 : Int) (m1p : Option Addr) (m1l : Nat) (m1c : Nat) (m2 : Int) (m3p : Option Addr) (m3l : Nat) (m3c : Nat) (m4 : Int) (w : World) (R : Ending → World → Prop) (h : S_law24_looks n0 m0 m1p m1l m1c m2 m3p m3l m3c m4 w R) : Calls Try.prog 28 #[.pointer n0, .agg #[.int .i64 m0, .slice m1p m1l m1c, .int .i64 m2, .slice m3p m3l m3c, .int .i64 m4]] w R :=
  calls_of_X (an := S_law24_looks_ann) wide_ok Try.func28 (by kernel_rfl) (by kernel_rfl) (by rw [S_law24_looks_eq]; exact h)

def S_net_Net_wait (n0 : Option Addr) (m0 : Int) (m1 : Int) (m2 : Int) (m3 : Int) (m4 : Int) (m5 : Int) (m6 : Int) (m7 : Int) (m8 : Int) (m9p : Option Addr) (m9l : Nat) (m9c : Nat) (m10p : Option Addr) (m10l : Nat) (m10c : Nat) (m11 : Int) (m12 : Int) (m13 : ByteArray) (m14 : Int) (m15 : Int) (m16p : Option Addr) (m16l : Nat) (m16c : Nat) (w : World) (R : Ending → World → Prop) : Prop :=
  NewC (.cells #[.int .i64 m0, .int .i64 m1, .int .i64 m2, .int .i64 m3, .int .i64 m4, .int .i64 m5, .int .i64 m6, .int .i64 m7, .int .i64 m8, .slice m9p m9l m9c, .slice m10p m10l m10c, .int .i64 m11, .int .i64 m12, .string m13, .int .i64 m14, .int .i64 m15, .slice m16p m16l m16c] 37 (0, 0)) w fun b0 w0 =>
  onSome n0 fun a0 =>
  LdI .i64 w0 (Addr.add a0 2) fun n1 =>
  onSome n0 fun a1 =>
  StC w0 (Addr.add a1 2) (.int .i64 (IntKind.wrap .i64 (n1 + 1))) fun w1 =>
  ∃ C0 : World → Prop, C0 (World.drew w1) ∧
  onSome n0 fun a2 =>
  LdSQ C0 (Addr.add a2 1) fun s0p s0l s0c =>
  onSome n0 fun a3 =>
  LdIQ .i64 C0 (Addr.add a3 2) fun n2 =>
  ∃ (n3 : Int), ∃ (n4 : Int), ∃ (n5 : Int), ∃ (n6 : Int), ∃ (n7 : Int), ∃ (n8 : Int), ∃ (n9 : Int), ∃ (n10 : Int), ∃ (n11 : Int), ∃ (s1p : Option Addr), ∃ (s1l : Nat), ∃ (s1c : Nat), ∃ (s2p : Option Addr), ∃ (s2l : Nat), ∃ (s2c : Nat), ∃ (n12 : Int), ∃ (n13 : Int), ∃ (t0 : ByteArray), ∃ (n14 : Int), ∃ (n15 : Int), ∃ (s3p : Option Addr), ∃ (s3l : Nat), ∃ (s3c : Nat), (∀ (w2 : World), C0 w2 →
  Ld_api_Msg w2 (⟨b0, 0, none⟩) fun n16 n17 n18 n19 n20 n21 n22 n23 n24 s4p s4l s4c s5p s5l s5c n25 n26 t1 n27 n28 s6p s6l s6c =>
  Value.agg #[.int .i64 n16, .int .i64 n17, .int .i64 n18, .int .i64 n19, .int .i64 n20, .int .i64 n21, .int .i64 n22, .int .i64 n23, .int .i64 n24, .slice s4p s4l s4c, .slice s5p s5l s5c, .int .i64 n25, .int .i64 n26, .string t1, .int .i64 n27, .int .i64 n28, .slice s6p s6l s6c] = .agg #[.int .i64 n3, .int .i64 n4, .int .i64 n5, .int .i64 n6, .int .i64 n7, .int .i64 n8, .int .i64 n9, .int .i64 n10, .int .i64 n11, .slice s1p s1l s1c, .slice s2p s2l s2c, .int .i64 n12, .int .i64 n13, .string t0, .int .i64 n14, .int .i64 n15, .slice s3p s3l s3c]) ∧
  Calls Try.prog 39 #[.agg #[.int .i64 n3, .int .i64 n4, .int .i64 n5, .int .i64 n6, .int .i64 n7, .int .i64 n8, .int .i64 n9, .int .i64 n10, .int .i64 n11, .slice s1p s1l s1c, .slice s2p s2l s2c, .int .i64 n12, .int .i64 n13, .string t0, .int .i64 n14, .int .i64 n15, .slice s3p s3l s3c]] (World.drew w1) fun e0 w3 =>
  ∃ (r0 : Int), ∃ (r1 : Int), ∃ (r2 : Int), ∃ (r3 : Int), ∃ (r4 : Int), ∃ (r5 : Int), ∃ (r6 : Int), ∃ (r7 : Int), ∃ (r8 : Int), ∃ (r9p : Option Addr), ∃ (r9l : Nat), ∃ (r9c : Nat), ∃ (r10p : Option Addr), ∃ (r10l : Nat), ∃ (r10c : Nat), ∃ (r11 : Int), ∃ (r12 : Int), ∃ (r13 : ByteArray), ∃ (r14 : Int), ∃ (r15 : Int), ∃ (r16p : Option Addr), ∃ (r16l : Nat), ∃ (r16c : Nat), e0 = .returned (.agg #[.int .i64 r0, .int .i64 r1, .int .i64 r2, .int .i64 r3, .int .i64 r4, .int .i64 r5, .int .i64 r6, .int .i64 r7, .int .i64 r8, .slice r9p r9l r9c, .slice r10p r10l r10c, .int .i64 r11, .int .i64 r12, .string r13, .int .i64 r14, .int .i64 r15, .slice r16p r16l r16c]) ∧
  C0 w3 ∧
  NewC (.cells #[.int .i64 n2, .int .i64 r0, .int .i64 r1, .int .i64 r2, .int .i64 r3, .int .i64 r4, .int .i64 r5, .int .i64 r6, .int .i64 r7, .int .i64 r8, .slice r9p r9l r9c, .slice r10p r10l r10c, .int .i64 r11, .int .i64 r12, .string r13, .int .i64 r14, .int .i64 r15, .slice r16p r16l r16c] 80 (0, 0)) w3 fun b1 w4 =>
  C0 w4 ∧
  RunS Try.prog (Builtin.append_ #[73, 73] 73 #[.slice s0p s0l s0c, .slice (some (⟨b1, 0, none⟩)) 1 1]) w4 fun s7p s7l s7c w5 =>
  C0 w5 ∧
  onSome n0 fun a4 =>
  StC w5 (Addr.add a4 1) (.slice s7p s7l s7c) fun w6 =>
  onSome n0 fun a5 =>
  LdI .i64 w6 (Addr.add a5 2) fun n29 =>
  R (.returned (.int .i64 n29)) w6
def S_net_Net_wait_ann : Ann := (.seq .leaf (.seq .leaf (.seq .anyl .leaf)))
theorem S_net_Net_wait_eq (n0 : Option Addr) (m0 : Int) (m1 : Int) (m2 : Int) (m3 : Int) (m4 : Int) (m5 : Int) (m6 : Int) (m7 : Int) (m8 : Int) (m9p : Option Addr) (m9l : Nat) (m9c : Nat) (m10p : Option Addr) (m10l : Nat) (m10c : Nat) (m11 : Int) (m12 : Int) (m13 : ByteArray) (m14 : Int) (m15 : Int) (m16p : Option Addr) (m16l : Nat) (m16c : Nat) (w : World) (R : Ending → World → Prop) : X Try.prog Try.f29.ntmps (bodyOf Try.f29) S_net_Net_wait_ann (argEnv 0 [.pointer n0, .agg #[.int .i64 m0, .int .i64 m1, .int .i64 m2, .int .i64 m3, .int .i64 m4, .int .i64 m5, .int .i64 m6, .int .i64 m7, .int .i64 m8, .slice m9p m9l m9c, .slice m10p m10l m10c, .int .i64 m11, .int .i64 m12, .string m13, .int .i64 m14, .int .i64 m15, .slice m16p m16l m16c]]) w (fun e w' => resK Try.prog Try.f29.results.toList e w' [] fun vs => R (.returned (pack vs)) w') (fun e w' => resK Try.prog Try.f29.results.toList e w' [] fun vs => R (.returned (pack vs)) w') (fun _ _ _ => False) = S_net_Net_wait n0 m0 m1 m2 m3 m4 m5 m6 m7 m8 m9p m9l m9c m10p m10l m10c m11 m12 m13 m14 m15 m16p m16l m16c w R := by kernel_rfl
theorem S_net_Net_wait_ok (n0 : Option Addr) (m0 : Int) (m1 : Int) (m2 : Int) (m3 : Int) (m4 : Int) (m5 : Int) (m6 : Int) (m7 : Int) (m8 : Int) (m9p : Option Addr) (m9l : Nat) (m9c : Nat) (m10p : Option Addr) (m10l : Nat) (m10c : Nat) (m11 : Int) (m12 : Int) (m13 : ByteArray) (m14 : Int) (m15 : Int) (m16p : Option Addr) (m16l : Nat) (m16c : Nat) (w : World) (R : Ending → World → Prop) (h : S_net_Net_wait n0 m0 m1 m2 m3 m4 m5 m6 m7 m8 m9p m9l m9c m10p m10l m10c m11 m12 m13 m14 m15 m16p m16l m16c w R) : Calls Try.prog 29 #[.pointer n0, .agg #[.int .i64 m0, .int .i64 m1, .int .i64 m2, .int .i64 m3, .int .i64 m4, .int .i64 m5, .int .i64 m6, .int .i64 m7, .int .i64 m8, .slice m9p m9l m9c, .slice m10p m10l m10c, .int .i64 m11, .int .i64 m12, .string m13, .int .i64 m14, .int .i64 m15, .slice m16p m16l m16c]] w R :=
  calls_of_X (an := S_net_Net_wait_ann) wide_ok Try.func29 (by kernel_rfl) (by kernel_rfl) (by rw [S_net_Net_wait_eq]; exact h)

def S_net_Net_find (n0 : Option Addr) (id0 : Int) (w : World) (R : Ending → World → Prop) : Prop :=
  onSome n0 fun a0 =>
  LdS w (Addr.add a0 1) fun s0p s0l s0c =>
  Calls Try.prog 40 #[.slice s0p s0l s0c, .int .i64 id0, .func (.func 41) #[] #[]] w fun e0 w0 =>
  ∃ (r0 : Int), ∃ (r1 : Bool), e0 = .returned (.tuple #[.int .i64 r0, .bool r1]) ∧
  R (.returned (.tuple #[.int .i64 r0, .bool r1])) w0
def S_net_Net_find_ann : Ann := .leaf
theorem S_net_Net_find_eq (n0 : Option Addr) (id0 : Int) (w : World) (R : Ending → World → Prop) : X Try.prog Try.f30.ntmps (bodyOf Try.f30) S_net_Net_find_ann (argEnv 0 [.pointer n0, .int .i64 id0]) w (fun e w' => resK Try.prog Try.f30.results.toList e w' [] fun vs => R (.returned (pack vs)) w') (fun e w' => resK Try.prog Try.f30.results.toList e w' [] fun vs => R (.returned (pack vs)) w') (fun _ _ _ => False) = S_net_Net_find n0 id0 w R := by kernel_rfl
theorem S_net_Net_find_ok (n0 : Option Addr) (id0 : Int) (w : World) (R : Ending → World → Prop) (h : S_net_Net_find n0 id0 w R) : Calls Try.prog 30 #[.pointer n0, .int .i64 id0] w R :=
  calls_of_X (an := S_net_Net_find_ann) wide_ok Try.func30 (by kernel_rfl) (by kernel_rfl) (by rw [S_net_Net_find_eq]; exact h)

def S_net_Net_out (n0 : Option Addr) (i0 : Int) (w : World) (R : Ending → World → Prop) : Prop :=
  NewC (.cells #[.int .i64 0, .int .i64 0, .int .i64 0, .int .i64 0, .int .i64 0, .int .i64 0, .int .i64 0, .int .i64 0, .int .i64 0, .slice none 0 0, .slice none 0 0, .int .i64 0, .int .i64 0, .string (⟨#[]⟩), .int .i64 0, .int .i64 0, .slice none 0 0] 37 (0, 0)) w fun b0 w0 =>
  onSome n0 fun a0 =>
  LdS w0 (Addr.add a0 1) fun s0p s0l _ =>
  IdxC s0p s0l i0 18 fun a1 =>
  Ld_api_Msg w0 (Addr.add a1 1) fun n1 n2 n3 n4 n5 n6 n7 n8 n9 s1p s1l s1c s2p s2l s2c n10 n11 t0 n12 n13 s3p s3l s3c =>
  NewC (.cells #[.int .i64 0, .int .i64 0, .int .i64 0, .int .i64 0, .int .i64 0, .int .i64 0, .int .i64 0, .int .i64 0, .int .i64 0, .slice none 0 0, .slice none 0 0, .int .i64 0, .int .i64 0, .string (⟨#[]⟩), .int .i64 0, .int .i64 0, .slice none 0 0] 37 (0, 0)) w0 fun b1 w1 =>
  St_api_Msg w1 (⟨b1, 0, none⟩) n1 n2 n3 n4 n5 n6 n7 n8 n9 s1p s1l s1c s2p s2l s2c n10 n11 t0 n12 n13 s3p s3l s3c fun w2 =>
  onSome n0 fun a2 =>
  LdS w2 (Addr.add a2 1) fun s4p s4l s4c =>
  Calls Try.prog 42 #[.slice s4p s4l s4c, .int .i64 i0, .int .i64 (IntKind.wrap .i64 (i0 + 1))] w2 fun e0 w3 =>
  ∃ (r0p : Option Addr), ∃ (r0l : Nat), ∃ (r0c : Nat), e0 = .returned (.slice r0p r0l r0c) ∧
  onSome n0 fun a3 =>
  StC w3 (Addr.add a3 1) (.slice r0p r0l r0c) fun w4 =>
  Ld_api_Msg w4 (⟨b1, 0, none⟩) fun n14 n15 n16 n17 n18 n19 n20 n21 n22 s5p s5l s5c s6p s6l s6c n23 n24 t1 n25 n26 s7p s7l s7c =>
  St_api_Msg w4 (⟨b0, 0, none⟩) n14 n15 n16 n17 n18 n19 n20 n21 n22 s5p s5l s5c s6p s6l s6c n23 n24 t1 n25 n26 s7p s7l s7c fun w5 =>
  Ld_api_Msg w5 (⟨b0, 0, none⟩) fun n27 n28 n29 n30 n31 n32 n33 n34 n35 s8p s8l s8c s9p s9l s9c n36 n37 t2 n38 n39 s10p s10l s10c =>
  R (.returned (.agg #[.int .i64 n27, .int .i64 n28, .int .i64 n29, .int .i64 n30, .int .i64 n31, .int .i64 n32, .int .i64 n33, .int .i64 n34, .int .i64 n35, .slice s8p s8l s8c, .slice s9p s9l s9c, .int .i64 n36, .int .i64 n37, .string t2, .int .i64 n38, .int .i64 n39, .slice s10p s10l s10c])) w5
def S_net_Net_out_ann : Ann := .leaf
theorem S_net_Net_out_eq (n0 : Option Addr) (i0 : Int) (w : World) (R : Ending → World → Prop) : X Try.prog Try.f31.ntmps (bodyOf Try.f31) S_net_Net_out_ann (argEnv 0 [.pointer n0, .int .i64 i0]) w (fun e w' => resK Try.prog Try.f31.results.toList e w' [] fun vs => R (.returned (pack vs)) w') (fun e w' => resK Try.prog Try.f31.results.toList e w' [] fun vs => R (.returned (pack vs)) w') (fun _ _ _ => False) = S_net_Net_out n0 i0 w R := by kernel_rfl
theorem S_net_Net_out_ok (n0 : Option Addr) (i0 : Int) (w : World) (R : Ending → World → Prop) (h : S_net_Net_out n0 i0 w R) : Calls Try.prog 31 #[.pointer n0, .int .i64 i0] w R :=
  calls_of_X (an := S_net_Net_out_ann) wide_ok Try.func31 (by kernel_rfl) (by kernel_rfl) (by rw [S_net_Net_out_eq]; exact h)

def S_ref24_Same_j0 (R : Ending → World → Prop) (b17 : Nat) (b18 : Nat) (w2 : World) : Prop :=
  LdS w2 (Addr.add (⟨b17, 0, none⟩) 9) fun s6p s6l s6c =>
  LdS w2 (Addr.add (⟨b18, 0, none⟩) 9) fun s7p s7l s7c =>
  Calls Try.prog 43 #[.slice s6p s6l s6c, .slice s7p s7l s7c] w2 fun e0 w3 =>
  ∃ (r0 : Bool), e0 = .returned (.bool r0) ∧
  cond r0
  (LdI .i64 w3 (Addr.add (⟨b17, 0, none⟩) 11) fun n18 =>
  LdI .i64 w3 (Addr.add (Addr.add (⟨b17, 0, none⟩) 11) 1) fun n19 =>
  LdStr w3 (Addr.add (Addr.add (⟨b17, 0, none⟩) 11) 2) fun t2 =>
  NewC (.cells #[.int .i64 n18, .int .i64 n19, .string t2] 32 (0, 0)) w3 fun b19 w4 =>
  LdI .i64 w4 (Addr.add (⟨b18, 0, none⟩) 11) fun n20 =>
  LdI .i64 w4 (Addr.add (Addr.add (⟨b18, 0, none⟩) 11) 1) fun n21 =>
  LdStr w4 (Addr.add (Addr.add (⟨b18, 0, none⟩) 11) 2) fun t3 =>
  NewC (.cells #[.int .i64 n20, .int .i64 n21, .string t3] 32 (0, 0)) w4 fun b20 w5 =>
  Calls Try.prog 43 #[.slice (some (⟨b19, 0, none⟩)) 1 1, .slice (some (⟨b20, 0, none⟩)) 1 1] w5 fun e1 w6 =>
  ∃ (r1 : Bool), e1 = .returned (.bool r1) ∧
  cond r1
  (LdI .i64 w6 (Addr.add (⟨b17, 0, none⟩) 14) fun n22 =>
  LdI .i64 w6 (Addr.add (Addr.add (⟨b17, 0, none⟩) 14) 1) fun n23 =>
  LdS w6 (Addr.add (Addr.add (⟨b17, 0, none⟩) 14) 2) fun s8p s8l s8c =>
  LdI .i64 w6 (Addr.add (⟨b18, 0, none⟩) 14) fun n24 =>
  LdI .i64 w6 (Addr.add (Addr.add (⟨b18, 0, none⟩) 14) 1) fun n25 =>
  LdS w6 (Addr.add (Addr.add (⟨b18, 0, none⟩) 14) 2) fun s9p s9l s9c =>
  Calls Try.prog 44 #[.agg #[.int .i64 n22, .int .i64 n23, .slice s8p s8l s8c], .agg #[.int .i64 n24, .int .i64 n25, .slice s9p s9l s9c]] w6 fun e2 w7 =>
  ∃ (r2 : Bool), e2 = .returned (.bool r2) ∧
  R (.returned (.bool r2)) w7)
  (R (.returned (.bool false)) w6))
  (R (.returned (.bool false)) w3)
def S_ref24_Same (a0 : Int) (a1 : Int) (a2 : Int) (a3 : Int) (a4 : Int) (a5 : Int) (a6 : Int) (a7 : Int) (a8 : Int) (a9p : Option Addr) (a9l : Nat) (a9c : Nat) (a10p : Option Addr) (a10l : Nat) (a10c : Nat) (a11 : Int) (a12 : Int) (a13 : ByteArray) (a14 : Int) (a15 : Int) (a16p : Option Addr) (a16l : Nat) (a16c : Nat) (b0 : Int) (b1 : Int) (b2 : Int) (b3 : Int) (b4 : Int) (b5 : Int) (b6 : Int) (b7 : Int) (b8 : Int) (b9p : Option Addr) (b9l : Nat) (b9c : Nat) (b10p : Option Addr) (b10l : Nat) (b10c : Nat) (b11 : Int) (b12 : Int) (b13 : ByteArray) (b14 : Int) (b15 : Int) (b16p : Option Addr) (b16l : Nat) (b16c : Nat) (images0 : Bool) (w : World) (R : Ending → World → Prop) : Prop :=
  NewC (.cells #[.int .i64 a0, .int .i64 a1, .int .i64 a2, .int .i64 a3, .int .i64 a4, .int .i64 a5, .int .i64 a6, .int .i64 a7, .int .i64 a8, .slice a9p a9l a9c, .slice a10p a10l a10c, .int .i64 a11, .int .i64 a12, .string a13, .int .i64 a14, .int .i64 a15, .slice a16p a16l a16c] 37 (0, 0)) w fun b17 w0 =>
  NewC (.cells #[.int .i64 b0, .int .i64 b1, .int .i64 b2, .int .i64 b3, .int .i64 b4, .int .i64 b5, .int .i64 b6, .int .i64 b7, .int .i64 b8, .slice b9p b9l b9c, .slice b10p b10l b10c, .int .i64 b11, .int .i64 b12, .string b13, .int .i64 b14, .int .i64 b15, .slice b16p b16l b16c] 37 (0, 0)) w0 fun b18 w1 =>
  LdI .i64 w1 (⟨b17, 0, none⟩) fun n0 =>
  LdI .i64 w1 (⟨b18, 0, none⟩) fun n1 =>
  cond (n0 != n1)
  (R (.returned (.bool false)) w1)
  (LdI .i64 w1 (Addr.add (⟨b17, 0, none⟩) 1) fun n2 =>
  LdI .i64 w1 (Addr.add (⟨b18, 0, none⟩) 1) fun n3 =>
  cond (n2 != n3)
  (R (.returned (.bool false)) w1)
  (LdI .i64 w1 (Addr.add (⟨b17, 0, none⟩) 2) fun n4 =>
  LdI .i64 w1 (Addr.add (⟨b18, 0, none⟩) 2) fun n5 =>
  cond (n4 != n5)
  (R (.returned (.bool false)) w1)
  (LdI .i64 w1 (Addr.add (⟨b17, 0, none⟩) 3) fun n6 =>
  LdI .i64 w1 (Addr.add (⟨b18, 0, none⟩) 3) fun n7 =>
  cond (n6 != n7)
  (R (.returned (.bool false)) w1)
  (LdI .i64 w1 (Addr.add (⟨b17, 0, none⟩) 4) fun n8 =>
  LdI .i64 w1 (Addr.add (⟨b18, 0, none⟩) 4) fun n9 =>
  cond (n8 != n9)
  (R (.returned (.bool false)) w1)
  (LdI .i64 w1 (Addr.add (⟨b17, 0, none⟩) 5) fun n10 =>
  LdI .i64 w1 (Addr.add (⟨b18, 0, none⟩) 5) fun n11 =>
  cond (n10 != n11)
  (R (.returned (.bool false)) w1)
  (LdI .i64 w1 (Addr.add (⟨b17, 0, none⟩) 6) fun n12 =>
  LdI .i64 w1 (Addr.add (⟨b18, 0, none⟩) 6) fun n13 =>
  cond (n12 != n13)
  (R (.returned (.bool false)) w1)
  (LdI .i64 w1 (Addr.add (⟨b17, 0, none⟩) 7) fun n14 =>
  LdI .i64 w1 (Addr.add (⟨b18, 0, none⟩) 7) fun n15 =>
  cond (n14 != n15)
  (R (.returned (.bool false)) w1)
  (LdI .i64 w1 (Addr.add (⟨b17, 0, none⟩) 8) fun n16 =>
  LdI .i64 w1 (Addr.add (⟨b18, 0, none⟩) 8) fun n17 =>
  cond (n16 != n17)
  (R (.returned (.bool false)) w1)
  (∀ k0 : World → Prop,
  (∀ (w2 : World), S_ref24_Same_j0 R b17 b18 w2 → k0 w2) →
  cond images0
  (LdS w1 (Addr.add (⟨b17, 0, none⟩) 10) fun s0p s0l s0c =>
  RunStr Try.prog (convert 30 9 (.slice s0p s0l s0c)) w1 fun t0 =>
  LdS w1 (Addr.add (⟨b18, 0, none⟩) 10) fun s1p s1l s1c =>
  RunStr Try.prog (convert 30 9 (.slice s1p s1l s1c)) w1 fun t1 =>
  cond (!(t0.toList == t1.toList))
  (R (.returned (.bool false)) w1)
  (LdS w1 (Addr.add (⟨b17, 0, none⟩) 10) fun _ s2l _ =>
  LdS w1 (Addr.add (⟨b18, 0, none⟩) 10) fun _ s3l _ =>
  cond (!(((Nat.cast s2l : Int) == 0) == ((Nat.cast s3l : Int) == 0)))
  (R (.returned (.bool false)) w1)
  (k0 w1)))
  (LdS w1 (Addr.add (⟨b17, 0, none⟩) 10) fun _ s4l _ =>
  LdS w1 (Addr.add (⟨b18, 0, none⟩) 10) fun _ s5l _ =>
  cond (!(((Nat.cast s4l : Int) == 0) == ((Nat.cast s5l : Int) == 0)))
  (R (.returned (.bool false)) w1)
  (k0 w1)))))))))))
def S_ref24_Same_ann : Ann := (.seq .leaf (.seq .leaf (.join [3, 4] [] .leaf .leaf)))
theorem S_ref24_Same_eq (a0 : Int) (a1 : Int) (a2 : Int) (a3 : Int) (a4 : Int) (a5 : Int) (a6 : Int) (a7 : Int) (a8 : Int) (a9p : Option Addr) (a9l : Nat) (a9c : Nat) (a10p : Option Addr) (a10l : Nat) (a10c : Nat) (a11 : Int) (a12 : Int) (a13 : ByteArray) (a14 : Int) (a15 : Int) (a16p : Option Addr) (a16l : Nat) (a16c : Nat) (b0 : Int) (b1 : Int) (b2 : Int) (b3 : Int) (b4 : Int) (b5 : Int) (b6 : Int) (b7 : Int) (b8 : Int) (b9p : Option Addr) (b9l : Nat) (b9c : Nat) (b10p : Option Addr) (b10l : Nat) (b10c : Nat) (b11 : Int) (b12 : Int) (b13 : ByteArray) (b14 : Int) (b15 : Int) (b16p : Option Addr) (b16l : Nat) (b16c : Nat) (images0 : Bool) (w : World) (R : Ending → World → Prop) : X Try.prog Try.f32.ntmps (bodyOf Try.f32) S_ref24_Same_ann (argEnv 0 [.agg #[.int .i64 a0, .int .i64 a1, .int .i64 a2, .int .i64 a3, .int .i64 a4, .int .i64 a5, .int .i64 a6, .int .i64 a7, .int .i64 a8, .slice a9p a9l a9c, .slice a10p a10l a10c, .int .i64 a11, .int .i64 a12, .string a13, .int .i64 a14, .int .i64 a15, .slice a16p a16l a16c], .agg #[.int .i64 b0, .int .i64 b1, .int .i64 b2, .int .i64 b3, .int .i64 b4, .int .i64 b5, .int .i64 b6, .int .i64 b7, .int .i64 b8, .slice b9p b9l b9c, .slice b10p b10l b10c, .int .i64 b11, .int .i64 b12, .string b13, .int .i64 b14, .int .i64 b15, .slice b16p b16l b16c], .bool images0]) w (fun e w' => resK Try.prog Try.f32.results.toList e w' [] fun vs => R (.returned (pack vs)) w') (fun e w' => resK Try.prog Try.f32.results.toList e w' [] fun vs => R (.returned (pack vs)) w') (fun _ _ _ => False) = S_ref24_Same a0 a1 a2 a3 a4 a5 a6 a7 a8 a9p a9l a9c a10p a10l a10c a11 a12 a13 a14 a15 a16p a16l a16c b0 b1 b2 b3 b4 b5 b6 b7 b8 b9p b9l b9c b10p b10l b10c b11 b12 b13 b14 b15 b16p b16l b16c images0 w R := by kernel_rfl
theorem S_ref24_Same_ok (a0 : Int) (a1 : Int) (a2 : Int) (a3 : Int) (a4 : Int) (a5 : Int) (a6 : Int) (a7 : Int) (a8 : Int) (a9p : Option Addr) (a9l : Nat) (a9c : Nat) (a10p : Option Addr) (a10l : Nat) (a10c : Nat) (a11 : Int) (a12 : Int) (a13 : ByteArray) (a14 : Int) (a15 : Int) (a16p : Option Addr) (a16l : Nat) (a16c : Nat) (b0 : Int) (b1 : Int) (b2 : Int) (b3 : Int) (b4 : Int) (b5 : Int) (b6 : Int) (b7 : Int) (b8 : Int) (b9p : Option Addr) (b9l : Nat) (b9c : Nat) (b10p : Option Addr) (b10l : Nat) (b10c : Nat) (b11 : Int) (b12 : Int) (b13 : ByteArray) (b14 : Int) (b15 : Int) (b16p : Option Addr) (b16l : Nat) (b16c : Nat) (images0 : Bool) (w : World) (R : Ending → World → Prop) (h : S_ref24_Same a0 a1 a2 a3 a4 a5 a6 a7 a8 a9p a9l a9c a10p a10l a10c a11 a12 a13 a14 a15 a16p a16l a16c b0 b1 b2 b3 b4 b5 b6 b7 b8 b9p b9l b9c b10p b10l b10c b11 b12 b13 b14 b15 b16p b16l b16c images0 w R) : Calls Try.prog 32 #[.agg #[.int .i64 a0, .int .i64 a1, .int .i64 a2, .int .i64 a3, .int .i64 a4, .int .i64 a5, .int .i64 a6, .int .i64 a7, .int .i64 a8, .slice a9p a9l a9c, .slice a10p a10l a10c, .int .i64 a11, .int .i64 a12, .string a13, .int .i64 a14, .int .i64 a15, .slice a16p a16l a16c], .agg #[.int .i64 b0, .int .i64 b1, .int .i64 b2, .int .i64 b3, .int .i64 b4, .int .i64 b5, .int .i64 b6, .int .i64 b7, .int .i64 b8, .slice b9p b9l b9c, .slice b10p b10l b10c, .int .i64 b11, .int .i64 b12, .string b13, .int .i64 b14, .int .i64 b15, .slice b16p b16l b16c], .bool images0] w R :=
  calls_of_X (an := S_ref24_Same_ann) wide_ok Try.func32 (by kernel_rfl) (by kernel_rfl) (by rw [S_ref24_Same_eq]; exact h)

def S_ref2_Vast_l0 (l0p : Option Addr) (l0l : Nat) (R : Ending → World → Prop) (left0 : Int) (i0 : Int) (w0 : World) (I0 : Int → Int → World → Prop) (M0 : Int → Int → World → Nat) : Prop :=
  cond (decide (i0 < (Nat.cast l0l : Int)))
  (IdxC l0p l0l i0 5 fun a0 =>
  LdI .i64 w0 a0 fun n0 =>
  LdI .i64 w0 (Addr.add a0 1) fun n1 =>
  LdStr w0 (Addr.add a0 2) fun t0 =>
  LdS w0 (Addr.add a0 3) fun s0p s0l s0c =>
  LdS w0 (Addr.add a0 4) fun s1p s1l s1c =>
  Calls Try.prog 45 #[.agg #[.int .i64 n0, .int .i64 n1, .string t0, .slice s0p s0l s0c, .slice s1p s1l s1c], .int .i64 left0] w0 fun e0 w1 =>
  ∃ (r0 : Int), ∃ (r1 : Bool), e0 = .returned (.tuple #[.int .i64 r0, .bool r1]) ∧
  cond (!r1)
  (R (.returned (.bool true)) w1)
  (I0 r0 (IntKind.wrap .i64 (i0 + 1)) w1 ∧ M0 r0 (IntKind.wrap .i64 (i0 + 1)) w1 < M0 left0 i0 w0))
  (R (.returned (.bool false)) w0)
def S_ref2_Vast (l0p : Option Addr) (l0l : Nat) (l0c : Nat) (w : World) (R : Ending → World → Prop) : Prop :=
  ∃ (I0 : Int → Int → World → Prop) (M0 : Int → Int → World → Nat), I0 5000 0 w ∧
  ∀ (left0 : Int) (i0 : Int) (w0 : World), I0 left0 i0 w0 →
  S_ref2_Vast_l0 l0p l0l R left0 i0 w0 I0 M0
def S_ref2_Vast_ann : Ann := (.seq .leaf (.seq .leaf (.seq (.seq .leaf (.block (.loop [0] [(3, (.int .i64)), (4, (.int .i64))] .leaf))) .leaf)))
theorem S_ref2_Vast_eq (l0p : Option Addr) (l0l : Nat) (l0c : Nat) (w : World) (R : Ending → World → Prop) : X Try.prog Try.f33.ntmps (bodyOf Try.f33) S_ref2_Vast_ann (argEnv 0 [.slice l0p l0l l0c]) w (fun e w' => resK Try.prog Try.f33.results.toList e w' [] fun vs => R (.returned (pack vs)) w') (fun e w' => resK Try.prog Try.f33.results.toList e w' [] fun vs => R (.returned (pack vs)) w') (fun _ _ _ => False) = S_ref2_Vast l0p l0l l0c w R := by kernel_rfl
theorem S_ref2_Vast_ok (l0p : Option Addr) (l0l : Nat) (l0c : Nat) (w : World) (R : Ending → World → Prop) (h : S_ref2_Vast l0p l0l l0c w R) : Calls Try.prog 33 #[.slice l0p l0l l0c] w R :=
  calls_of_X (an := S_ref2_Vast_ann) wide_ok Try.func33 (by kernel_rfl) (by kernel_rfl) (by rw [S_ref2_Vast_eq]; exact h)

def S_ref24_cut_l0 (a0 : Int) (b0 : Int) (R : Ending → World → Prop) (b1 : Nat) (i0 : Int) (w1 : World) (I0 : Int → World → Prop) (M0 : Int → World → Nat) : Prop :=
  LdS w1 (Addr.add (⟨b1, 0, none⟩) 3) fun _ s0l _ =>
  cond (decide (i0 < (Nat.cast s0l : Int)))
  (LdS w1 (Addr.add (⟨b1, 0, none⟩) 3) fun s1p s1l _ =>
  IdxC s1p s1l i0 2 fun a1 =>
  LdI .i64 w1 a1 fun n5 =>
  LdI .i64 w1 (Addr.add a1 1) fun n6 =>
  EqR Try.prog .eql 91 (.agg #[.int .i64 n5, .int .i64 n6]) (.agg #[.int .i64 a0, .int .i64 b0]) fun b2 =>
  cond b2
  (R (.returned (.bool true)) w1)
  (LdS w1 (Addr.add (⟨b1, 0, none⟩) 3) fun s2p s2l _ =>
  IdxC s2p s2l i0 2 fun a2 =>
  LdI .i64 w1 a2 fun n7 =>
  LdI .i64 w1 (Addr.add a2 1) fun n8 =>
  EqR Try.prog .eql 91 (.agg #[.int .i64 n7, .int .i64 n8]) (.agg #[.int .i64 b0, .int .i64 a0]) fun b3 =>
  cond b3
  (R (.returned (.bool true)) w1)
  (I0 (IntKind.wrap .i64 (i0 + 1)) w1 ∧ M0 (IntKind.wrap .i64 (i0 + 1)) w1 < M0 i0 w1)))
  (R (.returned (.bool false)) w1)
def S_ref24_cut (n0 : Int) (n1p : Option Addr) (n1l : Nat) (n1c : Nat) (n2 : Int) (n3p : Option Addr) (n3l : Nat) (n3c : Nat) (n4 : Int) (a0 : Int) (b0 : Int) (w : World) (R : Ending → World → Prop) : Prop :=
  NewC (.cells #[.int .i64 n0, .slice n1p n1l n1c, .int .i64 n2, .slice n3p n3l n3c, .int .i64 n4] 58 (0, 0)) w fun b1 w0 =>
  ∃ (I0 : Int → World → Prop) (M0 : Int → World → Nat), I0 0 w0 ∧
  ∀ (i0 : Int) (w1 : World), I0 i0 w1 →
  S_ref24_cut_l0 a0 b0 R b1 i0 w1 I0 M0
def S_ref24_cut_ann : Ann := (.seq .leaf (.seq (.seq .leaf (.block (.loop [1, 2, 3] [(7, (.int .i64))] .leaf))) .leaf))
theorem S_ref24_cut_eq (n0 : Int) (n1p : Option Addr) (n1l : Nat) (n1c : Nat) (n2 : Int) (n3p : Option Addr) (n3l : Nat) (n3c : Nat) (n4 : Int) (a0 : Int) (b0 : Int) (w : World) (R : Ending → World → Prop) : X Try.prog Try.f34.ntmps (bodyOf Try.f34) S_ref24_cut_ann (argEnv 0 [.agg #[.int .i64 n0, .slice n1p n1l n1c, .int .i64 n2, .slice n3p n3l n3c, .int .i64 n4], .int .i64 a0, .int .i64 b0]) w (fun e w' => resK Try.prog Try.f34.results.toList e w' [] fun vs => R (.returned (pack vs)) w') (fun e w' => resK Try.prog Try.f34.results.toList e w' [] fun vs => R (.returned (pack vs)) w') (fun _ _ _ => False) = S_ref24_cut n0 n1p n1l n1c n2 n3p n3l n3c n4 a0 b0 w R := by kernel_rfl
theorem S_ref24_cut_ok (n0 : Int) (n1p : Option Addr) (n1l : Nat) (n1c : Nat) (n2 : Int) (n3p : Option Addr) (n3l : Nat) (n3c : Nat) (n4 : Int) (a0 : Int) (b0 : Int) (w : World) (R : Ending → World → Prop) (h : S_ref24_cut n0 n1p n1l n1c n2 n3p n3l n3c n4 a0 b0 w R) : Calls Try.prog 34 #[.agg #[.int .i64 n0, .slice n1p n1l n1c, .int .i64 n2, .slice n3p n3l n3c, .int .i64 n4], .int .i64 a0, .int .i64 b0] w R :=
  calls_of_X (an := S_ref24_cut_ann) wide_ok Try.func34 (by kernel_rfl) (by kernel_rfl) (by rw [S_ref24_cut_eq]; exact h)

def S_ref24_add (n0 : Int) (n1p : Option Addr) (n1l : Nat) (n1c : Nat) (n2 : Int) (n3p : Option Addr) (n3l : Nat) (n3c : Nat) (n4 : Int) (m0 : Int) (m1 : Int) (m2 : Int) (m3 : Int) (m4 : Int) (m5 : Int) (m6 : Int) (m7 : Int) (m8 : Int) (m9p : Option Addr) (m9l : Nat) (m9c : Nat) (m10p : Option Addr) (m10l : Nat) (m10c : Nat) (m11 : Int) (m12 : Int) (m13 : ByteArray) (m14 : Int) (m15 : Int) (m16p : Option Addr) (m16l : Nat) (m16c : Nat) (w : World) (R : Ending → World → Prop) : Prop :=
  NewC (.cells #[.int .i64 n0, .slice n1p n1l n1c, .int .i64 n2, .slice n3p n3l n3c, .int .i64 n4] 58 (0, 0)) w fun b0 w0 =>
  NewC (.cells #[.int .i64 m0, .int .i64 m1, .int .i64 m2, .int .i64 m3, .int .i64 m4, .int .i64 m5, .int .i64 m6, .int .i64 m7, .int .i64 m8, .slice m9p m9l m9c, .slice m10p m10l m10c, .int .i64 m11, .int .i64 m12, .string m13, .int .i64 m14, .int .i64 m15, .slice m16p m16l m16c] 37 (0, 0)) w0 fun b1 w1 =>
  NewC (.cells #[.int .i64 0, .slice none 0 0, .int .i64 0, .slice none 0 0, .int .i64 0] 58 (0, 0)) w1 fun b2 w2 =>
  LdI .i64 w2 (Addr.add (⟨b0, 0, none⟩) 2) fun n5 =>
  StC w2 (Addr.add (⟨b0, 0, none⟩) 2) (.int .i64 (IntKind.wrap .i64 (n5 + 1))) fun w3 =>
  ∃ C0 : World → Prop, C0 (World.drew w3) ∧
  LdSQ C0 (Addr.add (⟨b0, 0, none⟩) 1) fun s0p s0l s0c =>
  LdIQ .i64 C0 (Addr.add (⟨b0, 0, none⟩) 2) fun n6 =>
  ∃ (n7 : Int), ∃ (n8 : Int), ∃ (n9 : Int), ∃ (n10 : Int), ∃ (n11 : Int), ∃ (n12 : Int), ∃ (n13 : Int), ∃ (n14 : Int), ∃ (n15 : Int), ∃ (s1p : Option Addr), ∃ (s1l : Nat), ∃ (s1c : Nat), ∃ (s2p : Option Addr), ∃ (s2l : Nat), ∃ (s2c : Nat), ∃ (n16 : Int), ∃ (n17 : Int), ∃ (t0 : ByteArray), ∃ (n18 : Int), ∃ (n19 : Int), ∃ (s3p : Option Addr), ∃ (s3l : Nat), ∃ (s3c : Nat), (∀ (w4 : World), C0 w4 →
  Ld_api_Msg w4 (⟨b1, 0, none⟩) fun n20 n21 n22 n23 n24 n25 n26 n27 n28 s4p s4l s4c s5p s5l s5c n29 n30 t1 n31 n32 s6p s6l s6c =>
  Value.agg #[.int .i64 n20, .int .i64 n21, .int .i64 n22, .int .i64 n23, .int .i64 n24, .int .i64 n25, .int .i64 n26, .int .i64 n27, .int .i64 n28, .slice s4p s4l s4c, .slice s5p s5l s5c, .int .i64 n29, .int .i64 n30, .string t1, .int .i64 n31, .int .i64 n32, .slice s6p s6l s6c] = .agg #[.int .i64 n7, .int .i64 n8, .int .i64 n9, .int .i64 n10, .int .i64 n11, .int .i64 n12, .int .i64 n13, .int .i64 n14, .int .i64 n15, .slice s1p s1l s1c, .slice s2p s2l s2c, .int .i64 n16, .int .i64 n17, .string t0, .int .i64 n18, .int .i64 n19, .slice s3p s3l s3c]) ∧
  (RunS Try.prog (Builtin.append_ #[55, 55] 55 #[.slice none 0 0, .slice s0p s0l s0c]) (World.drew w3) fun s7p s7l s7c w5 =>
  C0 w5 ∧
  NewC (.cells #[.int .i64 n6, .int .i64 n7, .int .i64 n8, .int .i64 n9, .int .i64 n10, .int .i64 n11, .int .i64 n12, .int .i64 n13, .int .i64 n14, .int .i64 n15, .slice s1p s1l s1c, .slice s2p s2l s2c, .int .i64 n16, .int .i64 n17, .string t0, .int .i64 n18, .int .i64 n19, .slice s3p s3l s3c] 88 (0, 0)) w5 fun b3 w6 =>
  C0 w6 ∧
  RunS Try.prog (Builtin.append_ #[55, 55] 55 #[.slice s7p s7l s7c, .slice (some (⟨b3, 0, none⟩)) 1 1]) w6 fun s8p s8l s8c w7 =>
  C0 w7 ∧
  StC w7 (Addr.add (⟨b0, 0, none⟩) 1) (.slice s8p s8l s8c) fun w8 =>
  LdI .i64 w8 (⟨b0, 0, none⟩) fun n33 =>
  LdS w8 (Addr.add (⟨b0, 0, none⟩) 1) fun s9p s9l s9c =>
  LdI .i64 w8 (Addr.add (⟨b0, 0, none⟩) 2) fun n34 =>
  LdS w8 (Addr.add (⟨b0, 0, none⟩) 3) fun s10p s10l s10c =>
  LdI .i64 w8 (Addr.add (⟨b0, 0, none⟩) 4) fun n35 =>
  StC w8 (⟨b2, 0, none⟩) (.int .i64 n33) fun w9 =>
  StC w9 (Addr.add (⟨b2, 0, none⟩) 1) (.slice s9p s9l s9c) fun w10 =>
  StC w10 (Addr.add (⟨b2, 0, none⟩) 2) (.int .i64 n34) fun w11 =>
  StC w11 (Addr.add (⟨b2, 0, none⟩) 3) (.slice s10p s10l s10c) fun w12 =>
  StC w12 (Addr.add (⟨b2, 0, none⟩) 4) (.int .i64 n35) fun w13 =>
  LdI .i64 w13 (⟨b2, 0, none⟩) fun n36 =>
  LdS w13 (Addr.add (⟨b2, 0, none⟩) 1) fun s11p s11l s11c =>
  LdI .i64 w13 (Addr.add (⟨b2, 0, none⟩) 2) fun n37 =>
  LdS w13 (Addr.add (⟨b2, 0, none⟩) 3) fun s12p s12l s12c =>
  LdI .i64 w13 (Addr.add (⟨b2, 0, none⟩) 4) fun n38 =>
  R (.returned (.agg #[.int .i64 n36, .slice s11p s11l s11c, .int .i64 n37, .slice s12p s12l s12c, .int .i64 n38])) w13) ∧
  (NewC (.cells #[.int .i64 n6, .int .i64 n7, .int .i64 n8, .int .i64 n9, .int .i64 n10, .int .i64 n11, .int .i64 n12, .int .i64 n13, .int .i64 n14, .int .i64 n15, .slice s1p s1l s1c, .slice s2p s2l s2c, .int .i64 n16, .int .i64 n17, .string t0, .int .i64 n18, .int .i64 n19, .slice s3p s3l s3c] 88 (0, 0)) (World.drew w3) fun b4 w14 =>
  C0 w14 ∧
  RunS Try.prog (Builtin.append_ #[55, 55] 55 #[.slice none 0 0, .slice s0p s0l s0c]) w14 fun s13p s13l s13c w15 =>
  C0 w15 ∧
  RunS Try.prog (Builtin.append_ #[55, 55] 55 #[.slice s13p s13l s13c, .slice (some (⟨b4, 0, none⟩)) 1 1]) w15 fun s14p s14l s14c w16 =>
  C0 w16 ∧
  StC w16 (Addr.add (⟨b0, 0, none⟩) 1) (.slice s14p s14l s14c) fun w17 =>
  LdI .i64 w17 (⟨b0, 0, none⟩) fun n39 =>
  LdS w17 (Addr.add (⟨b0, 0, none⟩) 1) fun s15p s15l s15c =>
  LdI .i64 w17 (Addr.add (⟨b0, 0, none⟩) 2) fun n40 =>
  LdS w17 (Addr.add (⟨b0, 0, none⟩) 3) fun s16p s16l s16c =>
  LdI .i64 w17 (Addr.add (⟨b0, 0, none⟩) 4) fun n41 =>
  StC w17 (⟨b2, 0, none⟩) (.int .i64 n39) fun w18 =>
  StC w18 (Addr.add (⟨b2, 0, none⟩) 1) (.slice s15p s15l s15c) fun w19 =>
  StC w19 (Addr.add (⟨b2, 0, none⟩) 2) (.int .i64 n40) fun w20 =>
  StC w20 (Addr.add (⟨b2, 0, none⟩) 3) (.slice s16p s16l s16c) fun w21 =>
  StC w21 (Addr.add (⟨b2, 0, none⟩) 4) (.int .i64 n41) fun w22 =>
  LdI .i64 w22 (⟨b2, 0, none⟩) fun n42 =>
  LdS w22 (Addr.add (⟨b2, 0, none⟩) 1) fun s17p s17l s17c =>
  LdI .i64 w22 (Addr.add (⟨b2, 0, none⟩) 2) fun n43 =>
  LdS w22 (Addr.add (⟨b2, 0, none⟩) 3) fun s18p s18l s18c =>
  LdI .i64 w22 (Addr.add (⟨b2, 0, none⟩) 4) fun n44 =>
  R (.returned (.agg #[.int .i64 n42, .slice s17p s17l s17c, .int .i64 n43, .slice s18p s18l s18c, .int .i64 n44])) w22)
def S_ref24_add_ann : Ann := (.seq .leaf (.seq .leaf (.seq .leaf (.seq .anyl .leaf))))
theorem S_ref24_add_eq (n0 : Int) (n1p : Option Addr) (n1l : Nat) (n1c : Nat) (n2 : Int) (n3p : Option Addr) (n3l : Nat) (n3c : Nat) (n4 : Int) (m0 : Int) (m1 : Int) (m2 : Int) (m3 : Int) (m4 : Int) (m5 : Int) (m6 : Int) (m7 : Int) (m8 : Int) (m9p : Option Addr) (m9l : Nat) (m9c : Nat) (m10p : Option Addr) (m10l : Nat) (m10c : Nat) (m11 : Int) (m12 : Int) (m13 : ByteArray) (m14 : Int) (m15 : Int) (m16p : Option Addr) (m16l : Nat) (m16c : Nat) (w : World) (R : Ending → World → Prop) : X Try.prog Try.f35.ntmps (bodyOf Try.f35) S_ref24_add_ann (argEnv 0 [.agg #[.int .i64 n0, .slice n1p n1l n1c, .int .i64 n2, .slice n3p n3l n3c, .int .i64 n4], .agg #[.int .i64 m0, .int .i64 m1, .int .i64 m2, .int .i64 m3, .int .i64 m4, .int .i64 m5, .int .i64 m6, .int .i64 m7, .int .i64 m8, .slice m9p m9l m9c, .slice m10p m10l m10c, .int .i64 m11, .int .i64 m12, .string m13, .int .i64 m14, .int .i64 m15, .slice m16p m16l m16c]]) w (fun e w' => resK Try.prog Try.f35.results.toList e w' [] fun vs => R (.returned (pack vs)) w') (fun e w' => resK Try.prog Try.f35.results.toList e w' [] fun vs => R (.returned (pack vs)) w') (fun _ _ _ => False) = S_ref24_add n0 n1p n1l n1c n2 n3p n3l n3c n4 m0 m1 m2 m3 m4 m5 m6 m7 m8 m9p m9l m9c m10p m10l m10c m11 m12 m13 m14 m15 m16p m16l m16c w R := by kernel_rfl
theorem S_ref24_add_ok (n0 : Int) (n1p : Option Addr) (n1l : Nat) (n1c : Nat) (n2 : Int) (n3p : Option Addr) (n3l : Nat) (n3c : Nat) (n4 : Int) (m0 : Int) (m1 : Int) (m2 : Int) (m3 : Int) (m4 : Int) (m5 : Int) (m6 : Int) (m7 : Int) (m8 : Int) (m9p : Option Addr) (m9l : Nat) (m9c : Nat) (m10p : Option Addr) (m10l : Nat) (m10c : Nat) (m11 : Int) (m12 : Int) (m13 : ByteArray) (m14 : Int) (m15 : Int) (m16p : Option Addr) (m16l : Nat) (m16c : Nat) (w : World) (R : Ending → World → Prop) (h : S_ref24_add n0 n1p n1l n1c n2 n3p n3l n3c n4 m0 m1 m2 m3 m4 m5 m6 m7 m8 m9p m9l m9c m10p m10l m10c m11 m12 m13 m14 m15 m16p m16l m16c w R) : Calls Try.prog 35 #[.agg #[.int .i64 n0, .slice n1p n1l n1c, .int .i64 n2, .slice n3p n3l n3c, .int .i64 n4], .agg #[.int .i64 m0, .int .i64 m1, .int .i64 m2, .int .i64 m3, .int .i64 m4, .int .i64 m5, .int .i64 m6, .int .i64 m7, .int .i64 m8, .slice m9p m9l m9c, .slice m10p m10l m10c, .int .i64 m11, .int .i64 m12, .string m13, .int .i64 m14, .int .i64 m15, .slice m16p m16l m16c]] w R :=
  calls_of_X (an := S_ref24_add_ann) wide_ok Try.func35 (by kernel_rfl) (by kernel_rfl) (by rw [S_ref24_add_eq]; exact h)

def S_ref24_find_l0 (id0 : Int) (R : Ending → World → Prop) (b0 : Nat) (i0 : Int) (w1 : World) (I0 : Int → World → Prop) (M0 : Int → World → Nat) : Prop :=
  LdS w1 (Addr.add (⟨b0, 0, none⟩) 1) fun _ s0l _ =>
  cond (decide (i0 < (Nat.cast s0l : Int)))
  (LdS w1 (Addr.add (⟨b0, 0, none⟩) 1) fun s1p s1l _ =>
  IdxC s1p s1l i0 18 fun a0 =>
  LdI .i64 w1 a0 fun n5 =>
  cond (n5 == id0)
  (R (.returned (.int .i64 i0)) w1)
  (I0 (IntKind.wrap .i64 (i0 + 1)) w1 ∧ M0 (IntKind.wrap .i64 (i0 + 1)) w1 < M0 i0 w1))
  (R (.returned (.int .i64 (-1))) w1)
def S_ref24_find (n0 : Int) (n1p : Option Addr) (n1l : Nat) (n1c : Nat) (n2 : Int) (n3p : Option Addr) (n3l : Nat) (n3c : Nat) (n4 : Int) (id0 : Int) (w : World) (R : Ending → World → Prop) : Prop :=
  NewC (.cells #[.int .i64 n0, .slice n1p n1l n1c, .int .i64 n2, .slice n3p n3l n3c, .int .i64 n4] 58 (0, 0)) w fun b0 w0 =>
  ∃ (I0 : Int → World → Prop) (M0 : Int → World → Nat), I0 0 w0 ∧
  ∀ (i0 : Int) (w1 : World), I0 i0 w1 →
  S_ref24_find_l0 id0 R b0 i0 w1 I0 M0
def S_ref24_find_ann : Ann := (.seq .leaf (.seq (.seq .leaf (.block (.loop [1, 2] [(5, (.int .i64))] .leaf))) .leaf))
theorem S_ref24_find_eq (n0 : Int) (n1p : Option Addr) (n1l : Nat) (n1c : Nat) (n2 : Int) (n3p : Option Addr) (n3l : Nat) (n3c : Nat) (n4 : Int) (id0 : Int) (w : World) (R : Ending → World → Prop) : X Try.prog Try.f36.ntmps (bodyOf Try.f36) S_ref24_find_ann (argEnv 0 [.agg #[.int .i64 n0, .slice n1p n1l n1c, .int .i64 n2, .slice n3p n3l n3c, .int .i64 n4], .int .i64 id0]) w (fun e w' => resK Try.prog Try.f36.results.toList e w' [] fun vs => R (.returned (pack vs)) w') (fun e w' => resK Try.prog Try.f36.results.toList e w' [] fun vs => R (.returned (pack vs)) w') (fun _ _ _ => False) = S_ref24_find n0 n1p n1l n1c n2 n3p n3l n3c n4 id0 w R := by kernel_rfl
theorem S_ref24_find_ok (n0 : Int) (n1p : Option Addr) (n1l : Nat) (n1c : Nat) (n2 : Int) (n3p : Option Addr) (n3l : Nat) (n3c : Nat) (n4 : Int) (id0 : Int) (w : World) (R : Ending → World → Prop) (h : S_ref24_find n0 n1p n1l n1c n2 n3p n3l n3c n4 id0 w R) : Calls Try.prog 36 #[.agg #[.int .i64 n0, .slice n1p n1l n1c, .int .i64 n2, .slice n3p n3l n3c, .int .i64 n4], .int .i64 id0] w R :=
  calls_of_X (an := S_ref24_find_ann) wide_ok Try.func36 (by kernel_rfl) (by kernel_rfl) (by rw [S_ref24_find_eq]; exact h)

def S_ref24_without (n0 : Int) (n1p : Option Addr) (n1l : Nat) (n1c : Nat) (n2 : Int) (n3p : Option Addr) (n3l : Nat) (n3c : Nat) (n4 : Int) (i0 : Int) (w : World) (R : Ending → World → Prop) : Prop :=
  NewC (.cells #[.int .i64 n0, .slice n1p n1l n1c, .int .i64 n2, .slice n3p n3l n3c, .int .i64 n4] 58 (0, 0)) w fun b0 w0 =>
  NewC (.cells #[.int .i64 0, .slice none 0 0, .int .i64 0, .slice none 0 0, .int .i64 0] 58 (0, 0)) w0 fun b1 w1 =>
  LdS w1 (Addr.add (⟨b0, 0, none⟩) 1) fun s0p _ s0c =>
  SlC s0p s0c 0 i0 (Nat.cast s0c : Int) 18 fun s1p s1l s1c =>
  RunS Try.prog (Builtin.append_ #[55, 55] 55 #[.slice none 0 0, .slice s1p s1l s1c]) w1 fun s2p s2l s2c w2 =>
  LdS w2 (Addr.add (⟨b0, 0, none⟩) 1) fun s3p s3l s3c =>
  SlC s3p s3c (IntKind.wrap .i64 (i0 + 1)) (Nat.cast s3l : Int) (Nat.cast s3c : Int) 18 fun s4p s4l s4c =>
  RunS Try.prog (Builtin.append_ #[55, 55] 55 #[.slice s2p s2l s2c, .slice s4p s4l s4c]) w2 fun s5p s5l s5c w3 =>
  StC w3 (Addr.add (⟨b0, 0, none⟩) 1) (.slice s5p s5l s5c) fun w4 =>
  LdI .i64 w4 (⟨b0, 0, none⟩) fun n5 =>
  LdS w4 (Addr.add (⟨b0, 0, none⟩) 1) fun s6p s6l s6c =>
  LdI .i64 w4 (Addr.add (⟨b0, 0, none⟩) 2) fun n6 =>
  LdS w4 (Addr.add (⟨b0, 0, none⟩) 3) fun s7p s7l s7c =>
  LdI .i64 w4 (Addr.add (⟨b0, 0, none⟩) 4) fun n7 =>
  StC w4 (⟨b1, 0, none⟩) (.int .i64 n5) fun w5 =>
  StC w5 (Addr.add (⟨b1, 0, none⟩) 1) (.slice s6p s6l s6c) fun w6 =>
  StC w6 (Addr.add (⟨b1, 0, none⟩) 2) (.int .i64 n6) fun w7 =>
  StC w7 (Addr.add (⟨b1, 0, none⟩) 3) (.slice s7p s7l s7c) fun w8 =>
  StC w8 (Addr.add (⟨b1, 0, none⟩) 4) (.int .i64 n7) fun w9 =>
  LdI .i64 w9 (⟨b1, 0, none⟩) fun n8 =>
  LdS w9 (Addr.add (⟨b1, 0, none⟩) 1) fun s8p s8l s8c =>
  LdI .i64 w9 (Addr.add (⟨b1, 0, none⟩) 2) fun n9 =>
  LdS w9 (Addr.add (⟨b1, 0, none⟩) 3) fun s9p s9l s9c =>
  LdI .i64 w9 (Addr.add (⟨b1, 0, none⟩) 4) fun n10 =>
  R (.returned (.agg #[.int .i64 n8, .slice s8p s8l s8c, .int .i64 n9, .slice s9p s9l s9c, .int .i64 n10])) w9
def S_ref24_without_ann : Ann := .leaf
theorem S_ref24_without_eq (n0 : Int) (n1p : Option Addr) (n1l : Nat) (n1c : Nat) (n2 : Int) (n3p : Option Addr) (n3l : Nat) (n3c : Nat) (n4 : Int) (i0 : Int) (w : World) (R : Ending → World → Prop) : X Try.prog Try.f37.ntmps (bodyOf Try.f37) S_ref24_without_ann (argEnv 0 [.agg #[.int .i64 n0, .slice n1p n1l n1c, .int .i64 n2, .slice n3p n3l n3c, .int .i64 n4], .int .i64 i0]) w (fun e w' => resK Try.prog Try.f37.results.toList e w' [] fun vs => R (.returned (pack vs)) w') (fun e w' => resK Try.prog Try.f37.results.toList e w' [] fun vs => R (.returned (pack vs)) w') (fun _ _ _ => False) = S_ref24_without n0 n1p n1l n1c n2 n3p n3l n3c n4 i0 w R := by kernel_rfl
theorem S_ref24_without_ok (n0 : Int) (n1p : Option Addr) (n1l : Nat) (n1c : Nat) (n2 : Int) (n3p : Option Addr) (n3l : Nat) (n3c : Nat) (n4 : Int) (i0 : Int) (w : World) (R : Ending → World → Prop) (h : S_ref24_without n0 n1p n1l n1c n2 n3p n3l n3c n4 i0 w R) : Calls Try.prog 37 #[.agg #[.int .i64 n0, .slice n1p n1l n1c, .int .i64 n2, .slice n3p n3l n3c, .int .i64 n4], .int .i64 i0] w R :=
  calls_of_X (an := S_ref24_without_ann) wide_ok Try.func37 (by kernel_rfl) (by kernel_rfl) (by rw [S_ref24_without_eq]; exact h)

def S_net_Net_Waiting_l0 (R : Ending → World → Prop) (s2p : Option Addr) (s2l : Nat) (out0p : Option Addr) (out0l : Nat) (out0c : Nat) (n1 : Int) (w1 : World) (I0 : Option Addr → Nat → Nat → Int → World → Prop) (M0 : Option Addr → Nat → Nat → Int → World → Nat) : Prop :=
  cond (decide (n1 < (Nat.cast s2l : Int)))
  (IdxC s2p s2l n1 18 fun a2 =>
  Ld_net_Packet w1 a2 fun n2 n3 n4 n5 n6 n7 n8 n9 n10 n11 s3p s3l s3c s4p s4l s4c n12 n13 t0 n14 n15 s5p s5l s5c =>
  NewC (.cells #[.int .i64 0, .int .i64 0, .int .i64 0, .int .i64 0, .int .i64 0, .int .i64 0, .int .i64 0, .int .i64 0, .int .i64 0, .int .i64 0, .slice none 0 0, .slice none 0 0, .int .i64 0, .int .i64 0, .string (⟨#[]⟩), .int .i64 0, .int .i64 0, .slice none 0 0] 80 (0, 0)) w1 fun b0 w2 =>
  St_net_Packet w2 (⟨b0, 0, none⟩) n2 n3 n4 n5 n6 n7 n8 n9 n10 n11 s3p s3l s3c s4p s4l s4c n12 n13 t0 n14 n15 s5p s5l s5c fun w3 =>
  ∃ C0 : World → Prop, C0 (World.drew w3) ∧
  LdIQ .i64 C0 (⟨b0, 0, none⟩) fun n16 =>
  ∃ (n17 : Int), ∃ (n18 : Int), ∃ (n19 : Int), ∃ (n20 : Int), ∃ (n21 : Int), ∃ (n22 : Int), ∃ (n23 : Int), ∃ (n24 : Int), ∃ (n25 : Int), ∃ (s6p : Option Addr), ∃ (s6l : Nat), ∃ (s6c : Nat), ∃ (s7p : Option Addr), ∃ (s7l : Nat), ∃ (s7c : Nat), ∃ (n26 : Int), ∃ (n27 : Int), ∃ (t1 : ByteArray), ∃ (n28 : Int), ∃ (n29 : Int), ∃ (s8p : Option Addr), ∃ (s8l : Nat), ∃ (s8c : Nat), (∀ (w4 : World), C0 w4 →
  Ld_api_Msg w4 (Addr.add (⟨b0, 0, none⟩) 1) fun n30 n31 n32 n33 n34 n35 n36 n37 n38 s9p s9l s9c s10p s10l s10c n39 n40 t2 n41 n42 s11p s11l s11c =>
  Value.agg #[.int .i64 n30, .int .i64 n31, .int .i64 n32, .int .i64 n33, .int .i64 n34, .int .i64 n35, .int .i64 n36, .int .i64 n37, .int .i64 n38, .slice s9p s9l s9c, .slice s10p s10l s10c, .int .i64 n39, .int .i64 n40, .string t2, .int .i64 n41, .int .i64 n42, .slice s11p s11l s11c] = .agg #[.int .i64 n17, .int .i64 n18, .int .i64 n19, .int .i64 n20, .int .i64 n21, .int .i64 n22, .int .i64 n23, .int .i64 n24, .int .i64 n25, .slice s6p s6l s6c, .slice s7p s7l s7c, .int .i64 n26, .int .i64 n27, .string t1, .int .i64 n28, .int .i64 n29, .slice s8p s8l s8c]) ∧
  Calls Try.prog 39 #[.agg #[.int .i64 n17, .int .i64 n18, .int .i64 n19, .int .i64 n20, .int .i64 n21, .int .i64 n22, .int .i64 n23, .int .i64 n24, .int .i64 n25, .slice s6p s6l s6c, .slice s7p s7l s7c, .int .i64 n26, .int .i64 n27, .string t1, .int .i64 n28, .int .i64 n29, .slice s8p s8l s8c]] (World.drew w3) fun e0 w5 =>
  ∃ (r0 : Int), ∃ (r1 : Int), ∃ (r2 : Int), ∃ (r3 : Int), ∃ (r4 : Int), ∃ (r5 : Int), ∃ (r6 : Int), ∃ (r7 : Int), ∃ (r8 : Int), ∃ (r9p : Option Addr), ∃ (r9l : Nat), ∃ (r9c : Nat), ∃ (r10p : Option Addr), ∃ (r10l : Nat), ∃ (r10c : Nat), ∃ (r11 : Int), ∃ (r12 : Int), ∃ (r13 : ByteArray), ∃ (r14 : Int), ∃ (r15 : Int), ∃ (r16p : Option Addr), ∃ (r16l : Nat), ∃ (r16c : Nat), e0 = .returned (.agg #[.int .i64 r0, .int .i64 r1, .int .i64 r2, .int .i64 r3, .int .i64 r4, .int .i64 r5, .int .i64 r6, .int .i64 r7, .int .i64 r8, .slice r9p r9l r9c, .slice r10p r10l r10c, .int .i64 r11, .int .i64 r12, .string r13, .int .i64 r14, .int .i64 r15, .slice r16p r16l r16c]) ∧
  C0 w5 ∧
  NewC (.cells #[.int .i64 n16, .int .i64 r0, .int .i64 r1, .int .i64 r2, .int .i64 r3, .int .i64 r4, .int .i64 r5, .int .i64 r6, .int .i64 r7, .int .i64 r8, .slice r9p r9l r9c, .slice r10p r10l r10c, .int .i64 r11, .int .i64 r12, .string r13, .int .i64 r14, .int .i64 r15, .slice r16p r16l r16c] 80 (0, 0)) w5 fun b1 w6 =>
  C0 w6 ∧
  RunS Try.prog (Builtin.append_ #[73, 73] 73 #[.slice out0p out0l out0c, .slice (some (⟨b1, 0, none⟩)) 1 1]) w6 fun s12p s12l s12c w7 =>
  C0 w7 ∧
  I0 s12p s12l s12c (IntKind.wrap .i64 (n1 + 1)) w7 ∧ M0 s12p s12l s12c (IntKind.wrap .i64 (n1 + 1)) w7 < M0 out0p out0l out0c n1 w1)
  (R (.returned (.slice out0p out0l out0c)) w1)
def S_net_Net_Waiting (n0 : Option Addr) (w : World) (R : Ending → World → Prop) : Prop :=
  onSome n0 fun a0 =>
  LdS w (Addr.add a0 1) fun _ s0l _ =>
  RunS Try.prog (Instr.makeSlice 73 (.int .i64 0) (.int .i64 (Nat.cast s0l : Int))) w fun s1p s1l s1c w0 =>
  onSome n0 fun a1 =>
  LdS w0 (Addr.add a1 1) fun s2p s2l _ =>
  ∃ (I0 : Option Addr → Nat → Nat → Int → World → Prop) (M0 : Option Addr → Nat → Nat → Int → World → Nat), I0 s1p s1l s1c 0 w0 ∧
  ∀ (out0p : Option Addr) (out0l : Nat) (out0c : Nat) (n1 : Int) (w1 : World), I0 out0p out0l out0c n1 w1 →
  S_net_Net_Waiting_l0 R s2p s2l out0p out0l out0c n1 w1 I0 M0
def S_net_Net_Waiting_ann : Ann := (.seq .leaf (.seq .leaf (.seq (.seq .leaf (.block (.loop [15, 16] [(3, .slice), (17, (.int .i64))] (.seq .leaf (.seq .leaf (.seq (.block (.seq .leaf .anyl)) .leaf)))))) .leaf)))
theorem S_net_Net_Waiting_eq (n0 : Option Addr) (w : World) (R : Ending → World → Prop) : X Try.prog Try.f38.ntmps (bodyOf Try.f38) S_net_Net_Waiting_ann (argEnv 0 [.pointer n0]) w (fun e w' => resK Try.prog Try.f38.results.toList e w' [] fun vs => R (.returned (pack vs)) w') (fun e w' => resK Try.prog Try.f38.results.toList e w' [] fun vs => R (.returned (pack vs)) w') (fun _ _ _ => False) = S_net_Net_Waiting n0 w R := by kernel_rfl
theorem S_net_Net_Waiting_ok (n0 : Option Addr) (w : World) (R : Ending → World → Prop) (h : S_net_Net_Waiting n0 w R) : Calls Try.prog 38 #[.pointer n0] w R :=
  calls_of_X (an := S_net_Net_Waiting_ann) wide_ok Try.func38 (by kernel_rfl) (by kernel_rfl) (by rw [S_net_Net_Waiting_eq]; exact h)

def S_net_Copied_l0 (R : Ending → World → Prop) (b0 : Nat) (b1 : Nat) (s10p : Option Addr) (s10l : Nat) (docs0p : Option Addr) (docs0l : Nat) (docs0c : Nat) (n0 : Int) (w9 : World) (I0 : Option Addr → Nat → Nat → Int → World → Prop) (M0 : Option Addr → Nat → Nat → Int → World → Nat) : Prop :=
  cond (decide (n0 < (Nat.cast s10l : Int)))
  (IdxC s10p s10l n0 5 fun a0 =>
  LdI .i64 w9 a0 fun n1 =>
  LdI .i64 w9 (Addr.add a0 1) fun n2 =>
  LdStr w9 (Addr.add a0 2) fun t0 =>
  LdS w9 (Addr.add a0 3) fun s11p s11l s11c =>
  LdS w9 (Addr.add a0 4) fun s12p s12l s12c =>
  NewC (.cells #[.int .i64 0, .int .i64 0, .string (⟨#[]⟩), .slice none 0 0, .slice none 0 0] 102 (0, 0)) w9 fun b2 w10 =>
  StC w10 (⟨b2, 0, none⟩) (.int .i64 n1) fun w11 =>
  StC w11 (Addr.add (⟨b2, 0, none⟩) 1) (.int .i64 n2) fun w12 =>
  StC w12 (Addr.add (⟨b2, 0, none⟩) 2) (.string t0) fun w13 =>
  StC w13 (Addr.add (⟨b2, 0, none⟩) 3) (.slice s11p s11l s11c) fun w14 =>
  StC w14 (Addr.add (⟨b2, 0, none⟩) 4) (.slice s12p s12l s12c) fun w15 =>
  LdI .i64 w15 (⟨b2, 0, none⟩) fun n3 =>
  LdI .i64 w15 (Addr.add (⟨b2, 0, none⟩) 1) fun n4 =>
  LdStr w15 (Addr.add (⟨b2, 0, none⟩) 2) fun t1 =>
  LdS w15 (Addr.add (⟨b2, 0, none⟩) 3) fun s13p s13l s13c =>
  LdS w15 (Addr.add (⟨b2, 0, none⟩) 4) fun s14p s14l s14c =>
  Calls Try.prog 46 #[.agg #[.int .i64 n3, .int .i64 n4, .string t1, .slice s13p s13l s13c, .slice s14p s14l s14c]] w15 fun e0 w16 =>
  ∃ (r0 : Int), ∃ (r1 : Int), ∃ (r2 : ByteArray), ∃ (r3p : Option Addr), ∃ (r3l : Nat), ∃ (r3c : Nat), ∃ (r4p : Option Addr), ∃ (r4l : Nat), ∃ (r4c : Nat), e0 = .returned (.agg #[.int .i64 r0, .int .i64 r1, .string r2, .slice r3p r3l r3c, .slice r4p r4l r4c]) ∧
  NewC (.cells #[.int .i64 r0, .int .i64 r1, .string r2, .slice r3p r3l r3c, .slice r4p r4l r4c] 102 (0, 0)) w16 fun b3 w17 =>
  RunS Try.prog (Builtin.append_ #[33, 33] 33 #[.slice docs0p docs0l docs0c, .slice (some (⟨b3, 0, none⟩)) 1 1]) w17 fun s15p s15l s15c w18 =>
  I0 s15p s15l s15c (IntKind.wrap .i64 (n0 + 1)) w18 ∧ M0 s15p s15l s15c (IntKind.wrap .i64 (n0 + 1)) w18 < M0 docs0p docs0l docs0c n0 w9)
  (StC w9 (Addr.add (Addr.add (⟨b0, 0, none⟩) 14) 2) (.slice docs0p docs0l docs0c) fun w19 =>
  Ld_api_Msg w19 (⟨b0, 0, none⟩) fun n5 n6 n7 n8 n9 n10 n11 n12 n13 s16p s16l s16c s17p s17l s17c n14 n15 t2 n16 n17 s18p s18l s18c =>
  St_api_Msg w19 (⟨b1, 0, none⟩) n5 n6 n7 n8 n9 n10 n11 n12 n13 s16p s16l s16c s17p s17l s17c n14 n15 t2 n16 n17 s18p s18l s18c fun w20 =>
  Ld_api_Msg w20 (⟨b1, 0, none⟩) fun n18 n19 n20 n21 n22 n23 n24 n25 n26 s19p s19l s19c s20p s20l s20c n27 n28 t3 n29 n30 s21p s21l s21c =>
  R (.returned (.agg #[.int .i64 n18, .int .i64 n19, .int .i64 n20, .int .i64 n21, .int .i64 n22, .int .i64 n23, .int .i64 n24, .int .i64 n25, .int .i64 n26, .slice s19p s19l s19c, .slice s20p s20l s20c, .int .i64 n27, .int .i64 n28, .string t3, .int .i64 n29, .int .i64 n30, .slice s21p s21l s21c])) w20)
def S_net_Copied (m0 : Int) (m1 : Int) (m2 : Int) (m3 : Int) (m4 : Int) (m5 : Int) (m6 : Int) (m7 : Int) (m8 : Int) (m9p : Option Addr) (m9l : Nat) (m9c : Nat) (m10p : Option Addr) (m10l : Nat) (m10c : Nat) (m11 : Int) (m12 : Int) (m13 : ByteArray) (m14 : Int) (m15 : Int) (m16p : Option Addr) (m16l : Nat) (m16c : Nat) (w : World) (R : Ending → World → Prop) : Prop :=
  NewC (.cells #[.int .i64 m0, .int .i64 m1, .int .i64 m2, .int .i64 m3, .int .i64 m4, .int .i64 m5, .int .i64 m6, .int .i64 m7, .int .i64 m8, .slice m9p m9l m9c, .slice m10p m10l m10c, .int .i64 m11, .int .i64 m12, .string m13, .int .i64 m14, .int .i64 m15, .slice m16p m16l m16c] 37 (0, 0)) w fun b0 w0 =>
  NewC (.cells #[.int .i64 0, .int .i64 0, .int .i64 0, .int .i64 0, .int .i64 0, .int .i64 0, .int .i64 0, .int .i64 0, .int .i64 0, .slice none 0 0, .slice none 0 0, .int .i64 0, .int .i64 0, .string (⟨#[]⟩), .int .i64 0, .int .i64 0, .slice none 0 0] 37 (0, 0)) w0 fun b1 w1 =>
  ∃ C0 : World → Prop, C0 (World.drew w1) ∧
  LdSQ C0 (Addr.add (⟨b0, 0, none⟩) 9) fun _ s0l _ =>
  LdSQ C0 (Addr.add (⟨b0, 0, none⟩) 9) fun s1p s1l s1c =>
  RunS Try.prog (Instr.makeSlice 29 (.int .i64 0) (.int .i64 (Nat.cast s0l : Int))) (World.drew w1) fun s2p s2l s2c w2 =>
  C0 w2 ∧
  RunS Try.prog (Builtin.append_ #[29, 29] 29 #[.slice s2p s2l s2c, .slice s1p s1l s1c]) w2 fun s3p s3l s3c w3 =>
  C0 w3 ∧
  StC w3 (Addr.add (⟨b0, 0, none⟩) 9) (.slice s3p s3l s3c) fun w4 =>
  ∃ C1 : World → Prop, C1 (World.drew w4) ∧
  LdSQ C1 (Addr.add (⟨b0, 0, none⟩) 10) fun _ s4l _ =>
  LdSQ C1 (Addr.add (⟨b0, 0, none⟩) 10) fun s5p s5l s5c =>
  RunS Try.prog (Instr.makeSlice 30 (.int .i64 0) (.int .i64 (Nat.cast s4l : Int))) (World.drew w4) fun s6p s6l s6c w5 =>
  C1 w5 ∧
  RunS Try.prog (Builtin.append_ #[30, 30] 30 #[.slice s6p s6l s6c, .slice s5p s5l s5c]) w5 fun s7p s7l s7c w6 =>
  C1 w6 ∧
  StC w6 (Addr.add (⟨b0, 0, none⟩) 10) (.slice s7p s7l s7c) fun w7 =>
  LdS w7 (Addr.add (Addr.add (⟨b0, 0, none⟩) 14) 2) fun _ s8l _ =>
  RunS Try.prog (Instr.makeSlice 33 (.int .i64 0) (.int .i64 (Nat.cast s8l : Int))) w7 fun s9p s9l s9c w8 =>
  LdS w8 (Addr.add (Addr.add (⟨b0, 0, none⟩) 14) 2) fun s10p s10l _ =>
  ∃ (I0 : Option Addr → Nat → Nat → Int → World → Prop) (M0 : Option Addr → Nat → Nat → Int → World → Nat), I0 s9p s9l s9c 0 w8 ∧
  ∀ (docs0p : Option Addr) (docs0l : Nat) (docs0c : Nat) (n0 : Int) (w9 : World), I0 docs0p docs0l docs0c n0 w9 →
  S_net_Copied_l0 R b0 b1 s10p s10l docs0p docs0l docs0c n0 w9 I0 M0
def S_net_Copied_ann : Ann := (.seq .leaf (.seq .anyl (.seq .anyl (.seq .leaf (.seq (.seq .leaf (.block (.loop [1, 2, 29, 30] [(3, .slice), (31, (.int .i64))] .leaf))) .leaf)))))
theorem S_net_Copied_eq (m0 : Int) (m1 : Int) (m2 : Int) (m3 : Int) (m4 : Int) (m5 : Int) (m6 : Int) (m7 : Int) (m8 : Int) (m9p : Option Addr) (m9l : Nat) (m9c : Nat) (m10p : Option Addr) (m10l : Nat) (m10c : Nat) (m11 : Int) (m12 : Int) (m13 : ByteArray) (m14 : Int) (m15 : Int) (m16p : Option Addr) (m16l : Nat) (m16c : Nat) (w : World) (R : Ending → World → Prop) : X Try.prog Try.f39.ntmps (bodyOf Try.f39) S_net_Copied_ann (argEnv 0 [.agg #[.int .i64 m0, .int .i64 m1, .int .i64 m2, .int .i64 m3, .int .i64 m4, .int .i64 m5, .int .i64 m6, .int .i64 m7, .int .i64 m8, .slice m9p m9l m9c, .slice m10p m10l m10c, .int .i64 m11, .int .i64 m12, .string m13, .int .i64 m14, .int .i64 m15, .slice m16p m16l m16c]]) w (fun e w' => resK Try.prog Try.f39.results.toList e w' [] fun vs => R (.returned (pack vs)) w') (fun e w' => resK Try.prog Try.f39.results.toList e w' [] fun vs => R (.returned (pack vs)) w') (fun _ _ _ => False) = S_net_Copied m0 m1 m2 m3 m4 m5 m6 m7 m8 m9p m9l m9c m10p m10l m10c m11 m12 m13 m14 m15 m16p m16l m16c w R := by kernel_rfl
theorem S_net_Copied_ok (m0 : Int) (m1 : Int) (m2 : Int) (m3 : Int) (m4 : Int) (m5 : Int) (m6 : Int) (m7 : Int) (m8 : Int) (m9p : Option Addr) (m9l : Nat) (m9c : Nat) (m10p : Option Addr) (m10l : Nat) (m10c : Nat) (m11 : Int) (m12 : Int) (m13 : ByteArray) (m14 : Int) (m15 : Int) (m16p : Option Addr) (m16l : Nat) (m16c : Nat) (w : World) (R : Ending → World → Prop) (h : S_net_Copied m0 m1 m2 m3 m4 m5 m6 m7 m8 m9p m9l m9c m10p m10l m10c m11 m12 m13 m14 m15 m16p m16l m16c w R) : Calls Try.prog 39 #[.agg #[.int .i64 m0, .int .i64 m1, .int .i64 m2, .int .i64 m3, .int .i64 m4, .int .i64 m5, .int .i64 m6, .int .i64 m7, .int .i64 m8, .slice m9p m9l m9c, .slice m10p m10l m10c, .int .i64 m11, .int .i64 m12, .string m13, .int .i64 m14, .int .i64 m15, .slice m16p m16l m16c]] w R :=
  calls_of_X (an := S_net_Copied_ann) wide_ok Try.func39 (by kernel_rfl) (by kernel_rfl) (by rw [S_net_Copied_eq]; exact h)

def S_slices_BinarySearchFunc_net_Packet_net_Packet_int_j0 (i0 : Int) (j0 : Int) (w0 : World) (I0 : Int → Int → World → Prop) (M0 : Int → Int → World → Nat) (i1 : Int) (j1 : Int) (w2 : World) : Prop :=
  I0 i1 j1 w2 ∧ M0 i1 j1 w2 < M0 i0 j0 w0
def S_slices_BinarySearchFunc_net_Packet_net_Packet_int_l0 (x0p : Option Addr) (x0l : Nat) (target0 : Int) (R : Ending → World → Prop) (i0 : Int) (j0 : Int) (w0 : World) (I0 : Int → Int → World → Prop) (M0 : Int → Int → World → Nat) : Prop :=
  cond (decide (i0 < j0))
  (∀ k0 : Int → Int → World → Prop,
  (∀ (i1 : Int) (j1 : Int) (w2 : World), S_slices_BinarySearchFunc_net_Packet_net_Packet_int_j0 i0 j0 w0 I0 M0 i1 j1 w2 → k0 i1 j1 w2) →
  IdxC x0p x0l (IntKind.wrap .i64 (bShr .u64 (IntKind.wrap .u64 (IntKind.wrap .i64 (i0 + j0))) 1)) 18 fun a0 =>
  Ld_net_Packet w0 a0 fun n0 n1 n2 n3 n4 n5 n6 n7 n8 n9 s0p s0l s0c s1p s1l s1c n10 n11 t0 n12 n13 s2p s2l s2c =>
  Calls Try.prog 41 #[.agg #[.int .i64 n0, .int .i64 n1, .int .i64 n2, .int .i64 n3, .int .i64 n4, .int .i64 n5, .int .i64 n6, .int .i64 n7, .int .i64 n8, .int .i64 n9, .slice s0p s0l s0c, .slice s1p s1l s1c, .int .i64 n10, .int .i64 n11, .string t0, .int .i64 n12, .int .i64 n13, .slice s2p s2l s2c], .int .i64 target0] w0 fun e0 w1 =>
  ∃ (r0 : Int), e0 = .returned (.int .i64 r0) ∧
  cond (decide (r0 < 0))
  (k0 (IntKind.wrap .i64 ((IntKind.wrap .i64 (bShr .u64 (IntKind.wrap .u64 (IntKind.wrap .i64 (i0 + j0))) 1)) + 1)) j0 w1)
  (k0 i0 (IntKind.wrap .i64 (bShr .u64 (IntKind.wrap .u64 (IntKind.wrap .i64 (i0 + j0))) 1)) w1))
  (cond (decide (i0 < (Nat.cast x0l : Int)))
  (IdxC x0p x0l i0 18 fun a1 =>
  Ld_net_Packet w0 a1 fun n14 n15 n16 n17 n18 n19 n20 n21 n22 n23 s3p s3l s3c s4p s4l s4c n24 n25 t1 n26 n27 s5p s5l s5c =>
  Calls Try.prog 41 #[.agg #[.int .i64 n14, .int .i64 n15, .int .i64 n16, .int .i64 n17, .int .i64 n18, .int .i64 n19, .int .i64 n20, .int .i64 n21, .int .i64 n22, .int .i64 n23, .slice s3p s3l s3c, .slice s4p s4l s4c, .int .i64 n24, .int .i64 n25, .string t1, .int .i64 n26, .int .i64 n27, .slice s5p s5l s5c], .int .i64 target0] w0 fun e1 w3 =>
  ∃ (r1 : Int), e1 = .returned (.int .i64 r1) ∧
  R (.returned (.tuple #[.int .i64 i0, .bool (r1 == 0)])) w3)
  (R (.returned (.tuple #[.int .i64 i0, .bool false])) w0))
def S_slices_BinarySearchFunc_net_Packet_net_Packet_int (x0p : Option Addr) (x0l : Nat) (x0c : Nat) (target0 : Int) (w : World) (R : Ending → World → Prop) : Prop :=
  ∃ (I0 : Int → Int → World → Prop) (M0 : Int → Int → World → Nat), I0 0 (Nat.cast x0l : Int) w ∧
  ∀ (i0 : Int) (j0 : Int) (w0 : World), I0 i0 j0 w0 →
  S_slices_BinarySearchFunc_net_Packet_net_Packet_int_l0 x0p x0l target0 R i0 j0 w0 I0 M0
def S_slices_BinarySearchFunc_net_Packet_net_Packet_int_ann : Ann := (.seq .leaf (.seq .leaf (.seq .leaf (.seq (.block (.loop [0, 1, 2, 8] [(9, (.int .i64)), (10, (.int .i64))] (.seq .leaf (.jblock [0, 1, 2, 8] [(9, (.int .i64)), (10, (.int .i64))] .leaf .leaf)))) .leaf))))
theorem S_slices_BinarySearchFunc_net_Packet_net_Packet_int_eq (x0p : Option Addr) (x0l : Nat) (x0c : Nat) (target0 : Int) (w : World) (R : Ending → World → Prop) : X Try.prog Try.f40.ntmps (bodyOf Try.f40) S_slices_BinarySearchFunc_net_Packet_net_Packet_int_ann (argEnv 0 [.slice x0p x0l x0c, .int .i64 target0, .func (.func 41) #[] #[]]) w (fun e w' => resK Try.prog Try.f40.results.toList e w' [] fun vs => R (.returned (pack vs)) w') (fun e w' => resK Try.prog Try.f40.results.toList e w' [] fun vs => R (.returned (pack vs)) w') (fun _ _ _ => False) = S_slices_BinarySearchFunc_net_Packet_net_Packet_int x0p x0l x0c target0 w R := by kernel_rfl
theorem S_slices_BinarySearchFunc_net_Packet_net_Packet_int_ok (x0p : Option Addr) (x0l : Nat) (x0c : Nat) (target0 : Int) (w : World) (R : Ending → World → Prop) (h : S_slices_BinarySearchFunc_net_Packet_net_Packet_int x0p x0l x0c target0 w R) : Calls Try.prog 40 #[.slice x0p x0l x0c, .int .i64 target0, .func (.func 41) #[] #[]] w R :=
  calls_of_X (an := S_slices_BinarySearchFunc_net_Packet_net_Packet_int_ann) wide_ok Try.func40 (by kernel_rfl) (by kernel_rfl) (by rw [S_slices_BinarySearchFunc_net_Packet_net_Packet_int_eq]; exact h)

def S_net_Net_find_1 (p0 : Int) (p1 : Int) (p2 : Int) (p3 : Int) (p4 : Int) (p5 : Int) (p6 : Int) (p7 : Int) (p8 : Int) (p9 : Int) (p10p : Option Addr) (p10l : Nat) (p10c : Nat) (p11p : Option Addr) (p11l : Nat) (p11c : Nat) (p12 : Int) (p13 : Int) (p14 : ByteArray) (p15 : Int) (p16 : Int) (p17p : Option Addr) (p17l : Nat) (p17c : Nat) (id0 : Int) (w : World) (R : Ending → World → Prop) : Prop :=
  NewC (.cells #[.int .i64 p0, .int .i64 p1, .int .i64 p2, .int .i64 p3, .int .i64 p4, .int .i64 p5, .int .i64 p6, .int .i64 p7, .int .i64 p8, .int .i64 p9, .slice p10p p10l p10c, .slice p11p p11l p11c, .int .i64 p12, .int .i64 p13, .string p14, .int .i64 p15, .int .i64 p16, .slice p17p p17l p17c] 80 (0, 0)) w fun b0 w0 =>
  LdI .i64 w0 (⟨b0, 0, none⟩) fun n0 =>
  R (.returned (.int .i64 (IntKind.wrap .i64 (n0 - id0)))) w0
def S_net_Net_find_1_ann : Ann := .leaf
theorem S_net_Net_find_1_eq (p0 : Int) (p1 : Int) (p2 : Int) (p3 : Int) (p4 : Int) (p5 : Int) (p6 : Int) (p7 : Int) (p8 : Int) (p9 : Int) (p10p : Option Addr) (p10l : Nat) (p10c : Nat) (p11p : Option Addr) (p11l : Nat) (p11c : Nat) (p12 : Int) (p13 : Int) (p14 : ByteArray) (p15 : Int) (p16 : Int) (p17p : Option Addr) (p17l : Nat) (p17c : Nat) (id0 : Int) (w : World) (R : Ending → World → Prop) : X Try.prog Try.f41.ntmps (bodyOf Try.f41) S_net_Net_find_1_ann (argEnv 0 [.agg #[.int .i64 p0, .int .i64 p1, .int .i64 p2, .int .i64 p3, .int .i64 p4, .int .i64 p5, .int .i64 p6, .int .i64 p7, .int .i64 p8, .int .i64 p9, .slice p10p p10l p10c, .slice p11p p11l p11c, .int .i64 p12, .int .i64 p13, .string p14, .int .i64 p15, .int .i64 p16, .slice p17p p17l p17c], .int .i64 id0]) w (fun e w' => resK Try.prog Try.f41.results.toList e w' [] fun vs => R (.returned (pack vs)) w') (fun e w' => resK Try.prog Try.f41.results.toList e w' [] fun vs => R (.returned (pack vs)) w') (fun _ _ _ => False) = S_net_Net_find_1 p0 p1 p2 p3 p4 p5 p6 p7 p8 p9 p10p p10l p10c p11p p11l p11c p12 p13 p14 p15 p16 p17p p17l p17c id0 w R := by kernel_rfl
theorem S_net_Net_find_1_ok (p0 : Int) (p1 : Int) (p2 : Int) (p3 : Int) (p4 : Int) (p5 : Int) (p6 : Int) (p7 : Int) (p8 : Int) (p9 : Int) (p10p : Option Addr) (p10l : Nat) (p10c : Nat) (p11p : Option Addr) (p11l : Nat) (p11c : Nat) (p12 : Int) (p13 : Int) (p14 : ByteArray) (p15 : Int) (p16 : Int) (p17p : Option Addr) (p17l : Nat) (p17c : Nat) (id0 : Int) (w : World) (R : Ending → World → Prop) (h : S_net_Net_find_1 p0 p1 p2 p3 p4 p5 p6 p7 p8 p9 p10p p10l p10c p11p p11l p11c p12 p13 p14 p15 p16 p17p p17l p17c id0 w R) : Calls Try.prog 41 #[.agg #[.int .i64 p0, .int .i64 p1, .int .i64 p2, .int .i64 p3, .int .i64 p4, .int .i64 p5, .int .i64 p6, .int .i64 p7, .int .i64 p8, .int .i64 p9, .slice p10p p10l p10c, .slice p11p p11l p11c, .int .i64 p12, .int .i64 p13, .string p14, .int .i64 p15, .int .i64 p16, .slice p17p p17l p17c], .int .i64 id0] w R :=
  calls_of_X (an := S_net_Net_find_1_ann) wide_ok Try.func41 (by kernel_rfl) (by kernel_rfl) (by rw [S_net_Net_find_1_eq]; exact h)

def S_slices_Delete_net_Packet_net_Packet (s0p : Option Addr) (s0l : Nat) (s0c : Nat) (i0 : Int) (j0 : Int) (w : World) (R : Ending → World → Prop) : Prop :=
  SlC s0p s0c i0 j0 (Nat.cast s0l : Int) 18 fun _ _ _ =>
  cond (i0 == j0)
  (R (.returned (.slice s0p s0l s0c)) w)
  (SlC s0p s0c 0 i0 (Nat.cast s0c : Int) 18 fun s2p s2l s2c =>
  SlC s0p s0c j0 (Nat.cast s0l : Int) (Nat.cast s0c : Int) 18 fun s3p s3l s3c =>
  RunS Try.prog (Builtin.append_ #[73, 73] 73 #[.slice s2p s2l s2c, .slice s3p s3l s3c]) (World.drew w) fun s4p s4l s4c w0 =>
  SlC s4p s4c (Nat.cast s4l : Int) (Nat.cast s0l : Int) (Nat.cast s4c : Int) 18 fun s5p s5l s5c =>
  RunU Try.prog (Builtin.clear_ #[73] 0 #[.slice s5p s5l s5c]) w0 fun w1 =>
  R (.returned (.slice s4p s4l s4c)) w1)
def S_slices_Delete_net_Packet_net_Packet_ann : Ann := (.seq .leaf (.seq .leaf (.seq .leaf (.seq .leaf (.seq (.draw 6) .leaf)))))
theorem S_slices_Delete_net_Packet_net_Packet_eq (s0p : Option Addr) (s0l : Nat) (s0c : Nat) (i0 : Int) (j0 : Int) (w : World) (R : Ending → World → Prop) : X Try.prog Try.f42.ntmps (bodyOf Try.f42) S_slices_Delete_net_Packet_net_Packet_ann (argEnv 0 [.slice s0p s0l s0c, .int .i64 i0, .int .i64 j0]) w (fun e w' => resK Try.prog Try.f42.results.toList e w' [] fun vs => R (.returned (pack vs)) w') (fun e w' => resK Try.prog Try.f42.results.toList e w' [] fun vs => R (.returned (pack vs)) w') (fun _ _ _ => False) = S_slices_Delete_net_Packet_net_Packet s0p s0l s0c i0 j0 w R := by kernel_rfl
theorem S_slices_Delete_net_Packet_net_Packet_ok (s0p : Option Addr) (s0l : Nat) (s0c : Nat) (i0 : Int) (j0 : Int) (w : World) (R : Ending → World → Prop) (h : S_slices_Delete_net_Packet_net_Packet s0p s0l s0c i0 j0 w R) : Calls Try.prog 42 #[.slice s0p s0l s0c, .int .i64 i0, .int .i64 j0] w R :=
  calls_of_X (an := S_slices_Delete_net_Packet_net_Packet_ann) wide_ok Try.func42 (by kernel_rfl) (by kernel_rfl) (by rw [S_slices_Delete_net_Packet_net_Packet_eq]; exact h)

def S_ref24_Logs_l0 (a0p : Option Addr) (a0l : Nat) (b0p : Option Addr) (b0l : Nat) (R : Ending → World → Prop) (i0 : Int) (w0 : World) (I0 : Int → World → Prop) (M0 : Int → World → Nat) : Prop :=
  cond (decide (i0 < (Nat.cast a0l : Int)))
  (IdxC a0p a0l i0 3 fun a1 =>
  LdI .i64 (World.drew w0) a1 fun n0 =>
  IdxC b0p b0l i0 3 fun a2 =>
  LdI .i64 (World.drew w0) a2 fun n1 =>
  cond (n0 != n1)
  (R (.returned (.bool false)) (World.drew w0))
  (IdxC a0p a0l i0 3 fun a3 =>
  LdI .i64 (World.drew w0) (Addr.add a3 1) fun n2 =>
  IdxC b0p b0l i0 3 fun a4 =>
  LdI .i64 (World.drew w0) (Addr.add a4 1) fun n3 =>
  cond (n2 != n3)
  (R (.returned (.bool false)) (World.drew w0))
  (IdxC a0p a0l i0 3 fun a5 =>
  LdStr (World.drew w0) (Addr.add a5 2) fun t0 =>
  IdxC b0p b0l i0 3 fun a6 =>
  LdStr (World.drew w0) (Addr.add a6 2) fun t1 =>
  cond (!(t0.toList == t1.toList))
  (R (.returned (.bool false)) (World.drew w0))
  (I0 (IntKind.wrap .i64 (i0 + 1)) (World.drew w0) ∧ M0 (IntKind.wrap .i64 (i0 + 1)) (World.drew w0) < M0 i0 w0))))
  (R (.returned (.bool true)) w0)
def S_ref24_Logs (a0p : Option Addr) (a0l : Nat) (a0c : Nat) (b0p : Option Addr) (b0l : Nat) (b0c : Nat) (w : World) (R : Ending → World → Prop) : Prop :=
  cond ((Nat.cast a0l : Int) != (Nat.cast b0l : Int))
  (R (.returned (.bool false)) w)
  (∃ (I0 : Int → World → Prop) (M0 : Int → World → Nat), I0 0 w ∧
  ∀ (i0 : Int) (w0 : World), I0 i0 w0 →
  S_ref24_Logs_l0 a0p a0l b0p b0l R i0 w0 I0 M0)
def S_ref24_Logs_ann : Ann := (.seq .leaf (.seq .leaf (.seq (.seq .leaf (.block (.loop [0, 1] [(5, (.int .i64))] (.seq .leaf (.seq (.block (.seq (.draw 37) .leaf)) .leaf))))) .leaf)))
theorem S_ref24_Logs_eq (a0p : Option Addr) (a0l : Nat) (a0c : Nat) (b0p : Option Addr) (b0l : Nat) (b0c : Nat) (w : World) (R : Ending → World → Prop) : X Try.prog Try.f43.ntmps (bodyOf Try.f43) S_ref24_Logs_ann (argEnv 0 [.slice a0p a0l a0c, .slice b0p b0l b0c]) w (fun e w' => resK Try.prog Try.f43.results.toList e w' [] fun vs => R (.returned (pack vs)) w') (fun e w' => resK Try.prog Try.f43.results.toList e w' [] fun vs => R (.returned (pack vs)) w') (fun _ _ _ => False) = S_ref24_Logs a0p a0l a0c b0p b0l b0c w R := by kernel_rfl
theorem S_ref24_Logs_ok (a0p : Option Addr) (a0l : Nat) (a0c : Nat) (b0p : Option Addr) (b0l : Nat) (b0c : Nat) (w : World) (R : Ending → World → Prop) (h : S_ref24_Logs a0p a0l a0c b0p b0l b0c w R) : Calls Try.prog 43 #[.slice a0p a0l a0c, .slice b0p b0l b0c] w R :=
  calls_of_X (an := S_ref24_Logs_ann) wide_ok Try.func43 (by kernel_rfl) (by kernel_rfl) (by rw [S_ref24_Logs_eq]; exact h)

def S_ref2_Reply (a0 : Int) (a1 : Int) (a2p : Option Addr) (a2l : Nat) (a2c : Nat) (b0 : Int) (b1 : Int) (b2p : Option Addr) (b2l : Nat) (b2c : Nat) (w : World) (R : Ending → World → Prop) : Prop :=
  NewC (.cells #[.int .i64 a0, .int .i64 a1, .slice a2p a2l a2c] 35 (0, 0)) w fun b3 w0 =>
  NewC (.cells #[.int .i64 b0, .int .i64 b1, .slice b2p b2l b2c] 35 (0, 0)) w0 fun b4 w1 =>
  LdI .i64 w1 (⟨b3, 0, none⟩) fun n0 =>
  LdI .i64 w1 (⟨b4, 0, none⟩) fun n1 =>
  cond (n0 == n1)
  (LdI .i64 w1 (Addr.add (⟨b3, 0, none⟩) 1) fun n2 =>
  LdI .i64 w1 (Addr.add (⟨b4, 0, none⟩) 1) fun n3 =>
  cond (n2 == n3)
  (LdS w1 (Addr.add (⟨b3, 0, none⟩) 2) fun s0p s0l s0c =>
  LdS w1 (Addr.add (⟨b4, 0, none⟩) 2) fun s1p s1l s1c =>
  Calls Try.prog 47 #[.slice s0p s0l s0c, .slice s1p s1l s1c] w1 fun e0 w2 =>
  ∃ (r0 : Bool), e0 = .returned (.bool r0) ∧
  R (.returned (.bool r0)) w2)
  (R (.returned (.bool false)) w1))
  (R (.returned (.bool false)) w1)
def S_ref2_Reply_ann : Ann := .leaf
theorem S_ref2_Reply_eq (a0 : Int) (a1 : Int) (a2p : Option Addr) (a2l : Nat) (a2c : Nat) (b0 : Int) (b1 : Int) (b2p : Option Addr) (b2l : Nat) (b2c : Nat) (w : World) (R : Ending → World → Prop) : X Try.prog Try.f44.ntmps (bodyOf Try.f44) S_ref2_Reply_ann (argEnv 0 [.agg #[.int .i64 a0, .int .i64 a1, .slice a2p a2l a2c], .agg #[.int .i64 b0, .int .i64 b1, .slice b2p b2l b2c]]) w (fun e w' => resK Try.prog Try.f44.results.toList e w' [] fun vs => R (.returned (pack vs)) w') (fun e w' => resK Try.prog Try.f44.results.toList e w' [] fun vs => R (.returned (pack vs)) w') (fun _ _ _ => False) = S_ref2_Reply a0 a1 a2p a2l a2c b0 b1 b2p b2l b2c w R := by kernel_rfl
theorem S_ref2_Reply_ok (a0 : Int) (a1 : Int) (a2p : Option Addr) (a2l : Nat) (a2c : Nat) (b0 : Int) (b1 : Int) (b2p : Option Addr) (b2l : Nat) (b2c : Nat) (w : World) (R : Ending → World → Prop) (h : S_ref2_Reply a0 a1 a2p a2l a2c b0 b1 b2p b2l b2c w R) : Calls Try.prog 44 #[.agg #[.int .i64 a0, .int .i64 a1, .slice a2p a2l a2c], .agg #[.int .i64 b0, .int .i64 b1, .slice b2p b2l b2c]] w R :=
  calls_of_X (an := S_ref2_Reply_ann) wide_ok Try.func44 (by kernel_rfl) (by kernel_rfl) (by rw [S_ref2_Reply_eq]; exact h)

def S_ref2_walked_l0 (R : Ending → World → Prop) (b0 : Nat) (k0 : Int → World → Prop) (left1 : Int) (i0 : Int) (w1 : World) (I0 : Int → Int → World → Prop) (M0 : Int → Int → World → Nat) : Prop :=
  LdS w1 (Addr.add (⟨b0, 0, none⟩) 3) fun _ s0l _ =>
  cond (decide (i0 < (Nat.cast s0l : Int)))
  (cond (decide (left1 > 0))
  (LdS w1 (Addr.add (⟨b0, 0, none⟩) 3) fun s1p s1l _ =>
  IdxC s1p s1l i0 5 fun a0 =>
  LdI .i64 w1 a0 fun n0 =>
  LdI .i64 w1 (Addr.add a0 1) fun n1 =>
  LdStr w1 (Addr.add a0 2) fun t0 =>
  LdS w1 (Addr.add a0 3) fun s2p s2l s2c =>
  LdS w1 (Addr.add a0 4) fun s3p s3l s3c =>
  Calls Try.prog 45 #[.agg #[.int .i64 n0, .int .i64 n1, .string t0, .slice s2p s2l s2c, .slice s3p s3l s3c], .int .i64 left1] w1 fun e0 w2 =>
  ∃ (r0 : Int), ∃ (r1 : Bool), e0 = .returned (.tuple #[.int .i64 r0, .bool r1]) ∧
  cond (!r1)
  (R (.returned (.tuple #[.int .i64 0, .bool false])) w2)
  (I0 r0 (IntKind.wrap .i64 (i0 + 1)) w2 ∧ M0 r0 (IntKind.wrap .i64 (i0 + 1)) w2 < M0 left1 i0 w1))
  (k0 left1 w1))
  (k0 left1 w1)
def S_ref2_walked_l1 (R : Ending → World → Prop) (b0 : Nat) (k1 : Int → World → Prop) (left3 : Int) (i1 : Int) (w4 : World) (I1 : Int → Int → World → Prop) (M1 : Int → Int → World → Nat) : Prop :=
  LdS w4 (Addr.add (⟨b0, 0, none⟩) 4) fun _ s4l _ =>
  cond (decide (i1 < (Nat.cast s4l : Int)))
  (cond (decide (left3 > 0))
  (LdS w4 (Addr.add (⟨b0, 0, none⟩) 4) fun s5p s5l _ =>
  IdxC s5p s5l i1 6 fun a1 =>
  LdI .i64 w4 (Addr.add a1 1) fun n2 =>
  LdI .i64 w4 (Addr.add (Addr.add a1 1) 1) fun n3 =>
  LdStr w4 (Addr.add (Addr.add a1 1) 2) fun t1 =>
  LdS w4 (Addr.add (Addr.add a1 1) 3) fun s6p s6l s6c =>
  LdS w4 (Addr.add (Addr.add a1 1) 4) fun s7p s7l s7c =>
  Calls Try.prog 45 #[.agg #[.int .i64 n2, .int .i64 n3, .string t1, .slice s6p s6l s6c, .slice s7p s7l s7c], .int .i64 left3] w4 fun e1 w5 =>
  ∃ (r2 : Int), ∃ (r3 : Bool), e1 = .returned (.tuple #[.int .i64 r2, .bool r3]) ∧
  cond (!r3)
  (R (.returned (.tuple #[.int .i64 0, .bool false])) w5)
  (I1 r2 (IntKind.wrap .i64 (i1 + 1)) w5 ∧ M1 r2 (IntKind.wrap .i64 (i1 + 1)) w5 < M1 left3 i1 w4))
  (k1 left3 w4))
  (k1 left3 w4)
def S_ref2_walked_j0 (R : Ending → World → Prop) (left4 : Int) (w6 : World) : Prop :=
  R (.returned (.tuple #[.int .i64 left4, .bool (decide (left4 > 0))])) w6
def S_ref2_walked_j1 (R : Ending → World → Prop) (b0 : Nat) (left2 : Int) (w3 : World) : Prop :=
  ∀ k1 : Int → World → Prop,
  (∀ (left4 : Int) (w6 : World), S_ref2_walked_j0 R left4 w6 → k1 left4 w6) →
  ∃ (I1 : Int → Int → World → Prop) (M1 : Int → Int → World → Nat), I1 left2 0 w3 ∧
  ∀ (left3 : Int) (i1 : Int) (w4 : World), I1 left3 i1 w4 →
  S_ref2_walked_l1 R b0 k1 left3 i1 w4 I1 M1
def S_ref2_walked (v0 : Int) (v1 : Int) (v2 : ByteArray) (v3p : Option Addr) (v3l : Nat) (v3c : Nat) (v4p : Option Addr) (v4l : Nat) (v4c : Nat) (left0 : Int) (w : World) (R : Ending → World → Prop) : Prop :=
  NewC (.cells #[.int .i64 v0, .int .i64 v1, .string v2, .slice v3p v3l v3c, .slice v4p v4l v4c] 102 (0, 0)) w fun b0 w0 =>
  ∀ k0 : Int → World → Prop,
  (∀ (left2 : Int) (w3 : World), S_ref2_walked_j1 R b0 left2 w3 → k0 left2 w3) →
  ∃ (I0 : Int → Int → World → Prop) (M0 : Int → Int → World → Nat), I0 (IntKind.wrap .i64 (left0 - 1)) 0 w0 ∧
  ∀ (left1 : Int) (i0 : Int) (w1 : World), I0 left1 i0 w1 →
  S_ref2_walked_l0 R b0 k0 left1 i0 w1 I0 M0
def S_ref2_walked_ann : Ann := (.seq .leaf (.seq .leaf (.seq (.seq .leaf (.jblock [2] [(1, (.int .i64))] (.loop [2] [(1, (.int .i64)), (6, (.int .i64))] .leaf) .leaf)) (.seq (.seq .leaf (.jblock [] [(1, (.int .i64))] (.loop [2] [(1, (.int .i64)), (9, (.int .i64))] .leaf) .leaf)) .leaf))))
theorem S_ref2_walked_eq (v0 : Int) (v1 : Int) (v2 : ByteArray) (v3p : Option Addr) (v3l : Nat) (v3c : Nat) (v4p : Option Addr) (v4l : Nat) (v4c : Nat) (left0 : Int) (w : World) (R : Ending → World → Prop) : X Try.prog Try.f45.ntmps (bodyOf Try.f45) S_ref2_walked_ann (argEnv 0 [.agg #[.int .i64 v0, .int .i64 v1, .string v2, .slice v3p v3l v3c, .slice v4p v4l v4c], .int .i64 left0]) w (fun e w' => resK Try.prog Try.f45.results.toList e w' [] fun vs => R (.returned (pack vs)) w') (fun e w' => resK Try.prog Try.f45.results.toList e w' [] fun vs => R (.returned (pack vs)) w') (fun _ _ _ => False) = S_ref2_walked v0 v1 v2 v3p v3l v3c v4p v4l v4c left0 w R := by kernel_rfl
theorem S_ref2_walked_ok (v0 : Int) (v1 : Int) (v2 : ByteArray) (v3p : Option Addr) (v3l : Nat) (v3c : Nat) (v4p : Option Addr) (v4l : Nat) (v4c : Nat) (left0 : Int) (w : World) (R : Ending → World → Prop) (h : S_ref2_walked v0 v1 v2 v3p v3l v3c v4p v4l v4c left0 w R) : Calls Try.prog 45 #[.agg #[.int .i64 v0, .int .i64 v1, .string v2, .slice v3p v3l v3c, .slice v4p v4l v4c], .int .i64 left0] w R :=
  calls_of_X (an := S_ref2_walked_ann) wide_ok Try.func45 (by kernel_rfl) (by kernel_rfl) (by rw [S_ref2_walked_eq]; exact h)

def S_net_value_l0 (R : Ending → World → Prop) (b0 : Nat) (b1 : Nat) (l0p : Option Addr) (l0l : Nat) (l0c : Nat) (s10p : Option Addr) (s10l : Nat) (f0p : Option Addr) (f0l : Nat) (f0c : Nat) (n5 : Int) (w14 : World) (I1 : Option Addr → Nat → Nat → Int → World → Prop) (M1 : Option Addr → Nat → Nat → Int → World → Nat) : Prop :=
  cond (decide (n5 < (Nat.cast s10l : Int)))
  (IdxC s10p s10l n5 6 fun a1 =>
  LdStr w14 a1 fun t2 =>
  LdI .i64 w14 (Addr.add a1 1) fun n6 =>
  LdI .i64 w14 (Addr.add a1 2) fun n7 =>
  LdStr w14 (Addr.add a1 3) fun t3 =>
  LdS w14 (Addr.add a1 4) fun s11p s11l s11c =>
  LdS w14 (Addr.add a1 5) fun s12p s12l s12c =>
  NewC (.cells #[.string (⟨#[]⟩), .int .i64 0, .int .i64 0, .string (⟨#[]⟩), .slice none 0 0, .slice none 0 0] 107 (0, 0)) w14 fun b4 w15 =>
  StC w15 (⟨b4, 0, none⟩) (.string t2) fun w16 =>
  StC w16 (Addr.add (⟨b4, 0, none⟩) 1) (.int .i64 n6) fun w17 =>
  StC w17 (Addr.add (⟨b4, 0, none⟩) 2) (.int .i64 n7) fun w18 =>
  StC w18 (Addr.add (⟨b4, 0, none⟩) 3) (.string t3) fun w19 =>
  StC w19 (Addr.add (⟨b4, 0, none⟩) 4) (.slice s11p s11l s11c) fun w20 =>
  StC w20 (Addr.add (⟨b4, 0, none⟩) 5) (.slice s12p s12l s12c) fun w21 =>
  ∃ C0 : World → Prop, C0 (World.drew w21) ∧
  ∃ (t4 : ByteArray), (∀ (w22 : World), C0 w22 →
  LdStr w22 (⟨b4, 0, none⟩) fun t5 =>
  Value.string t5 = .string t4) ∧
  ∃ (n8 : Int), ∃ (n9 : Int), ∃ (t6 : ByteArray), ∃ (s13p : Option Addr), ∃ (s13l : Nat), ∃ (s13c : Nat), ∃ (s14p : Option Addr), ∃ (s14l : Nat), ∃ (s14c : Nat), (∀ (w23 : World), C0 w23 →
  LdI .i64 w23 (Addr.add (⟨b4, 0, none⟩) 1) fun n10 =>
  LdI .i64 w23 (Addr.add (Addr.add (⟨b4, 0, none⟩) 1) 1) fun n11 =>
  LdStr w23 (Addr.add (Addr.add (⟨b4, 0, none⟩) 1) 2) fun t7 =>
  LdS w23 (Addr.add (Addr.add (⟨b4, 0, none⟩) 1) 3) fun s15p s15l s15c =>
  LdS w23 (Addr.add (Addr.add (⟨b4, 0, none⟩) 1) 4) fun s16p s16l s16c =>
  Value.agg #[.int .i64 n10, .int .i64 n11, .string t7, .slice s15p s15l s15c, .slice s16p s16l s16c] = .agg #[.int .i64 n8, .int .i64 n9, .string t6, .slice s13p s13l s13c, .slice s14p s14l s14c]) ∧
  Calls Try.prog 46 #[.agg #[.int .i64 n8, .int .i64 n9, .string t6, .slice s13p s13l s13c, .slice s14p s14l s14c]] (World.drew w21) fun e1 w24 =>
  ∃ (r5 : Int), ∃ (r6 : Int), ∃ (r7 : ByteArray), ∃ (r8p : Option Addr), ∃ (r8l : Nat), ∃ (r8c : Nat), ∃ (r9p : Option Addr), ∃ (r9l : Nat), ∃ (r9c : Nat), e1 = .returned (.agg #[.int .i64 r5, .int .i64 r6, .string r7, .slice r8p r8l r8c, .slice r9p r9l r9c]) ∧
  C0 w24 ∧
  NewC (.cells #[.string t4, .int .i64 r5, .int .i64 r6, .string r7, .slice r8p r8l r8c, .slice r9p r9l r9c] 107 (0, 0)) w24 fun b5 w25 =>
  C0 w25 ∧
  RunS Try.prog (Builtin.append_ #[100, 100] 100 #[.slice f0p f0l f0c, .slice (some (⟨b5, 0, none⟩)) 1 1]) w25 fun s17p s17l s17c w26 =>
  C0 w26 ∧
  I1 s17p s17l s17c (IntKind.wrap .i64 (n5 + 1)) w26 ∧ M1 s17p s17l s17c (IntKind.wrap .i64 (n5 + 1)) w26 < M1 f0p f0l f0c n5 w14)
  (StC w14 (Addr.add (⟨b0, 0, none⟩) 3) (.slice l0p l0l l0c) fun w27 =>
  StC w27 (Addr.add (⟨b0, 0, none⟩) 4) (.slice f0p f0l f0c) fun w28 =>
  LdI .i64 w28 (⟨b0, 0, none⟩) fun n12 =>
  LdI .i64 w28 (Addr.add (⟨b0, 0, none⟩) 1) fun n13 =>
  LdStr w28 (Addr.add (⟨b0, 0, none⟩) 2) fun t8 =>
  LdS w28 (Addr.add (⟨b0, 0, none⟩) 3) fun s18p s18l s18c =>
  LdS w28 (Addr.add (⟨b0, 0, none⟩) 4) fun s19p s19l s19c =>
  StC w28 (⟨b1, 0, none⟩) (.int .i64 n12) fun w29 =>
  StC w29 (Addr.add (⟨b1, 0, none⟩) 1) (.int .i64 n13) fun w30 =>
  StC w30 (Addr.add (⟨b1, 0, none⟩) 2) (.string t8) fun w31 =>
  StC w31 (Addr.add (⟨b1, 0, none⟩) 3) (.slice s18p s18l s18c) fun w32 =>
  StC w32 (Addr.add (⟨b1, 0, none⟩) 4) (.slice s19p s19l s19c) fun w33 =>
  LdI .i64 w33 (⟨b1, 0, none⟩) fun n14 =>
  LdI .i64 w33 (Addr.add (⟨b1, 0, none⟩) 1) fun n15 =>
  LdStr w33 (Addr.add (⟨b1, 0, none⟩) 2) fun t9 =>
  LdS w33 (Addr.add (⟨b1, 0, none⟩) 3) fun s20p s20l s20c =>
  LdS w33 (Addr.add (⟨b1, 0, none⟩) 4) fun s21p s21l s21c =>
  R (.returned (.agg #[.int .i64 n14, .int .i64 n15, .string t9, .slice s20p s20l s20c, .slice s21p s21l s21c])) w33)
def S_net_value_l1 (R : Ending → World → Prop) (b0 : Nat) (b1 : Nat) (s2p : Option Addr) (s2l : Nat) (l0p : Option Addr) (l0l : Nat) (l0c : Nat) (n0 : Int) (w3 : World) (I0 : Option Addr → Nat → Nat → Int → World → Prop) (M0 : Option Addr → Nat → Nat → Int → World → Nat) : Prop :=
  cond (decide (n0 < (Nat.cast s2l : Int)))
  (IdxC s2p s2l n0 5 fun a0 =>
  LdI .i64 w3 a0 fun n1 =>
  LdI .i64 w3 (Addr.add a0 1) fun n2 =>
  LdStr w3 (Addr.add a0 2) fun t0 =>
  LdS w3 (Addr.add a0 3) fun s3p s3l s3c =>
  LdS w3 (Addr.add a0 4) fun s4p s4l s4c =>
  NewC (.cells #[.int .i64 0, .int .i64 0, .string (⟨#[]⟩), .slice none 0 0, .slice none 0 0] 102 (0, 0)) w3 fun b2 w4 =>
  StC w4 (⟨b2, 0, none⟩) (.int .i64 n1) fun w5 =>
  StC w5 (Addr.add (⟨b2, 0, none⟩) 1) (.int .i64 n2) fun w6 =>
  StC w6 (Addr.add (⟨b2, 0, none⟩) 2) (.string t0) fun w7 =>
  StC w7 (Addr.add (⟨b2, 0, none⟩) 3) (.slice s3p s3l s3c) fun w8 =>
  StC w8 (Addr.add (⟨b2, 0, none⟩) 4) (.slice s4p s4l s4c) fun w9 =>
  LdI .i64 w9 (⟨b2, 0, none⟩) fun n3 =>
  LdI .i64 w9 (Addr.add (⟨b2, 0, none⟩) 1) fun n4 =>
  LdStr w9 (Addr.add (⟨b2, 0, none⟩) 2) fun t1 =>
  LdS w9 (Addr.add (⟨b2, 0, none⟩) 3) fun s5p s5l s5c =>
  LdS w9 (Addr.add (⟨b2, 0, none⟩) 4) fun s6p s6l s6c =>
  Calls Try.prog 46 #[.agg #[.int .i64 n3, .int .i64 n4, .string t1, .slice s5p s5l s5c, .slice s6p s6l s6c]] w9 fun e0 w10 =>
  ∃ (r0 : Int), ∃ (r1 : Int), ∃ (r2 : ByteArray), ∃ (r3p : Option Addr), ∃ (r3l : Nat), ∃ (r3c : Nat), ∃ (r4p : Option Addr), ∃ (r4l : Nat), ∃ (r4c : Nat), e0 = .returned (.agg #[.int .i64 r0, .int .i64 r1, .string r2, .slice r3p r3l r3c, .slice r4p r4l r4c]) ∧
  NewC (.cells #[.int .i64 r0, .int .i64 r1, .string r2, .slice r3p r3l r3c, .slice r4p r4l r4c] 102 (0, 0)) w10 fun b3 w11 =>
  RunS Try.prog (Builtin.append_ #[33, 33] 33 #[.slice l0p l0l l0c, .slice (some (⟨b3, 0, none⟩)) 1 1]) w11 fun s7p s7l s7c w12 =>
  I0 s7p s7l s7c (IntKind.wrap .i64 (n0 + 1)) w12 ∧ M0 s7p s7l s7c (IntKind.wrap .i64 (n0 + 1)) w12 < M0 l0p l0l l0c n0 w3)
  (LdS w3 (Addr.add (⟨b0, 0, none⟩) 4) fun _ s8l _ =>
  RunS Try.prog (Instr.makeSlice 100 (.int .i64 0) (.int .i64 (Nat.cast s8l : Int))) w3 fun s9p s9l s9c w13 =>
  LdS w13 (Addr.add (⟨b0, 0, none⟩) 4) fun s10p s10l _ =>
  ∃ (I1 : Option Addr → Nat → Nat → Int → World → Prop) (M1 : Option Addr → Nat → Nat → Int → World → Nat), I1 s9p s9l s9c 0 w13 ∧
  ∀ (f0p : Option Addr) (f0l : Nat) (f0c : Nat) (n5 : Int) (w14 : World), I1 f0p f0l f0c n5 w14 →
  S_net_value_l0 R b0 b1 l0p l0l l0c s10p s10l f0p f0l f0c n5 w14 I1 M1)
def S_net_value (v0 : Int) (v1 : Int) (v2 : ByteArray) (v3p : Option Addr) (v3l : Nat) (v3c : Nat) (v4p : Option Addr) (v4l : Nat) (v4c : Nat) (w : World) (R : Ending → World → Prop) : Prop :=
  NewC (.cells #[.int .i64 v0, .int .i64 v1, .string v2, .slice v3p v3l v3c, .slice v4p v4l v4c] 102 (0, 0)) w fun b0 w0 =>
  NewC (.cells #[.int .i64 0, .int .i64 0, .string (⟨#[]⟩), .slice none 0 0, .slice none 0 0] 102 (0, 0)) w0 fun b1 w1 =>
  LdS w1 (Addr.add (⟨b0, 0, none⟩) 3) fun _ s0l _ =>
  RunS Try.prog (Instr.makeSlice 33 (.int .i64 0) (.int .i64 (Nat.cast s0l : Int))) w1 fun s1p s1l s1c w2 =>
  LdS w2 (Addr.add (⟨b0, 0, none⟩) 3) fun s2p s2l _ =>
  ∃ (I0 : Option Addr → Nat → Nat → Int → World → Prop) (M0 : Option Addr → Nat → Nat → Int → World → Nat), I0 s1p s1l s1c 0 w2 ∧
  ∀ (l0p : Option Addr) (l0l : Nat) (l0c : Nat) (n0 : Int) (w3 : World), I0 l0p l0l l0c n0 w3 →
  S_net_value_l1 R b0 b1 s2p s2l l0p l0l l0c n0 w3 I0 M0
def S_net_value_ann : Ann := (.seq .leaf (.seq .leaf (.seq (.seq .leaf (.block (.loop [1, 2, 14, 15] [(3, .slice), (16, (.int .i64))] .leaf))) (.seq .leaf (.seq (.seq .leaf (.block (.loop [1, 2, 3, 31, 32] [(6, .slice), (33, (.int .i64))] (.seq .leaf (.seq .leaf (.seq (.block (.seq .leaf .anyl)) .leaf)))))) .leaf)))))
theorem S_net_value_eq (v0 : Int) (v1 : Int) (v2 : ByteArray) (v3p : Option Addr) (v3l : Nat) (v3c : Nat) (v4p : Option Addr) (v4l : Nat) (v4c : Nat) (w : World) (R : Ending → World → Prop) : X Try.prog Try.f46.ntmps (bodyOf Try.f46) S_net_value_ann (argEnv 0 [.agg #[.int .i64 v0, .int .i64 v1, .string v2, .slice v3p v3l v3c, .slice v4p v4l v4c]]) w (fun e w' => resK Try.prog Try.f46.results.toList e w' [] fun vs => R (.returned (pack vs)) w') (fun e w' => resK Try.prog Try.f46.results.toList e w' [] fun vs => R (.returned (pack vs)) w') (fun _ _ _ => False) = S_net_value v0 v1 v2 v3p v3l v3c v4p v4l v4c w R := by kernel_rfl
theorem S_net_value_ok (v0 : Int) (v1 : Int) (v2 : ByteArray) (v3p : Option Addr) (v3l : Nat) (v3c : Nat) (v4p : Option Addr) (v4l : Nat) (v4c : Nat) (w : World) (R : Ending → World → Prop) (h : S_net_value v0 v1 v2 v3p v3l v3c v4p v4l v4c w R) : Calls Try.prog 46 #[.agg #[.int .i64 v0, .int .i64 v1, .string v2, .slice v3p v3l v3c, .slice v4p v4l v4c]] w R :=
  calls_of_X (an := S_net_value_ann) wide_ok Try.func46 (by kernel_rfl) (by kernel_rfl) (by rw [S_net_value_eq]; exact h)

def S_ref2_List (a0p : Option Addr) (a0l : Nat) (a0c : Nat) (b0p : Option Addr) (b0l : Nat) (b0c : Nat) (w : World) (R : Ending → World → Prop) : Prop :=
  Calls Try.prog 48 #[.agg #[.int .i64 0, .int .i64 0, .string (⟨#[]⟩), .slice a0p a0l a0c, .slice none 0 0], .agg #[.int .i64 0, .int .i64 0, .string (⟨#[]⟩), .slice b0p b0l b0c, .slice none 0 0]] w fun e0 w0 =>
  ∃ (r0 : Bool), e0 = .returned (.bool r0) ∧
  R (.returned (.bool r0)) w0
def S_ref2_List_ann : Ann := .leaf
theorem S_ref2_List_eq (a0p : Option Addr) (a0l : Nat) (a0c : Nat) (b0p : Option Addr) (b0l : Nat) (b0c : Nat) (w : World) (R : Ending → World → Prop) : X Try.prog Try.f47.ntmps (bodyOf Try.f47) S_ref2_List_ann (argEnv 0 [.slice a0p a0l a0c, .slice b0p b0l b0c]) w (fun e w' => resK Try.prog Try.f47.results.toList e w' [] fun vs => R (.returned (pack vs)) w') (fun e w' => resK Try.prog Try.f47.results.toList e w' [] fun vs => R (.returned (pack vs)) w') (fun _ _ _ => False) = S_ref2_List a0p a0l a0c b0p b0l b0c w R := by kernel_rfl
theorem S_ref2_List_ok (a0p : Option Addr) (a0l : Nat) (a0c : Nat) (b0p : Option Addr) (b0l : Nat) (b0c : Nat) (w : World) (R : Ending → World → Prop) (h : S_ref2_List a0p a0l a0c b0p b0l b0c w R) : Calls Try.prog 47 #[.slice a0p a0l a0c, .slice b0p b0l b0c] w R :=
  calls_of_X (an := S_ref2_List_ann) wide_ok Try.func47 (by kernel_rfl) (by kernel_rfl) (by rw [S_ref2_List_eq]; exact h)

def S_ref2_Same_l0 (R : Ending → World → Prop) (b5 : Nat) (b6 : Nat) (i1 : Int) (w4 : World) (I1 : Int → World → Prop) (M1 : Int → World → Nat) : Prop :=
  LdS w4 (Addr.add (⟨b5, 0, none⟩) 4) fun _ s11l _ =>
  cond (decide (i1 < (Nat.cast s11l : Int)))
  (LdS (World.drew w4) (Addr.add (⟨b5, 0, none⟩) 4) fun s12p s12l _ =>
  IdxC s12p s12l i1 6 fun a7 =>
  LdStr (World.drew w4) a7 fun t4 =>
  LdS (World.drew w4) (Addr.add (⟨b6, 0, none⟩) 4) fun s13p s13l _ =>
  IdxC s13p s13l i1 6 fun a8 =>
  LdStr (World.drew w4) a8 fun t5 =>
  cond (!(t4.toList == t5.toList))
  (R (.returned (.bool false)) (World.drew w4))
  (LdS (World.drew w4) (Addr.add (⟨b5, 0, none⟩) 4) fun s14p s14l _ =>
  IdxC s14p s14l i1 6 fun a9 =>
  LdI .i64 (World.drew w4) (Addr.add a9 1) fun n8 =>
  LdI .i64 (World.drew w4) (Addr.add (Addr.add a9 1) 1) fun n9 =>
  LdStr (World.drew w4) (Addr.add (Addr.add a9 1) 2) fun t6 =>
  LdS (World.drew w4) (Addr.add (Addr.add a9 1) 3) fun s15p s15l s15c =>
  LdS (World.drew w4) (Addr.add (Addr.add a9 1) 4) fun s16p s16l s16c =>
  LdS (World.drew w4) (Addr.add (⟨b6, 0, none⟩) 4) fun s17p s17l _ =>
  IdxC s17p s17l i1 6 fun a10 =>
  LdI .i64 (World.drew w4) (Addr.add a10 1) fun n10 =>
  LdI .i64 (World.drew w4) (Addr.add (Addr.add a10 1) 1) fun n11 =>
  LdStr (World.drew w4) (Addr.add (Addr.add a10 1) 2) fun t7 =>
  LdS (World.drew w4) (Addr.add (Addr.add a10 1) 3) fun s18p s18l s18c =>
  LdS (World.drew w4) (Addr.add (Addr.add a10 1) 4) fun s19p s19l s19c =>
  Calls Try.prog 48 #[.agg #[.int .i64 n8, .int .i64 n9, .string t6, .slice s15p s15l s15c, .slice s16p s16l s16c], .agg #[.int .i64 n10, .int .i64 n11, .string t7, .slice s18p s18l s18c, .slice s19p s19l s19c]] (World.drew w4) fun e1 w5 =>
  ∃ (r1 : Bool), e1 = .returned (.bool r1) ∧
  cond (!r1)
  (R (.returned (.bool false)) w5)
  (I1 (IntKind.wrap .i64 (i1 + 1)) w5 ∧ M1 (IntKind.wrap .i64 (i1 + 1)) w5 < M1 i1 w4)))
  (R (.returned (.bool true)) w4)
def S_ref2_Same_l1 (R : Ending → World → Prop) (b5 : Nat) (b6 : Nat) (i0 : Int) (w2 : World) (I0 : Int → World → Prop) (M0 : Int → World → Nat) : Prop :=
  LdS w2 (Addr.add (⟨b5, 0, none⟩) 3) fun _ s4l _ =>
  cond (decide (i0 < (Nat.cast s4l : Int)))
  (LdS (World.drew w2) (Addr.add (⟨b5, 0, none⟩) 3) fun s5p s5l _ =>
  IdxC s5p s5l i0 5 fun a5 =>
  LdI .i64 (World.drew w2) a5 fun n4 =>
  LdI .i64 (World.drew w2) (Addr.add a5 1) fun n5 =>
  LdStr (World.drew w2) (Addr.add a5 2) fun t2 =>
  LdS (World.drew w2) (Addr.add a5 3) fun s6p s6l s6c =>
  LdS (World.drew w2) (Addr.add a5 4) fun s7p s7l s7c =>
  LdS (World.drew w2) (Addr.add (⟨b6, 0, none⟩) 3) fun s8p s8l _ =>
  IdxC s8p s8l i0 5 fun a6 =>
  LdI .i64 (World.drew w2) a6 fun n6 =>
  LdI .i64 (World.drew w2) (Addr.add a6 1) fun n7 =>
  LdStr (World.drew w2) (Addr.add a6 2) fun t3 =>
  LdS (World.drew w2) (Addr.add a6 3) fun s9p s9l s9c =>
  LdS (World.drew w2) (Addr.add a6 4) fun s10p s10l s10c =>
  Calls Try.prog 48 #[.agg #[.int .i64 n4, .int .i64 n5, .string t2, .slice s6p s6l s6c, .slice s7p s7l s7c], .agg #[.int .i64 n6, .int .i64 n7, .string t3, .slice s9p s9l s9c, .slice s10p s10l s10c]] (World.drew w2) fun e0 w3 =>
  ∃ (r0 : Bool), e0 = .returned (.bool r0) ∧
  cond (!r0)
  (R (.returned (.bool false)) w3)
  (I0 (IntKind.wrap .i64 (i0 + 1)) w3 ∧ M0 (IntKind.wrap .i64 (i0 + 1)) w3 < M0 i0 w2))
  (∃ (I1 : Int → World → Prop) (M1 : Int → World → Nat), I1 0 w2 ∧
  ∀ (i1 : Int) (w4 : World), I1 i1 w4 →
  S_ref2_Same_l0 R b5 b6 i1 w4 I1 M1)
def S_ref2_Same (a0 : Int) (a1 : Int) (a2 : ByteArray) (a3p : Option Addr) (a3l : Nat) (a3c : Nat) (a4p : Option Addr) (a4l : Nat) (a4c : Nat) (b0 : Int) (b1 : Int) (b2 : ByteArray) (b3p : Option Addr) (b3l : Nat) (b3c : Nat) (b4p : Option Addr) (b4l : Nat) (b4c : Nat) (w : World) (R : Ending → World → Prop) : Prop :=
  NewC (.cells #[.int .i64 a0, .int .i64 a1, .string a2, .slice a3p a3l a3c, .slice a4p a4l a4c] 102 (0, 0)) w fun b5 w0 =>
  NewC (.cells #[.int .i64 b0, .int .i64 b1, .string b2, .slice b3p b3l b3c, .slice b4p b4l b4c] 102 (0, 0)) w0 fun b6 w1 =>
  LdI .i64 w1 (⟨b5, 0, none⟩) fun n0 =>
  LdI .i64 w1 (⟨b6, 0, none⟩) fun n1 =>
  cond (n0 != n1)
  (R (.returned (.bool false)) w1)
  (LdI .i64 w1 (Addr.add (⟨b5, 0, none⟩) 1) fun n2 =>
  LdI .i64 w1 (Addr.add (⟨b6, 0, none⟩) 1) fun n3 =>
  cond (n2 != n3)
  (R (.returned (.bool false)) w1)
  (LdStr w1 (Addr.add (⟨b5, 0, none⟩) 2) fun t0 =>
  LdStr w1 (Addr.add (⟨b6, 0, none⟩) 2) fun t1 =>
  cond (!(t0.toList == t1.toList))
  (R (.returned (.bool false)) w1)
  (LdS w1 (Addr.add (⟨b5, 0, none⟩) 3) fun _ s0l _ =>
  LdS w1 (Addr.add (⟨b6, 0, none⟩) 3) fun _ s1l _ =>
  cond ((Nat.cast s0l : Int) != (Nat.cast s1l : Int))
  (R (.returned (.bool false)) w1)
  (LdS w1 (Addr.add (⟨b5, 0, none⟩) 4) fun _ s2l _ =>
  LdS w1 (Addr.add (⟨b6, 0, none⟩) 4) fun _ s3l _ =>
  cond ((Nat.cast s2l : Int) != (Nat.cast s3l : Int))
  (R (.returned (.bool false)) w1)
  (∃ (I0 : Int → World → Prop) (M0 : Int → World → Nat), I0 0 w1 ∧
  ∀ (i0 : Int) (w2 : World), I0 i0 w2 →
  S_ref2_Same_l1 R b5 b6 i0 w2 I0 M0)))))
def S_ref2_Same_ann : Ann := (.seq .leaf (.seq .leaf (.seq (.seq .leaf (.block (.loop [2, 3] [(5, (.int .i64))] (.seq .leaf (.seq (.block (.seq (.draw 10) .leaf)) .leaf))))) (.seq (.seq .leaf (.block (.loop [2, 3] [(6, (.int .i64))] (.seq .leaf (.seq (.block (.seq (.draw 26) .leaf)) .leaf))))) .leaf))))
theorem S_ref2_Same_eq (a0 : Int) (a1 : Int) (a2 : ByteArray) (a3p : Option Addr) (a3l : Nat) (a3c : Nat) (a4p : Option Addr) (a4l : Nat) (a4c : Nat) (b0 : Int) (b1 : Int) (b2 : ByteArray) (b3p : Option Addr) (b3l : Nat) (b3c : Nat) (b4p : Option Addr) (b4l : Nat) (b4c : Nat) (w : World) (R : Ending → World → Prop) : X Try.prog Try.f48.ntmps (bodyOf Try.f48) S_ref2_Same_ann (argEnv 0 [.agg #[.int .i64 a0, .int .i64 a1, .string a2, .slice a3p a3l a3c, .slice a4p a4l a4c], .agg #[.int .i64 b0, .int .i64 b1, .string b2, .slice b3p b3l b3c, .slice b4p b4l b4c]]) w (fun e w' => resK Try.prog Try.f48.results.toList e w' [] fun vs => R (.returned (pack vs)) w') (fun e w' => resK Try.prog Try.f48.results.toList e w' [] fun vs => R (.returned (pack vs)) w') (fun _ _ _ => False) = S_ref2_Same a0 a1 a2 a3p a3l a3c a4p a4l a4c b0 b1 b2 b3p b3l b3c b4p b4l b4c w R := by kernel_rfl
theorem S_ref2_Same_ok (a0 : Int) (a1 : Int) (a2 : ByteArray) (a3p : Option Addr) (a3l : Nat) (a3c : Nat) (a4p : Option Addr) (a4l : Nat) (a4c : Nat) (b0 : Int) (b1 : Int) (b2 : ByteArray) (b3p : Option Addr) (b3l : Nat) (b3c : Nat) (b4p : Option Addr) (b4l : Nat) (b4c : Nat) (w : World) (R : Ending → World → Prop) (h : S_ref2_Same a0 a1 a2 a3p a3l a3c a4p a4l a4c b0 b1 b2 b3p b3l b3c b4p b4l b4c w R) : Calls Try.prog 48 #[.agg #[.int .i64 a0, .int .i64 a1, .string a2, .slice a3p a3l a3c, .slice a4p a4l a4c], .agg #[.int .i64 b0, .int .i64 b1, .string b2, .slice b3p b3l b3c, .slice b4p b4l b4c]] w R :=
  calls_of_X (an := S_ref2_Same_ann) wide_ok Try.func48 (by kernel_rfl) (by kernel_rfl) (by rw [S_ref2_Same_eq]; exact h)


end Go.Proofs.Ytjpaoggcphfjeaa
