/- The second reading of functions of this seat's program, written out by a program (gen.py). -/
import Derived.Test.YtakcnpmmkpfhnaaLw
import Derived.KernelRfl
namespace Go.Proofs.Ytakcnpmmkpfhnaa
open Go Go.Lw

theorem wide_ok : Try.prog.follows .mixedOrders = true := by kernel_rfl

def S_law8_HandleKnown (w : World) (R : Ending → World → Prop) : Prop :=
  Calls Try.prog 8 #[] w fun e0 w0 =>
  ∃ (r0 : Bool), e0 = .returned (.bool r0) ∧
  cond (!r0)
  (R (.returned (.bool false)) w0)
  (Calls Try.prog 9 #[.int .i64 2] w0 fun e1 w1 =>
  ∃ (r1 : Option Addr), e1 = .returned (.pointer r1) ∧
  Calls Try.prog 10 #[.pointer r1, .int .i64 7] w1 fun e2 w2 =>
  ∃ (r2 : Int), ∃ (r3 : Int), e2 = .returned (.tuple #[.int .u64 r2, .int .i64 r3]) ∧
  Calls Try.prog 10 #[.pointer r1, .int .i64 8] w2 fun e3 w3 =>
  ∃ (r4 : Int), ∃ (r5 : Int), e3 = .returned (.tuple #[.int .u64 r4, .int .i64 r5]) ∧
  Calls Try.prog 10 #[.pointer r1, .int .i64 9] w3 fun e4 w4 =>
  ∃ (r6 : Int), ∃ (r7 : Int), e4 = .returned (.tuple #[.int .u64 r6, .int .i64 r7]) ∧
  cond (r2 != 4294967297)
  (R (.returned (.bool false)) w4)
  (cond (r3 != 0)
  (R (.returned (.bool false)) w4)
  (cond (r4 != 4294967298)
  (R (.returned (.bool false)) w4)
  (cond (r5 != 0)
  (R (.returned (.bool false)) w4)
  (cond (r7 != 5)
  (R (.returned (.bool false)) w4)
  (Calls Try.prog 11 #[.pointer r1, .int .u64 r2] w4 fun e5 w5 =>
  ∃ (r8 : Int), e5 = .returned (.int .i64 r8) ∧
  cond (r8 != 0)
  (R (.returned (.bool false)) w5)
  (Calls Try.prog 12 #[.pointer r1, .int .u64 r2] w5 fun e6 w6 =>
  ∃ (r9 : Int), ∃ (r10 : Int), e6 = .returned (.tuple #[.int .i64 r9, .int .i64 r10]) ∧
  Calls Try.prog 10 #[.pointer r1, .int .i64 5] w6 fun e7 w7 =>
  ∃ (r11 : Int), ∃ (r12 : Int), e7 = .returned (.tuple #[.int .u64 r11, .int .i64 r12]) ∧
  cond (r10 == 6)
  (cond (r12 == 0)
  (cond (r11 == 8589934593)
  (Calls Try.prog 13 #[.pointer r1] w7 fun e8 w8 =>
  ∃ (r13 : Int), e8 = .returned (.int .i64 r13) ∧
  R (.returned (.bool (r13 == 2))) w8)
  (R (.returned (.bool false)) w7))
  (R (.returned (.bool false)) w7))
  (R (.returned (.bool false)) w7))))))))
def S_law8_HandleKnown_ann : Ann := .leaf
theorem S_law8_HandleKnown_eq (w : World) (R : Ending → World → Prop) : X Try.prog Try.f3.ntmps (bodyOf Try.f3) S_law8_HandleKnown_ann (argEnv 0 []) w (fun e w' => resK Try.prog Try.f3.results.toList e w' [] fun vs => R (.returned (pack vs)) w') (fun e w' => resK Try.prog Try.f3.results.toList e w' [] fun vs => R (.returned (pack vs)) w') (fun _ _ _ => False) = S_law8_HandleKnown w R := by kernel_rfl
theorem S_law8_HandleKnown_ok (w : World) (R : Ending → World → Prop) (h : S_law8_HandleKnown w R) : Calls Try.prog 3 #[] w R :=
  calls_of_X (an := S_law8_HandleKnown_ann) wide_ok Try.func3 (by kernel_rfl) (by kernel_rfl) (by rw [S_law8_HandleKnown_eq]; exact h)

def S_law8_HandleFull_l0 (R : Ending → World → Prop) (ever1p : Option Addr) (ever1l : Nat) (ever1c : Nat) (live0p : Option Addr) (live0l : Nat) (live0c : Nat) (i0 : Int) (w3 : World) (I1 : Option Addr → Nat → Nat → Option Addr → Nat → Nat → Int → World → Prop) (M1 : Option Addr → Nat → Nat → Option Addr → Nat → Nat → Int → World → Nat) (r2 : Int) (k0 : Int) (w5 : World) (I2 : Int → World → Prop) (M2 : Int → World → Nat) : Prop :=
  cond (decide (k0 < (Nat.cast ever1l : Int)))
  (IdxC ever1p ever1l k0 1 fun a0 =>
  LdI .u64 w5 a0 fun n0 =>
  cond (n0 == r2)
  (R (.returned (.bool false)) w5)
  (I2 (IntKind.wrap .i64 (k0 + 1)) w5 ∧ M2 (IntKind.wrap .i64 (k0 + 1)) w5 < M2 k0 w5))
  (NewC (.cells #[.int .u64 r2] 25 (0, 0)) w5 fun b0 w6 =>
  RunS Try.prog (Builtin.append_ #[34, 34] 34 #[.slice ever1p ever1l ever1c, .slice (some (⟨b0, 0, none⟩)) 1 1]) w6 fun s0p s0l s0c w7 =>
  NewC (.cells #[.int .u64 r2] 25 (0, 0)) w7 fun b1 w8 =>
  RunS Try.prog (Builtin.append_ #[34, 34] 34 #[.slice live0p live0l live0c, .slice (some (⟨b1, 0, none⟩)) 1 1]) w8 fun s1p s1l s1c w9 =>
  I1 s0p s0l s0c s1p s1l s1c (IntKind.wrap .i64 (i0 + 1)) w9 ∧ M1 s0p s0l s0c s1p s1l s1c (IntKind.wrap .i64 (i0 + 1)) w9 < M1 ever1p ever1l ever1c live0p live0l live0c i0 w3)
def S_law8_HandleFull_j0 (R : Ending → World → Prop) (r1 : Option Addr) (live1p : Option Addr) (live1l : Nat) (live1c : Nat) (i1 : Int) (w12 : World) (I3 : Option Addr → Nat → Nat → Int → World → Prop) (M3 : Option Addr → Nat → Nat → Int → World → Nat) (k2 : Int) (w13 : World) : Prop :=
  IdxC live1p live1l k2 1 fun a2 =>
  LdI .u64 w13 a2 fun n2 =>
  Calls Try.prog 11 #[.pointer r1, .int .u64 n2] w13 fun e5 w14 =>
  ∃ (r7 : Int), e5 = .returned (.int .i64 r7) ∧
  cond (r7 != 0)
  (R (.returned (.bool false)) w14)
  (IdxC live1p live1l k2 1 fun a3 =>
  LdI .u64 w14 a3 fun n3 =>
  Calls Try.prog 11 #[.pointer r1, .int .u64 n3] w14 fun e6 w15 =>
  ∃ (r8 : Int), e6 = .returned (.int .i64 r8) ∧
  cond (r8 != 6)
  (R (.returned (.bool false)) w15)
  (SlC live1p live1c 0 k2 k2 1 fun s2p s2l s2c =>
  SlC live1p live1c (IntKind.wrap .i64 (k2 + 1)) (Nat.cast live1l : Int) (Nat.cast live1c : Int) 1 fun s3p s3l s3c =>
  RunS Try.prog (Builtin.append_ #[34, 34] 34 #[.slice s2p s2l s2c, .slice s3p s3l s3c]) (World.drew w15) fun s4p s4l s4c w16 =>
  I3 s4p s4l s4c (IntKind.wrap .i64 (i1 + 1)) w16 ∧ M3 s4p s4l s4c (IntKind.wrap .i64 (i1 + 1)) w16 < M3 live1p live1l live1c i1 w12))
def S_law8_HandleFull_l1 (order0p : Option Addr) (order0l : Nat) (R : Ending → World → Prop) (r1 : Option Addr) (ever0p : Option Addr) (ever0l : Nat) (ever0c : Nat) (round0 : Int) (w2 : World) (I0 : Option Addr → Nat → Nat → Int → World → Prop) (M0 : Option Addr → Nat → Nat → Int → World → Nat) (ever1p : Option Addr) (ever1l : Nat) (ever1c : Nat) (live1p : Option Addr) (live1l : Nat) (live1c : Nat) (i1 : Int) (w12 : World) (I3 : Option Addr → Nat → Nat → Int → World → Prop) (M3 : Option Addr → Nat → Nat → Int → World → Nat) : Prop :=
  cond (decide ((Nat.cast live1l : Int) > 0))
  (∀ k1 : Int → World → Prop,
  (∀ (k2 : Int) (w13 : World), S_law8_HandleFull_j0 R r1 live1p live1l live1c i1 w12 I3 M3 k2 w13 → k1 k2 w13) →
  cond (decide ((Nat.cast order0l : Int) > 0))
  (DivC (Nat.cast order0l : Int)
  (IdxC order0p order0l (Int.tmod i1 (Nat.cast order0l : Int)) 1 fun a1 =>
  LdI .u8 w12 a1 fun n1 =>
  DivC (Nat.cast live1l : Int)
  (k1 (Int.tmod (IntKind.wrap .i64 n1) (Nat.cast live1l : Int)) w12)))
  (k1 0 w12))
  (Calls Try.prog 13 #[.pointer r1] w12 fun e7 w17 =>
  ∃ (r9 : Int), e7 = .returned (.int .i64 r9) ∧
  cond (r9 != 0)
  (R (.returned (.bool false)) w17)
  (Calls Try.prog 14 #[.pointer r1] w17 fun e8 w18 =>
  ∃ (r10p : Option Addr), ∃ (r10l : Nat), ∃ (r10c : Nat), e8 = .returned (.slice r10p r10l r10c) ∧
  cond ((Nat.cast r10l : Int) != 0)
  (R (.returned (.bool false)) w18)
  (I0 ever1p ever1l ever1c (IntKind.wrap .i64 (round0 + 1)) w18 ∧ M0 ever1p ever1l ever1c (IntKind.wrap .i64 (round0 + 1)) w18 < M0 ever0p ever0l ever0c round0 w2)))
def S_law8_HandleFull_l2 (slots0 : Int) (order0p : Option Addr) (order0l : Nat) (R : Ending → World → Prop) (r1 : Option Addr) (ever0p : Option Addr) (ever0l : Nat) (ever0c : Nat) (round0 : Int) (w2 : World) (I0 : Option Addr → Nat → Nat → Int → World → Prop) (M0 : Option Addr → Nat → Nat → Int → World → Nat) (ever1p : Option Addr) (ever1l : Nat) (ever1c : Nat) (live0p : Option Addr) (live0l : Nat) (live0c : Nat) (i0 : Int) (w3 : World) (I1 : Option Addr → Nat → Nat → Option Addr → Nat → Nat → Int → World → Prop) (M1 : Option Addr → Nat → Nat → Option Addr → Nat → Nat → Int → World → Nat) : Prop :=
  cond (decide (i0 < (IntKind.wrap .i64 (1 + (bAnd .i64 slots0 31)))))
  (Calls Try.prog 10 #[.pointer r1, .int .i64 i0] w3 fun e2 w4 =>
  ∃ (r2 : Int), ∃ (r3 : Int), e2 = .returned (.tuple #[.int .u64 r2, .int .i64 r3]) ∧
  cond (r3 != 0)
  (R (.returned (.bool false)) w4)
  (∃ (I2 : Int → World → Prop) (M2 : Int → World → Nat), I2 0 w4 ∧
  ∀ (k0 : Int) (w5 : World), I2 k0 w5 →
  S_law8_HandleFull_l0 R ever1p ever1l ever1c live0p live0l live0c i0 w3 I1 M1 r2 k0 w5 I2 M2))
  (Calls Try.prog 10 #[.pointer r1, .int .i64 0] w3 fun e3 w10 =>
  ∃ (r4 : Int), ∃ (r5 : Int), e3 = .returned (.tuple #[.int .u64 r4, .int .i64 r5]) ∧
  cond (r5 != 5)
  (R (.returned (.bool false)) w10)
  (Calls Try.prog 13 #[.pointer r1] w10 fun e4 w11 =>
  ∃ (r6 : Int), e4 = .returned (.int .i64 r6) ∧
  cond (r6 != (IntKind.wrap .i64 (1 + (bAnd .i64 slots0 31))))
  (R (.returned (.bool false)) w11)
  (∃ (I3 : Option Addr → Nat → Nat → Int → World → Prop) (M3 : Option Addr → Nat → Nat → Int → World → Nat), I3 live0p live0l live0c 0 w11 ∧
  ∀ (live1p : Option Addr) (live1l : Nat) (live1c : Nat) (i1 : Int) (w12 : World), I3 live1p live1l live1c i1 w12 →
  S_law8_HandleFull_l1 order0p order0l R r1 ever0p ever0l ever0c round0 w2 I0 M0 ever1p ever1l ever1c live1p live1l live1c i1 w12 I3 M3)))
def S_law8_HandleFull_l3 (slots0 : Int) (order0p : Option Addr) (order0l : Nat) (R : Ending → World → Prop) (r1 : Option Addr) (ever0p : Option Addr) (ever0l : Nat) (ever0c : Nat) (round0 : Int) (w2 : World) (I0 : Option Addr → Nat → Nat → Int → World → Prop) (M0 : Option Addr → Nat → Nat → Int → World → Nat) : Prop :=
  cond (decide (round0 < 3))
  (∃ (I1 : Option Addr → Nat → Nat → Option Addr → Nat → Nat → Int → World → Prop) (M1 : Option Addr → Nat → Nat → Option Addr → Nat → Nat → Int → World → Nat), I1 ever0p ever0l ever0c none 0 0 0 w2 ∧
  ∀ (ever1p : Option Addr) (ever1l : Nat) (ever1c : Nat) (live0p : Option Addr) (live0l : Nat) (live0c : Nat) (i0 : Int) (w3 : World), I1 ever1p ever1l ever1c live0p live0l live0c i0 w3 →
  S_law8_HandleFull_l2 slots0 order0p order0l R r1 ever0p ever0l ever0c round0 w2 I0 M0 ever1p ever1l ever1c live0p live0l live0c i0 w3 I1 M1)
  (R (.returned (.bool true)) w2)
def S_law8_HandleFull (slots0 : Int) (order0p : Option Addr) (order0l : Nat) (order0c : Nat) (w : World) (R : Ending → World → Prop) : Prop :=
  Calls Try.prog 8 #[] w fun e0 w0 =>
  ∃ (r0 : Bool), e0 = .returned (.bool r0) ∧
  cond (!r0)
  (R (.returned (.bool false)) w0)
  (Calls Try.prog 9 #[.int .i64 (IntKind.wrap .i64 (1 + (bAnd .i64 slots0 31)))] w0 fun e1 w1 =>
  ∃ (r1 : Option Addr), e1 = .returned (.pointer r1) ∧
  cond r1.isNone
  (R (.returned (.bool false)) w1)
  (∃ (I0 : Option Addr → Nat → Nat → Int → World → Prop) (M0 : Option Addr → Nat → Nat → Int → World → Nat), I0 none 0 0 0 w1 ∧
  ∀ (ever0p : Option Addr) (ever0l : Nat) (ever0c : Nat) (round0 : Int) (w2 : World), I0 ever0p ever0l ever0c round0 w2 →
  S_law8_HandleFull_l3 slots0 order0p order0l R r1 ever0p ever0l ever0c round0 w2 I0 M0))
def S_law8_HandleFull_ann : Ann := (.seq .leaf (.seq .leaf (.seq .leaf (.seq .leaf (.seq .leaf (.seq .leaf (.seq (.seq .leaf (.block (.loop [1, 5, 6] [(7, .slice), (8, (.int .i64))] (.seq .leaf (.seq (.block (.seq .leaf (.seq (.seq .leaf (.block (.loop [1, 5, 6, 8] [(7, .slice), (9, .slice), (10, (.int .i64))] (.seq .leaf (.seq (.block (.seq .leaf (.seq .leaf (.seq (.seq .leaf (.block (.loop [1, 5, 6, 7, 8, 9, 10, 11] [(13, (.int .i64))] .leaf))) .leaf)))) .leaf))))) (.seq .leaf (.seq .leaf (.seq (.seq .leaf (.block (.loop [1, 5, 6, 7, 8] [(9, .slice), (16, (.int .i64))] (.seq .leaf (.seq (.block (.seq .leaf (.join [1, 5, 6, 7, 8, 9, 16] [(17, (.int .i64))] .leaf (.seq .leaf (.draw 8))))) .leaf))))) .leaf)))))) .leaf))))) .leaf)))))))
theorem S_law8_HandleFull_eq (slots0 : Int) (order0p : Option Addr) (order0l : Nat) (order0c : Nat) (w : World) (R : Ending → World → Prop) : X Try.prog Try.f4.ntmps (bodyOf Try.f4) S_law8_HandleFull_ann (argEnv 0 [.int .i64 slots0, .slice order0p order0l order0c]) w (fun e w' => resK Try.prog Try.f4.results.toList e w' [] fun vs => R (.returned (pack vs)) w') (fun e w' => resK Try.prog Try.f4.results.toList e w' [] fun vs => R (.returned (pack vs)) w') (fun _ _ _ => False) = S_law8_HandleFull slots0 order0p order0l order0c w R := by kernel_rfl
theorem S_law8_HandleFull_ok (slots0 : Int) (order0p : Option Addr) (order0l : Nat) (order0c : Nat) (w : World) (R : Ending → World → Prop) (h : S_law8_HandleFull slots0 order0p order0l order0c w R) : Calls Try.prog 4 #[.int .i64 slots0, .slice order0p order0l order0c] w R :=
  calls_of_X (an := S_law8_HandleFull_ann) wide_ok Try.func4 (by kernel_rfl) (by kernel_rfl) (by rw [S_law8_HandleFull_eq]; exact h)

def S_law8_HandleStale_l0 (R : Ending → World → Prop) (live0p : Option Addr) (live0l : Nat) (live0c : Nat) (at0p : Option Addr) (at0l : Nat) (at0c : Nat) (gone0p : Option Addr) (gone0l : Nat) (gone0c : Nat) (i0 : Int) (k1 : Option Addr → Nat → Nat → Option Addr → Nat → Nat → Option Addr → Nat → Nat → World → Prop) (r2 : Int) (k3 : Int) (w10 : World) (I2 : Int → World → Prop) (M2 : Int → World → Nat) : Prop :=
  cond (decide (k3 < (Nat.cast gone0l : Int)))
  (IdxC gone0p gone0l k3 1 fun a2 =>
  LdI .u64 w10 a2 fun n6 =>
  cond (n6 == r2)
  (R (.returned (.bool false)) w10)
  (I2 (IntKind.wrap .i64 (k3 + 1)) w10 ∧ M2 (IntKind.wrap .i64 (k3 + 1)) w10 < M2 k3 w10))
  (NewC (.cells #[.int .u64 r2] 25 (0, 0)) w10 fun b1 w11 =>
  RunS Try.prog (Builtin.append_ #[34, 34] 34 #[.slice live0p live0l live0c, .slice (some (⟨b1, 0, none⟩)) 1 1]) w11 fun s0p s0l s0c w12 =>
  NewC (.cells #[.int .i64 i0] 3 (0, 0)) w12 fun b2 w13 =>
  RunS Try.prog (Builtin.append_ #[38, 38] 38 #[.slice at0p at0l at0c, .slice (some (⟨b2, 0, none⟩)) 1 1]) w13 fun s1p s1l s1c w14 =>
  k1 s0p s0l s0c s1p s1l s1c gone0p gone0l gone0c w14)
def S_law8_HandleStale_l1 (R : Ending → World → Prop) (live0p : Option Addr) (live0l : Nat) (live0c : Nat) (at0p : Option Addr) (at0l : Nat) (at0c : Nat) (gone0p : Option Addr) (gone0l : Nat) (gone0c : Nat) (i0 : Int) (k1 : Option Addr → Nat → Nat → Option Addr → Nat → Nat → Option Addr → Nat → Nat → World → Prop) (r2 : Int) (k2 : Int) (w9 : World) (I1 : Int → World → Prop) (M1 : Int → World → Nat) : Prop :=
  cond (decide (k2 < (Nat.cast live0l : Int)))
  (IdxC live0p live0l k2 1 fun a1 =>
  LdI .u64 w9 a1 fun n5 =>
  cond (n5 == r2)
  (R (.returned (.bool false)) w9)
  (I1 (IntKind.wrap .i64 (k2 + 1)) w9 ∧ M1 (IntKind.wrap .i64 (k2 + 1)) w9 < M1 k2 w9))
  (∃ (I2 : Int → World → Prop) (M2 : Int → World → Nat), I2 0 w9 ∧
  ∀ (k3 : Int) (w10 : World), I2 k3 w10 →
  S_law8_HandleStale_l0 R live0p live0l live0c at0p at0l at0c gone0p gone0l gone0c i0 k1 r2 k3 w10 I2 M2)
def S_law8_HandleStale_j0 (R : Ending → World → Prop) (r1 : Option Addr) (live0p : Option Addr) (live0l : Nat) (live0c : Nat) (at0p : Option Addr) (at0l : Nat) (at0c : Nat) (gone0p : Option Addr) (gone0l : Nat) (gone0c : Nat) (k1 : Option Addr → Nat → Nat → Option Addr → Nat → Nat → Option Addr → Nat → Nat → World → Prop) (k5 : Int) (w15 : World) : Prop :=
  IdxC live0p live0l k5 1 fun a3 =>
  LdI .u64 w15 a3 fun n8 =>
  Calls Try.prog 11 #[.pointer r1, .int .u64 n8] w15 fun e3 w16 =>
  ∃ (r4 : Int), e3 = .returned (.int .i64 r4) ∧
  cond (r4 != 0)
  (R (.returned (.bool false)) w16)
  (IdxC live0p live0l k5 1 fun a4 =>
  LdI .u64 w16 a4 fun n9 =>
  NewC (.cells #[.int .u64 n9] 25 (0, 0)) w16 fun b3 w17 =>
  RunS Try.prog (Builtin.append_ #[34, 34] 34 #[.slice gone0p gone0l gone0c, .slice (some (⟨b3, 0, none⟩)) 1 1]) w17 fun s2p s2l s2c w18 =>
  SlC live0p live0c 0 k5 k5 1 fun s3p s3l s3c =>
  SlC live0p live0c (IntKind.wrap .i64 (k5 + 1)) (Nat.cast live0l : Int) (Nat.cast live0c : Int) 1 fun s4p s4l s4c =>
  RunS Try.prog (Builtin.append_ #[34, 34] 34 #[.slice s3p s3l s3c, .slice s4p s4l s4c]) (World.drew w18) fun s5p s5l s5c w19 =>
  SlC at0p at0c 0 k5 k5 1 fun s6p s6l s6c =>
  SlC at0p at0c (IntKind.wrap .i64 (k5 + 1)) (Nat.cast at0l : Int) (Nat.cast at0c : Int) 1 fun s7p s7l s7c =>
  RunS Try.prog (Builtin.append_ #[38, 38] 38 #[.slice s6p s6l s6c, .slice s7p s7l s7c]) (World.drew w19) fun s8p s8l s8c w20 =>
  k1 s5p s5l s5c s8p s8l s8c s2p s2l s2c w20)
def S_law8_HandleStale_l2 (R : Ending → World → Prop) (r1 : Option Addr) (k0 : Option Addr → Nat → Nat → Option Addr → Nat → Nat → Option Addr → Nat → Nat → World → Prop) (live1p : Option Addr) (live1l : Nat) (live1c : Nat) (at1p : Option Addr) (at1l : Nat) (at1c : Nat) (gone1p : Option Addr) (gone1l : Nat) (gone1c : Nat) (k7 : Int) (w24 : World) (I4 : Int → World → Prop) (M4 : Int → World → Nat) : Prop :=
  cond (decide (k7 < (Nat.cast gone1l : Int)))
  (IdxC gone1p gone1l k7 1 fun a7 =>
  LdI .u64 w24 a7 fun n12 =>
  Calls Try.prog 12 #[.pointer r1, .int .u64 n12] w24 fun e5 w25 =>
  ∃ (r7 : Int), ∃ (r8 : Int), e5 = .returned (.tuple #[.int .i64 r7, .int .i64 r8]) ∧
  cond (r8 != 6)
  (R (.returned (.bool false)) w25)
  (IdxC gone1p gone1l k7 1 fun a8 =>
  LdI .u64 w25 a8 fun n13 =>
  Calls Try.prog 15 #[.pointer r1, .int .u64 n13, .int .i64 1] w25 fun e6 w26 =>
  ∃ (r9 : Int), e6 = .returned (.int .i64 r9) ∧
  cond (r9 != 6)
  (R (.returned (.bool false)) w26)
  (IdxC gone1p gone1l k7 1 fun a9 =>
  LdI .u64 w26 a9 fun n14 =>
  Calls Try.prog 11 #[.pointer r1, .int .u64 n14] w26 fun e7 w27 =>
  ∃ (r10 : Int), e7 = .returned (.int .i64 r10) ∧
  cond (r10 != 6)
  (R (.returned (.bool false)) w27)
  (I4 (IntKind.wrap .i64 (k7 + 1)) w27 ∧ M4 (IntKind.wrap .i64 (k7 + 1)) w27 < M4 k7 w24))))
  (k0 live1p live1l live1c at1p at1l at1c gone1p gone1l gone1c w24)
def S_law8_HandleStale_l3 (R : Ending → World → Prop) (r1 : Option Addr) (k0 : Option Addr → Nat → Nat → Option Addr → Nat → Nat → Option Addr → Nat → Nat → World → Prop) (live1p : Option Addr) (live1l : Nat) (live1c : Nat) (at1p : Option Addr) (at1l : Nat) (at1c : Nat) (gone1p : Option Addr) (gone1l : Nat) (gone1c : Nat) (k6 : Int) (w22 : World) (I3 : Int → World → Prop) (M3 : Int → World → Nat) : Prop :=
  cond (decide (k6 < (Nat.cast live1l : Int)))
  (IdxC live1p live1l k6 1 fun a5 =>
  LdI .u64 w22 a5 fun n10 =>
  Calls Try.prog 12 #[.pointer r1, .int .u64 n10] w22 fun e4 w23 =>
  ∃ (r5 : Int), ∃ (r6 : Int), e4 = .returned (.tuple #[.int .i64 r5, .int .i64 r6]) ∧
  cond (r6 != 0)
  (R (.returned (.bool false)) w23)
  (IdxC at1p at1l k6 1 fun a6 =>
  LdI .i64 w23 a6 fun n11 =>
  cond (r5 != n11)
  (R (.returned (.bool false)) w23)
  (I3 (IntKind.wrap .i64 (k6 + 1)) w23 ∧ M3 (IntKind.wrap .i64 (k6 + 1)) w23 < M3 k6 w22)))
  (∃ (I4 : Int → World → Prop) (M4 : Int → World → Nat), I4 0 w22 ∧
  ∀ (k7 : Int) (w24 : World), I4 k7 w24 →
  S_law8_HandleStale_l2 R r1 k0 live1p live1l live1c at1p at1l at1c gone1p gone1l gone1c k7 w24 I4 M4)
def S_law8_HandleStale_j1 (R : Ending → World → Prop) (r1 : Option Addr) (k0 : Option Addr → Nat → Nat → Option Addr → Nat → Nat → Option Addr → Nat → Nat → World → Prop) (live1p : Option Addr) (live1l : Nat) (live1c : Nat) (at1p : Option Addr) (at1l : Nat) (at1c : Nat) (gone1p : Option Addr) (gone1l : Nat) (gone1c : Nat) (w21 : World) : Prop :=
  ∃ (I3 : Int → World → Prop) (M3 : Int → World → Nat), I3 0 w21 ∧
  ∀ (k6 : Int) (w22 : World), I3 k6 w22 →
  S_law8_HandleStale_l3 R r1 k0 live1p live1l live1c at1p at1l at1c gone1p gone1l gone1c k6 w22 I3 M3
def S_law8_HandleStale_j2 (live0p : Option Addr) (live0l : Nat) (live0c : Nat) (at0p : Option Addr) (at0l : Nat) (at0c : Nat) (gone0p : Option Addr) (gone0l : Nat) (gone0c : Nat) (i0 : Int) (w2 : World) (I0 : Option Addr → Nat → Nat → Option Addr → Nat → Nat → Option Addr → Nat → Nat → Int → World → Prop) (M0 : Option Addr → Nat → Nat → Option Addr → Nat → Nat → Option Addr → Nat → Nat → Int → World → Nat) (live2p : Option Addr) (live2l : Nat) (live2c : Nat) (at2p : Option Addr) (at2l : Nat) (at2c : Nat) (gone2p : Option Addr) (gone2l : Nat) (gone2c : Nat) (w28 : World) : Prop :=
  I0 live2p live2l live2c at2p at2l at2c gone2p gone2l gone2c (IntKind.wrap .i64 (i0 + 1)) w28 ∧ M0 live2p live2l live2c at2p at2l at2c gone2p gone2l gone2c (IntKind.wrap .i64 (i0 + 1)) w28 < M0 live0p live0l live0c at0p at0l at0c gone0p gone0l gone0c i0 w2
def S_law8_HandleStale_l4 (l0p : Option Addr) (l0l : Nat) (slots0 : Int) (R : Ending → World → Prop) (r1 : Option Addr) (live0p : Option Addr) (live0l : Nat) (live0c : Nat) (at0p : Option Addr) (at0l : Nat) (at0c : Nat) (gone0p : Option Addr) (gone0l : Nat) (gone0c : Nat) (i0 : Int) (w2 : World) (I0 : Option Addr → Nat → Nat → Option Addr → Nat → Nat → Option Addr → Nat → Nat → Int → World → Prop) (M0 : Option Addr → Nat → Nat → Option Addr → Nat → Nat → Option Addr → Nat → Nat → Int → World → Nat) : Prop :=
  cond (decide (i0 < (Nat.cast l0l : Int)))
  (∀ k0 : Option Addr → Nat → Nat → Option Addr → Nat → Nat → Option Addr → Nat → Nat → World → Prop,
  (∀ (live2p : Option Addr) (live2l : Nat) (live2c : Nat) (at2p : Option Addr) (at2l : Nat) (at2c : Nat) (gone2p : Option Addr) (gone2l : Nat) (gone2c : Nat) (w28 : World), S_law8_HandleStale_j2 live0p live0l live0c at0p at0l at0c gone0p gone0l gone0c i0 w2 I0 M0 live2p live2l live2c at2p at2l at2c gone2p gone2l gone2c w28 → k0 live2p live2l live2c at2p at2l at2c gone2p gone2l gone2c w28) →
  IdxC l0p l0l i0 4 fun a0 =>
  LdI .i64 w2 a0 fun n0 =>
  LdI .i64 w2 (Addr.add a0 1) fun n1 =>
  LdI .i64 w2 (Addr.add a0 2) fun n2 =>
  LdI .u64 w2 (Addr.add a0 3) fun n3 =>
  NewC (.cells #[.int .i64 0, .int .i64 0, .int .i64 0, .int .u64 0] 40 (0, 0)) w2 fun b0 w3 =>
  StC w3 (⟨b0, 0, none⟩) (.int .i64 n0) fun w4 =>
  StC w4 (Addr.add (⟨b0, 0, none⟩) 1) (.int .i64 n1) fun w5 =>
  StC w5 (Addr.add (⟨b0, 0, none⟩) 2) (.int .i64 n2) fun w6 =>
  StC w6 (Addr.add (⟨b0, 0, none⟩) 3) (.int .u64 n3) fun w7 =>
  ∀ k1 : Option Addr → Nat → Nat → Option Addr → Nat → Nat → Option Addr → Nat → Nat → World → Prop,
  (∀ (live1p : Option Addr) (live1l : Nat) (live1c : Nat) (at1p : Option Addr) (at1l : Nat) (at1c : Nat) (gone1p : Option Addr) (gone1l : Nat) (gone1c : Nat) (w21 : World), S_law8_HandleStale_j1 R r1 k0 live1p live1l live1c at1p at1l at1c gone1p gone1l gone1c w21 → k1 live1p live1l live1c at1p at1l at1c gone1p gone1l gone1c w21) →
  LdI .i64 w7 (⟨b0, 0, none⟩) fun n4 =>
  cond (decide (n4 ≤ 3))
  (Calls Try.prog 10 #[.pointer r1, .int .i64 i0] w7 fun e2 w8 =>
  ∃ (r2 : Int), ∃ (r3 : Int), e2 = .returned (.tuple #[.int .u64 r2, .int .i64 r3]) ∧
  cond (decide ((Nat.cast live0l : Int) > (bAnd .i64 slots0 7)))
  (cond (r3 != 5)
  (R (.returned (.bool false)) w8)
  (cond (r2 != 0)
  (R (.returned (.bool false)) w8)
  (k0 live0p live0l live0c at0p at0l at0c gone0p gone0l gone0c w8)))
  (cond (r3 != 0)
  (R (.returned (.bool false)) w8)
  (cond (r2 == 0)
  (R (.returned (.bool false)) w8)
  (∃ (I1 : Int → World → Prop) (M1 : Int → World → Nat), I1 0 w8 ∧
  ∀ (k2 : Int) (w9 : World), I1 k2 w9 →
  S_law8_HandleStale_l1 R live0p live0l live0c at0p at0l at0c gone0p gone0l gone0c i0 k1 r2 k2 w9 I1 M1))))
  (cond (decide ((Nat.cast live0l : Int) > 0))
  (LdI .i64 w7 (Addr.add (⟨b0, 0, none⟩) 1) fun n7 =>
  DivC (Nat.cast live0l : Int)
  (∀ k4 : Int → World → Prop,
  (∀ (k5 : Int) (w15 : World), S_law8_HandleStale_j0 R r1 live0p live0l live0c at0p at0l at0c gone0p gone0l gone0c k1 k5 w15 → k4 k5 w15) →
  cond (decide ((Int.tmod n7 (Nat.cast live0l : Int)) < 0))
  (k4 (IntKind.wrap .i64 (0 - (Int.tmod n7 (Nat.cast live0l : Int)))) w7)
  (k4 (Int.tmod n7 (Nat.cast live0l : Int)) w7)))
  (k1 live0p live0l live0c at0p at0l at0c gone0p gone0l gone0c w7)))
  (R (.returned (.bool true)) w2)
def S_law8_HandleStale (l0p : Option Addr) (l0l : Nat) (l0c : Nat) (slots0 : Int) (w : World) (R : Ending → World → Prop) : Prop :=
  Calls Try.prog 8 #[] w fun e0 w0 =>
  ∃ (r0 : Bool), e0 = .returned (.bool r0) ∧
  cond (!r0)
  (R (.returned (.bool false)) w0)
  (Calls Try.prog 9 #[.int .i64 (IntKind.wrap .i64 (1 + (bAnd .i64 slots0 7)))] w0 fun e1 w1 =>
  ∃ (r1 : Option Addr), e1 = .returned (.pointer r1) ∧
  cond r1.isNone
  (R (.returned (.bool false)) w1)
  (∃ (I0 : Option Addr → Nat → Nat → Option Addr → Nat → Nat → Option Addr → Nat → Nat → Int → World → Prop) (M0 : Option Addr → Nat → Nat → Option Addr → Nat → Nat → Option Addr → Nat → Nat → Int → World → Nat), I0 none 0 0 none 0 0 none 0 0 0 w1 ∧
  ∀ (live0p : Option Addr) (live0l : Nat) (live0c : Nat) (at0p : Option Addr) (at0l : Nat) (at0c : Nat) (gone0p : Option Addr) (gone0l : Nat) (gone0c : Nat) (i0 : Int) (w2 : World), I0 live0p live0l live0c at0p at0l at0c gone0p gone0l gone0c i0 w2 →
  S_law8_HandleStale_l4 l0p l0l slots0 R r1 live0p live0l live0c at0p at0l at0c gone0p gone0l gone0c i0 w2 I0 M0))
def S_law8_HandleStale_ann : Ann := (.seq .leaf (.seq .leaf (.seq .leaf (.seq .leaf (.seq .leaf (.seq .leaf (.seq .leaf (.seq (.seq .leaf (.block (.loop [0, 1, 5] [(6, .slice), (7, .slice), (8, .slice), (9, (.int .i64))] (.seq .leaf (.seq (.jblock [0, 1, 5, 9] [(6, .slice), (7, .slice), (8, .slice)] (.seq .leaf (.join [0, 1, 5, 9] [(6, .slice), (7, .slice), (8, .slice)] (.seq .leaf (.cond (.seq .leaf (.seq .leaf (.seq .leaf (.seq (.seq .leaf (.block (.loop [0, 1, 5, 6, 7, 8, 9, 11] [(13, (.int .i64))] .leaf))) (.seq (.seq .leaf (.block (.loop [0, 1, 5, 6, 7, 8, 9, 11] [(14, (.int .i64))] .leaf))) .leaf))))) (.seq .leaf (.cond (.seq .leaf (.join [0, 1, 5, 6, 7, 8, 9] [(15, (.int .i64))] .leaf (.seq .leaf (.seq .leaf (.seq (.draw 8) (.draw 8)))))) .leaf)))) (.seq (.seq .leaf (.block (.loop [0, 1, 5, 6, 7, 8, 9] [(16, (.int .i64))] .leaf))) (.seq .leaf (.block (.loop [0, 1, 5, 6, 7, 8, 9] [(19, (.int .i64))] .leaf)))))) .leaf) .leaf))))) .leaf))))))))
theorem S_law8_HandleStale_eq (l0p : Option Addr) (l0l : Nat) (l0c : Nat) (slots0 : Int) (w : World) (R : Ending → World → Prop) : X Try.prog Try.f5.ntmps (bodyOf Try.f5) S_law8_HandleStale_ann (argEnv 0 [.slice l0p l0l l0c, .int .i64 slots0]) w (fun e w' => resK Try.prog Try.f5.results.toList e w' [] fun vs => R (.returned (pack vs)) w') (fun e w' => resK Try.prog Try.f5.results.toList e w' [] fun vs => R (.returned (pack vs)) w') (fun _ _ _ => False) = S_law8_HandleStale l0p l0l l0c slots0 w R := by kernel_rfl
theorem S_law8_HandleStale_ok (l0p : Option Addr) (l0l : Nat) (l0c : Nat) (slots0 : Int) (w : World) (R : Ending → World → Prop) (h : S_law8_HandleStale l0p l0l l0c slots0 w R) : Calls Try.prog 5 #[.slice l0p l0l l0c, .int .i64 slots0] w R :=
  calls_of_X (an := S_law8_HandleStale_ann) wide_ok Try.func5 (by kernel_rfl) (by kernel_rfl) (by rw [S_law8_HandleStale_eq]; exact h)

def S_law8_HandleMoves_l0 (n0 : Int) (R : Ending → World → Prop) (r1 : Option Addr) (s0p : Option Addr) (s0l : Nat) (l0p : Option Addr) (l0l : Nat) (l0c : Nat) (i2 : Int) (w12 : World) (I2 : Int → World → Prop) (M2 : Int → World → Nat) : Prop :=
  cond (decide (i2 < (IntKind.wrap .i64 (1 + (bAnd .i64 n0 31)))))
  (IdxC l0p l0l i2 1 fun a5 =>
  LdI .u64 w12 a5 fun n4 =>
  Calls Try.prog 12 #[.pointer r1, .int .u64 n4] w12 fun e5 w13 =>
  ∃ (r6 : Int), ∃ (r7 : Int), e5 = .returned (.tuple #[.int .i64 r6, .int .i64 r7]) ∧
  IdxC l0p l0l i2 1 fun a6 =>
  LdI .u64 w13 a6 fun n5 =>
  Calls Try.prog 16 #[.pointer r1, .int .u64 n5] w13 fun e6 w14 =>
  ∃ (r8 : Int), ∃ (r9 : Int), e6 = .returned (.tuple #[.int .i64 r8, .int .i64 r9]) ∧
  Calls Try.prog 17 #[.pointer r1, .int .i64 i2] w14 fun e7 w15 =>
  ∃ (r10 : Int), ∃ (r11 : Int), e7 = .returned (.tuple #[.int .u64 r10, .int .i64 r11]) ∧
  cond (r7 != 0)
  (R (.returned (.bool false)) w15)
  (IdxC s0p s0l i2 1 fun a7 =>
  LdI .i64 w15 a7 fun n6 =>
  cond (r6 != n6)
  (R (.returned (.bool false)) w15)
  (cond (r9 != 0)
  (R (.returned (.bool false)) w15)
  (cond (r8 != i2)
  (R (.returned (.bool false)) w15)
  (cond (r11 != 0)
  (R (.returned (.bool false)) w15)
  (IdxC l0p l0l i2 1 fun a8 =>
  LdI .u64 w15 a8 fun n7 =>
  cond (r10 != n7)
  (R (.returned (.bool false)) w15)
  (I2 (IntKind.wrap .i64 (i2 + 1)) w15 ∧ M2 (IntKind.wrap .i64 (i2 + 1)) w15 < M2 i2 w12)))))))
  (Calls Try.prog 14 #[.pointer r1] w12 fun e8 w16 =>
  ∃ (r12p : Option Addr), ∃ (r12l : Nat), ∃ (r12c : Nat), e8 = .returned (.slice r12p r12l r12c) ∧
  Calls Try.prog 18 #[.slice r12p r12l r12c, .slice l0p l0l l0c] w16 fun e9 w17 =>
  ∃ (r13 : Bool), e9 = .returned (.bool r13) ∧
  R (.returned (.bool r13)) w17)
def S_law8_HandleMoves_l1 (n0 : Int) (moves0p : Option Addr) (moves0l : Nat) (R : Ending → World → Prop) (r1 : Option Addr) (s0p : Option Addr) (s0l : Nat) (l0p : Option Addr) (l0l : Nat) (l0c : Nat) (i1 : Int) (w8 : World) (I1 : Int → World → Prop) (M1 : Int → World → Nat) : Prop :=
  cond (decide (i1 < (Nat.cast moves0l : Int)))
  (IdxC moves0p moves0l i1 1 fun a1 =>
  LdI .i64 w8 a1 fun n1 =>
  DivC (IntKind.wrap .i64 (1 + (bAnd .i64 n0 31)))
  (IdxC l0p l0l (Int.tmod (bAnd .i64 n1 65535) (IntKind.wrap .i64 (1 + (bAnd .i64 n0 31)))) 1 fun a2 =>
  LdI .u64 w8 a2 fun n2 =>
  Calls Try.prog 15 #[.pointer r1, .int .u64 n2, .int .i64 (bAnd .i64 n1 65535)] w8 fun e3 w9 =>
  ∃ (r4 : Int), e3 = .returned (.int .i64 r4) ∧
  cond (r4 != 0)
  (R (.returned (.bool false)) w9)
  (DivC (IntKind.wrap .i64 (1 + (bAnd .i64 n0 31)))
  (IdxC l0p l0l (Int.tmod (bAnd .i64 n1 65535) (IntKind.wrap .i64 (1 + (bAnd .i64 n0 31)))) 1 fun a3 =>
  LdI .u64 w9 a3 fun n3 =>
  Calls Try.prog 15 #[.pointer r1, .int .u64 n3, .int .i64 (-1)] w9 fun e4 w10 =>
  ∃ (r5 : Int), e4 = .returned (.int .i64 r5) ∧
  cond (r5 != 1)
  (R (.returned (.bool false)) w10)
  (DivC (IntKind.wrap .i64 (1 + (bAnd .i64 n0 31)))
  (IdxC s0p s0l (Int.tmod (bAnd .i64 n1 65535) (IntKind.wrap .i64 (1 + (bAnd .i64 n0 31)))) 1 fun a4 =>
  StC w10 a4 (.int .i64 (bAnd .i64 n1 65535)) fun w11 =>
  I1 (IntKind.wrap .i64 (i1 + 1)) w11 ∧ M1 (IntKind.wrap .i64 (i1 + 1)) w11 < M1 i1 w8))))))
  (∃ (I2 : Int → World → Prop) (M2 : Int → World → Nat), I2 0 w8 ∧
  ∀ (i2 : Int) (w12 : World), I2 i2 w12 →
  S_law8_HandleMoves_l0 n0 R r1 s0p s0l l0p l0l l0c i2 w12 I2 M2)
def S_law8_HandleMoves_l2 (n0 : Int) (moves0p : Option Addr) (moves0l : Nat) (R : Ending → World → Prop) (r1 : Option Addr) (s0p : Option Addr) (s0l : Nat) (l0p : Option Addr) (l0l : Nat) (l0c : Nat) (i0 : Int) (w3 : World) (I0 : Option Addr → Nat → Nat → Int → World → Prop) (M0 : Option Addr → Nat → Nat → Int → World → Nat) : Prop :=
  cond (decide (i0 < (IntKind.wrap .i64 (1 + (bAnd .i64 n0 31)))))
  (Calls Try.prog 10 #[.pointer r1, .int .i64 (IntKind.wrap .i64 (i0 * 10))] w3 fun e2 w4 =>
  ∃ (r2 : Int), ∃ (r3 : Int), e2 = .returned (.tuple #[.int .u64 r2, .int .i64 r3]) ∧
  cond (r3 != 0)
  (R (.returned (.bool false)) w4)
  (NewC (.cells #[.int .u64 r2] 25 (0, 0)) w4 fun b0 w5 =>
  RunS Try.prog (Builtin.append_ #[34, 34] 34 #[.slice l0p l0l l0c, .slice (some (⟨b0, 0, none⟩)) 1 1]) w5 fun s1p s1l s1c w6 =>
  IdxC s0p s0l i0 1 fun a0 =>
  StC w6 a0 (.int .i64 (IntKind.wrap .i64 (i0 * 10))) fun w7 =>
  I0 s1p s1l s1c (IntKind.wrap .i64 (i0 + 1)) w7 ∧ M0 s1p s1l s1c (IntKind.wrap .i64 (i0 + 1)) w7 < M0 l0p l0l l0c i0 w3))
  (∃ (I1 : Int → World → Prop) (M1 : Int → World → Nat), I1 0 w3 ∧
  ∀ (i1 : Int) (w8 : World), I1 i1 w8 →
  S_law8_HandleMoves_l1 n0 moves0p moves0l R r1 s0p s0l l0p l0l l0c i1 w8 I1 M1)
def S_law8_HandleMoves (n0 : Int) (moves0p : Option Addr) (moves0l : Nat) (moves0c : Nat) (w : World) (R : Ending → World → Prop) : Prop :=
  Calls Try.prog 8 #[] w fun e0 w0 =>
  ∃ (r0 : Bool), e0 = .returned (.bool r0) ∧
  cond (!r0)
  (R (.returned (.bool false)) w0)
  (Calls Try.prog 9 #[.int .i64 (IntKind.wrap .i64 (1 + (bAnd .i64 n0 31)))] w0 fun e1 w1 =>
  ∃ (r1 : Option Addr), e1 = .returned (.pointer r1) ∧
  cond r1.isNone
  (R (.returned (.bool false)) w1)
  (RunS Try.prog (Instr.makeSlice 38 (.int .i64 (IntKind.wrap .i64 (1 + (bAnd .i64 n0 31)))) (.int .i64 (IntKind.wrap .i64 (1 + (bAnd .i64 n0 31))))) w1 fun s0p s0l _ w2 =>
  ∃ (I0 : Option Addr → Nat → Nat → Int → World → Prop) (M0 : Option Addr → Nat → Nat → Int → World → Nat), I0 none 0 0 0 w2 ∧
  ∀ (l0p : Option Addr) (l0l : Nat) (l0c : Nat) (i0 : Int) (w3 : World), I0 l0p l0l l0c i0 w3 →
  S_law8_HandleMoves_l2 n0 moves0p moves0l R r1 s0p s0l l0p l0l l0c i0 w3 I0 M0))
def S_law8_HandleMoves_ann : Ann := (.seq .leaf (.seq .leaf (.seq .leaf (.seq .leaf (.seq .leaf (.seq .leaf (.seq .leaf (.seq (.seq .leaf (.block (.loop [1, 5, 6, 8] [(7, .slice), (9, (.int .i64))] .leaf))) (.seq (.seq .leaf (.block (.loop [1, 5, 6, 7, 8] [(12, (.int .i64))] .leaf))) (.seq (.seq .leaf (.block (.loop [5, 6, 7, 8] [(14, (.int .i64))] .leaf))) .leaf))))))))))
theorem S_law8_HandleMoves_eq (n0 : Int) (moves0p : Option Addr) (moves0l : Nat) (moves0c : Nat) (w : World) (R : Ending → World → Prop) : X Try.prog Try.f6.ntmps (bodyOf Try.f6) S_law8_HandleMoves_ann (argEnv 0 [.int .i64 n0, .slice moves0p moves0l moves0c]) w (fun e w' => resK Try.prog Try.f6.results.toList e w' [] fun vs => R (.returned (pack vs)) w') (fun e w' => resK Try.prog Try.f6.results.toList e w' [] fun vs => R (.returned (pack vs)) w') (fun _ _ _ => False) = S_law8_HandleMoves n0 moves0p moves0l moves0c w R := by kernel_rfl
theorem S_law8_HandleMoves_ok (n0 : Int) (moves0p : Option Addr) (moves0l : Nat) (moves0c : Nat) (w : World) (R : Ending → World → Prop) (h : S_law8_HandleMoves n0 moves0p moves0l moves0c w R) : Calls Try.prog 6 #[.int .i64 n0, .slice moves0p moves0l moves0c] w R :=
  calls_of_X (an := S_law8_HandleMoves_ann) wide_ok Try.func6 (by kernel_rfl) (by kernel_rfl) (by rw [S_law8_HandleMoves_eq]; exact h)

def S_law8_HandlePlays_j0 (slots0 : Int) (R : Ending → World → Prop) (r0 : Option Addr) (b0 : Nat) (told0p : Option Addr) (told0l : Nat) (told0c : Nat) (i0 : Int) (w6 : World) (I0 : Option Addr → Nat → Nat → Int → World → Prop) (M0 : Option Addr → Nat → Nat → Int → World → Nat) (told1p : Option Addr) (told1l : Nat) (told1c : Nat) (w47 : World) : Prop :=
  LdI .i64 w47 (⟨b0, 0, none⟩) fun n27 =>
  LdS w47 (Addr.add (⟨b0, 0, none⟩) 1) fun s17p s17l s17c =>
  LdS w47 (Addr.add (⟨b0, 0, none⟩) 2) fun s18p s18l s18c =>
  Calls Try.prog 25 #[.agg #[.int .i64 n27, .slice s17p s17l s17c, .slice s18p s18l s18c]] w47 fun e13 w48 =>
  ∃ (r30p : Option Addr), ∃ (r30l : Nat), ∃ (r30c : Nat), e13 = .returned (.slice r30p r30l r30c) ∧
  Calls Try.prog 26 #[.pointer r0] w48 fun e14 w49 =>
  ∃ (r31 : Int), e14 = .returned (.int .i64 r31) ∧
  cond (r31 != slots0)
  (R (.returned (.bool false)) w49)
  (Calls Try.prog 13 #[.pointer r0] w49 fun e15 w50 =>
  ∃ (r32 : Int), e15 = .returned (.int .i64 r32) ∧
  cond (r32 != (Nat.cast r30l : Int))
  (R (.returned (.bool false)) w50)
  (Calls Try.prog 14 #[.pointer r0] w50 fun e16 w51 =>
  ∃ (r33p : Option Addr), ∃ (r33l : Nat), ∃ (r33c : Nat), e16 = .returned (.slice r33p r33l r33c) ∧
  Calls Try.prog 18 #[.slice r33p r33l r33c, .slice r30p r30l r30c] w51 fun e17 w52 =>
  ∃ (r34 : Bool), e17 = .returned (.bool r34) ∧
  cond (!r34)
  (R (.returned (.bool false)) w52)
  (I0 told1p told1l told1c (IntKind.wrap .i64 (i0 + 1)) w52 ∧ M0 told1p told1l told1c (IntKind.wrap .i64 (i0 + 1)) w52 < M0 told0p told0l told0c i0 w6)))
def S_law8_HandlePlays_j1 (slots0 : Int) (R : Ending → World → Prop) (r0 : Option Addr) (b0 : Nat) (told0p : Option Addr) (told0l : Nat) (told0c : Nat) (i0 : Int) (w6 : World) (I0 : Option Addr → Nat → Nat → Int → World → Prop) (M0 : Option Addr → Nat → Nat → Int → World → Nat) (b1 : Nat) (h0 : Int) (w12 : World) : Prop :=
  ∀ k1 : Option Addr → Nat → Nat → World → Prop,
  (∀ (told1p : Option Addr) (told1l : Nat) (told1c : Nat) (w47 : World), S_law8_HandlePlays_j0 slots0 R r0 b0 told0p told0l told0c i0 w6 I0 M0 told1p told1l told1c w47 → k1 told1p told1l told1c w47) →
  LdI .i64 w12 (⟨b1, 0, none⟩) fun n9 =>
  cond (decide (n9 ≤ 2))
  (LdI .i64 w12 (Addr.add (⟨b1, 0, none⟩) 2) fun n10 =>
  Calls Try.prog 10 #[.pointer r0, .int .i64 n10] w12 fun e2 w13 =>
  ∃ (r3 : Int), ∃ (r4 : Int), e2 = .returned (.tuple #[.int .u64 r3, .int .i64 r4]) ∧
  LdI .i64 w13 (⟨b0, 0, none⟩) fun n11 =>
  LdS w13 (Addr.add (⟨b0, 0, none⟩) 1) fun s0p s0l s0c =>
  LdS w13 (Addr.add (⟨b0, 0, none⟩) 2) fun s1p s1l s1c =>
  LdI .i64 w13 (Addr.add (⟨b1, 0, none⟩) 2) fun n12 =>
  Calls Try.prog 20 #[.agg #[.int .i64 n11, .slice s0p s0l s0c, .slice s1p s1l s1c], .int .i64 n12] w13 fun e3 w14 =>
  ∃ (r5 : Int), ∃ (r6p : Option Addr), ∃ (r6l : Nat), ∃ (r6c : Nat), ∃ (r7p : Option Addr), ∃ (r7l : Nat), ∃ (r7c : Nat), ∃ (r8 : Int), ∃ (r9 : Int), e3 = .returned (.tuple #[.agg #[.int .i64 r5, .slice r6p r6l r6c, .slice r7p r7l r7c], .int .u64 r8, .int .i64 r9]) ∧
  NewC (.cells #[.int .i64 0, .slice none 0 0, .slice none 0 0] 49 (0, 0)) w14 fun b2 w15 =>
  StC w15 (⟨b2, 0, none⟩) (.int .i64 r5) fun w16 =>
  StC w16 (Addr.add (⟨b2, 0, none⟩) 1) (.slice r6p r6l r6c) fun w17 =>
  StC w17 (Addr.add (⟨b2, 0, none⟩) 2) (.slice r7p r7l r7c) fun w18 =>
  LdI .i64 w18 (⟨b2, 0, none⟩) fun n13 =>
  LdS w18 (Addr.add (⟨b2, 0, none⟩) 1) fun s2p s2l s2c =>
  LdS w18 (Addr.add (⟨b2, 0, none⟩) 2) fun s3p s3l s3c =>
  StC w18 (⟨b0, 0, none⟩) (.int .i64 n13) fun w19 =>
  StC w19 (Addr.add (⟨b0, 0, none⟩) 1) (.slice s2p s2l s2c) fun w20 =>
  StC w20 (Addr.add (⟨b0, 0, none⟩) 2) (.slice s3p s3l s3c) fun w21 =>
  cond (r4 != r9)
  (R (.returned (.bool false)) w21)
  (cond (r3 != r8)
  (R (.returned (.bool false)) w21)
  (cond (r9 == 0)
  (NewC (.cells #[.int .u64 r3] 25 (0, 0)) w21 fun b3 w22 =>
  RunS Try.prog (Builtin.append_ #[34, 34] 34 #[.slice told0p told0l told0c, .slice (some (⟨b3, 0, none⟩)) 1 1]) w22 fun s4p s4l s4c w23 =>
  k1 s4p s4l s4c w23)
  (k1 told0p told0l told0c w21))))
  (LdI .i64 w12 (⟨b1, 0, none⟩) fun n14 =>
  cond (n14 == 3)
  (Calls Try.prog 12 #[.pointer r0, .int .u64 h0] w12 fun e4 w24 =>
  ∃ (r10 : Int), ∃ (r11 : Int), e4 = .returned (.tuple #[.int .i64 r10, .int .i64 r11]) ∧
  LdI .i64 w24 (⟨b0, 0, none⟩) fun n15 =>
  LdS w24 (Addr.add (⟨b0, 0, none⟩) 1) fun s5p s5l s5c =>
  LdS w24 (Addr.add (⟨b0, 0, none⟩) 2) fun s6p s6l s6c =>
  Calls Try.prog 21 #[.agg #[.int .i64 n15, .slice s5p s5l s5c, .slice s6p s6l s6c], .int .u64 h0] w24 fun e5 w25 =>
  ∃ (r12 : Int), ∃ (r13 : Int), e5 = .returned (.tuple #[.int .i64 r12, .int .i64 r13]) ∧
  Calls Try.prog 16 #[.pointer r0, .int .u64 h0] w25 fun e6 w26 =>
  ∃ (r14 : Int), ∃ (r15 : Int), e6 = .returned (.tuple #[.int .i64 r14, .int .i64 r15]) ∧
  cond (r11 != r13)
  (R (.returned (.bool false)) w26)
  (cond (r10 != r12)
  (R (.returned (.bool false)) w26)
  (cond (r15 != r13)
  (R (.returned (.bool false)) w26)
  (cond (r13 == 0)
  (cond (r14 != (IntKind.wrap .i64 ((IntKind.wrap .i64 (bAnd .u64 h0 4294967295)) - 1)))
  (R (.returned (.bool false)) w26)
  (cond (r13 != 0)
  (cond (r14 != 0)
  (R (.returned (.bool false)) w26)
  (k1 told0p told0l told0c w26))
  (k1 told0p told0l told0c w26)))
  (cond (r13 != 0)
  (cond (r14 != 0)
  (R (.returned (.bool false)) w26)
  (k1 told0p told0l told0c w26))
  (k1 told0p told0l told0c w26))))))
  (LdI .i64 w12 (⟨b1, 0, none⟩) fun n16 =>
  cond (n16 == 4)
  (LdI .i64 w12 (Addr.add (⟨b1, 0, none⟩) 2) fun n17 =>
  Calls Try.prog 15 #[.pointer r0, .int .u64 h0, .int .i64 n17] w12 fun e7 w27 =>
  ∃ (r16 : Int), e7 = .returned (.int .i64 r16) ∧
  LdI .i64 w27 (⟨b0, 0, none⟩) fun n18 =>
  LdS w27 (Addr.add (⟨b0, 0, none⟩) 1) fun s7p s7l s7c =>
  LdS w27 (Addr.add (⟨b0, 0, none⟩) 2) fun s8p s8l s8c =>
  LdI .i64 w27 (Addr.add (⟨b1, 0, none⟩) 2) fun n19 =>
  Calls Try.prog 22 #[.agg #[.int .i64 n18, .slice s7p s7l s7c, .slice s8p s8l s8c], .int .u64 h0, .int .i64 n19] w27 fun e8 w28 =>
  ∃ (r17 : Int), ∃ (r18p : Option Addr), ∃ (r18l : Nat), ∃ (r18c : Nat), ∃ (r19p : Option Addr), ∃ (r19l : Nat), ∃ (r19c : Nat), ∃ (r20 : Int), e8 = .returned (.tuple #[.agg #[.int .i64 r17, .slice r18p r18l r18c, .slice r19p r19l r19c], .int .i64 r20]) ∧
  NewC (.cells #[.int .i64 0, .slice none 0 0, .slice none 0 0] 49 (0, 0)) w28 fun b4 w29 =>
  StC w29 (⟨b4, 0, none⟩) (.int .i64 r17) fun w30 =>
  StC w30 (Addr.add (⟨b4, 0, none⟩) 1) (.slice r18p r18l r18c) fun w31 =>
  StC w31 (Addr.add (⟨b4, 0, none⟩) 2) (.slice r19p r19l r19c) fun w32 =>
  LdI .i64 w32 (⟨b4, 0, none⟩) fun n20 =>
  LdS w32 (Addr.add (⟨b4, 0, none⟩) 1) fun s9p s9l s9c =>
  LdS w32 (Addr.add (⟨b4, 0, none⟩) 2) fun s10p s10l s10c =>
  StC w32 (⟨b0, 0, none⟩) (.int .i64 n20) fun w33 =>
  StC w33 (Addr.add (⟨b0, 0, none⟩) 1) (.slice s9p s9l s9c) fun w34 =>
  StC w34 (Addr.add (⟨b0, 0, none⟩) 2) (.slice s10p s10l s10c) fun w35 =>
  cond (r16 != r20)
  (R (.returned (.bool false)) w35)
  (k1 told0p told0l told0c w35))
  (LdI .i64 w12 (⟨b1, 0, none⟩) fun n21 =>
  cond (decide (n21 ≤ 6))
  (Calls Try.prog 11 #[.pointer r0, .int .u64 h0] w12 fun e9 w36 =>
  ∃ (r21 : Int), e9 = .returned (.int .i64 r21) ∧
  LdI .i64 w36 (⟨b0, 0, none⟩) fun n22 =>
  LdS w36 (Addr.add (⟨b0, 0, none⟩) 1) fun s11p s11l s11c =>
  LdS w36 (Addr.add (⟨b0, 0, none⟩) 2) fun s12p s12l s12c =>
  Calls Try.prog 23 #[.agg #[.int .i64 n22, .slice s11p s11l s11c, .slice s12p s12l s12c], .int .u64 h0] w36 fun e10 w37 =>
  ∃ (r22 : Int), ∃ (r23p : Option Addr), ∃ (r23l : Nat), ∃ (r23c : Nat), ∃ (r24p : Option Addr), ∃ (r24l : Nat), ∃ (r24c : Nat), ∃ (r25 : Int), e10 = .returned (.tuple #[.agg #[.int .i64 r22, .slice r23p r23l r23c, .slice r24p r24l r24c], .int .i64 r25]) ∧
  NewC (.cells #[.int .i64 0, .slice none 0 0, .slice none 0 0] 49 (0, 0)) w37 fun b5 w38 =>
  StC w38 (⟨b5, 0, none⟩) (.int .i64 r22) fun w39 =>
  StC w39 (Addr.add (⟨b5, 0, none⟩) 1) (.slice r23p r23l r23c) fun w40 =>
  StC w40 (Addr.add (⟨b5, 0, none⟩) 2) (.slice r24p r24l r24c) fun w41 =>
  LdI .i64 w41 (⟨b5, 0, none⟩) fun n23 =>
  LdS w41 (Addr.add (⟨b5, 0, none⟩) 1) fun s13p s13l s13c =>
  LdS w41 (Addr.add (⟨b5, 0, none⟩) 2) fun s14p s14l s14c =>
  StC w41 (⟨b0, 0, none⟩) (.int .i64 n23) fun w42 =>
  StC w42 (Addr.add (⟨b0, 0, none⟩) 1) (.slice s13p s13l s13c) fun w43 =>
  StC w43 (Addr.add (⟨b0, 0, none⟩) 2) (.slice s14p s14l s14c) fun w44 =>
  cond (r21 != r25)
  (R (.returned (.bool false)) w44)
  (k1 told0p told0l told0c w44))
  (LdI .i64 w12 (Addr.add (⟨b1, 0, none⟩) 2) fun n24 =>
  Calls Try.prog 17 #[.pointer r0, .int .i64 n24] w12 fun e11 w45 =>
  ∃ (r26 : Int), ∃ (r27 : Int), e11 = .returned (.tuple #[.int .u64 r26, .int .i64 r27]) ∧
  LdI .i64 w45 (⟨b0, 0, none⟩) fun n25 =>
  LdS w45 (Addr.add (⟨b0, 0, none⟩) 1) fun s15p s15l s15c =>
  LdS w45 (Addr.add (⟨b0, 0, none⟩) 2) fun s16p s16l s16c =>
  LdI .i64 w45 (Addr.add (⟨b1, 0, none⟩) 2) fun n26 =>
  Calls Try.prog 24 #[.agg #[.int .i64 n25, .slice s15p s15l s15c, .slice s16p s16l s16c], .int .i64 n26] w45 fun e12 w46 =>
  ∃ (r28 : Int), ∃ (r29 : Int), e12 = .returned (.tuple #[.int .u64 r28, .int .i64 r29]) ∧
  cond (r27 != r29)
  (R (.returned (.bool false)) w46)
  (cond (r26 != r28)
  (R (.returned (.bool false)) w46)
  (k1 told0p told0l told0c w46))))))
def S_law8_HandlePlays_l0 (slots0 : Int) (l0p : Option Addr) (l0l : Nat) (R : Ending → World → Prop) (r0 : Option Addr) (b0 : Nat) (told0p : Option Addr) (told0l : Nat) (told0c : Nat) (i0 : Int) (w6 : World) (I0 : Option Addr → Nat → Nat → Int → World → Prop) (M0 : Option Addr → Nat → Nat → Int → World → Nat) : Prop :=
  cond (decide (i0 < (Nat.cast l0l : Int)))
  (IdxC l0p l0l i0 4 fun a0 =>
  LdI .i64 w6 a0 fun n0 =>
  LdI .i64 w6 (Addr.add a0 1) fun n1 =>
  LdI .i64 w6 (Addr.add a0 2) fun n2 =>
  LdI .u64 w6 (Addr.add a0 3) fun n3 =>
  NewC (.cells #[.int .i64 0, .int .i64 0, .int .i64 0, .int .u64 0] 40 (0, 0)) w6 fun b1 w7 =>
  StC w7 (⟨b1, 0, none⟩) (.int .i64 n0) fun w8 =>
  StC w8 (Addr.add (⟨b1, 0, none⟩) 1) (.int .i64 n1) fun w9 =>
  StC w9 (Addr.add (⟨b1, 0, none⟩) 2) (.int .i64 n2) fun w10 =>
  StC w10 (Addr.add (⟨b1, 0, none⟩) 3) (.int .u64 n3) fun w11 =>
  LdI .u64 w11 (Addr.add (⟨b1, 0, none⟩) 3) fun n4 =>
  ∀ k0 : Int → World → Prop,
  (∀ (h0 : Int) (w12 : World), S_law8_HandlePlays_j1 slots0 R r0 b0 told0p told0l told0c i0 w6 I0 M0 b1 h0 w12 → k0 h0 w12) →
  LdI .i64 w11 (Addr.add (⟨b1, 0, none⟩) 1) fun n5 =>
  cond (decide (n5 ≥ 0))
  (LdI .i64 w11 (Addr.add (⟨b1, 0, none⟩) 1) fun n6 =>
  cond (decide (n6 < (Nat.cast told0l : Int)))
  (LdI .i64 w11 (Addr.add (⟨b1, 0, none⟩) 1) fun n7 =>
  IdxC told0p told0l n7 1 fun a1 =>
  LdI .u64 w11 a1 fun n8 =>
  k0 n8 w11)
  (k0 n4 w11))
  (k0 n4 w11))
  (R (.returned (.bool true)) w6)
def S_law8_HandlePlays (slots0 : Int) (l0p : Option Addr) (l0l : Nat) (l0c : Nat) (w : World) (R : Ending → World → Prop) : Prop :=
  Calls Try.prog 19 #[.int .i64 slots0] w fun e0 w0 =>
  ∃ (r0 : Option Addr), ∃ (r1 : Int), e0 = .returned (.tuple #[.pointer r0, .int .i64 r1]) ∧
  Calls Try.prog 8 #[] w0 fun e1 w1 =>
  ∃ (r2 : Bool), e1 = .returned (.bool r2) ∧
  cond (!r2)
  (R (.returned (.bool false)) w1)
  (cond (decide (slots0 < 1))
  (cond (r1 == 1)
  (R (.returned (.bool r0.isNone)) w1)
  (R (.returned (.bool false)) w1))
  (cond (decide (slots0 > 1048576))
  (cond (r1 == 1)
  (R (.returned (.bool r0.isNone)) w1)
  (R (.returned (.bool false)) w1))
  (cond (r1 != 0)
  (R (.returned (.bool false)) w1)
  (cond r0.isNone
  (R (.returned (.bool false)) w1)
  (NewC (.cells #[.int .i64 0, .slice none 0 0, .slice none 0 0] 49 (0, 0)) w1 fun b0 w2 =>
  StC w2 (⟨b0, 0, none⟩) (.int .i64 slots0) fun w3 =>
  StC w3 (Addr.add (⟨b0, 0, none⟩) 1) (.slice none 0 0) fun w4 =>
  StC w4 (Addr.add (⟨b0, 0, none⟩) 2) (.slice none 0 0) fun w5 =>
  ∃ (I0 : Option Addr → Nat → Nat → Int → World → Prop) (M0 : Option Addr → Nat → Nat → Int → World → Nat), I0 none 0 0 0 w5 ∧
  ∀ (told0p : Option Addr) (told0l : Nat) (told0c : Nat) (i0 : Int) (w6 : World), I0 told0p told0l told0c i0 w6 →
  S_law8_HandlePlays_l0 slots0 l0p l0l R r0 b0 told0p told0l told0c i0 w6 I0 M0)))))
def S_law8_HandlePlays_ann : Ann := (.seq .leaf (.seq .leaf (.seq .leaf (.seq .leaf (.seq .leaf (.seq .leaf (.seq .leaf (.seq (.seq .leaf (.block (.loop [0, 1, 5, 7] [(8, .slice), (9, (.int .i64))] (.seq .leaf (.seq (.block (.seq .leaf (.seq .leaf (.join [0, 1, 5, 7, 8, 9, 10] [(11, (.int .u64))] .leaf (.seq (.jblock [0, 1, 5, 7, 9] [(8, .slice)] .leaf .leaf) .leaf))))) .leaf))))) .leaf))))))))
theorem S_law8_HandlePlays_eq (slots0 : Int) (l0p : Option Addr) (l0l : Nat) (l0c : Nat) (w : World) (R : Ending → World → Prop) : X Try.prog Try.f7.ntmps (bodyOf Try.f7) S_law8_HandlePlays_ann (argEnv 0 [.int .i64 slots0, .slice l0p l0l l0c]) w (fun e w' => resK Try.prog Try.f7.results.toList e w' [] fun vs => R (.returned (pack vs)) w') (fun e w' => resK Try.prog Try.f7.results.toList e w' [] fun vs => R (.returned (pack vs)) w') (fun _ _ _ => False) = S_law8_HandlePlays slots0 l0p l0l l0c w R := by kernel_rfl
theorem S_law8_HandlePlays_ok (slots0 : Int) (l0p : Option Addr) (l0l : Nat) (l0c : Nat) (w : World) (R : Ending → World → Prop) (h : S_law8_HandlePlays slots0 l0p l0l l0c w R) : Calls Try.prog 7 #[.int .i64 slots0, .slice l0p l0l l0c] w R :=
  calls_of_X (an := S_law8_HandlePlays_ann) wide_ok Try.func7 (by kernel_rfl) (by kernel_rfl) (by rw [S_law8_HandlePlays_eq]; exact h)

def S_law8_awake (w : World) (R : Ending → World → Prop) : Prop :=
  Calls Try.prog 9 #[.int .i64 2] w fun e0 w0 =>
  ∃ (r0 : Option Addr), e0 = .returned (.pointer r0) ∧
  cond r0.isNone
  (R (.returned (.bool false)) w0)
  (Calls Try.prog 10 #[.pointer r0, .int .i64 7] w0 fun e1 w1 =>
  ∃ (r1 : Int), ∃ (r2 : Int), e1 = .returned (.tuple #[.int .u64 r1, .int .i64 r2]) ∧
  Calls Try.prog 12 #[.pointer r0, .int .u64 r1] w1 fun e2 w2 =>
  ∃ (r3 : Int), ∃ (r4 : Int), e2 = .returned (.tuple #[.int .i64 r3, .int .i64 r4]) ∧
  cond (r2 == 0)
  (cond (r1 == 4294967297)
  (cond (r4 == 0)
  (cond (r3 == 7)
  (Calls Try.prog 13 #[.pointer r0] w2 fun e3 w3 =>
  ∃ (r5 : Int), e3 = .returned (.int .i64 r5) ∧
  R (.returned (.bool (r5 == 1))) w3)
  (R (.returned (.bool false)) w2))
  (R (.returned (.bool false)) w2))
  (R (.returned (.bool false)) w2))
  (R (.returned (.bool false)) w2))
def S_law8_awake_ann : Ann := .leaf
theorem S_law8_awake_eq (w : World) (R : Ending → World → Prop) : X Try.prog Try.f8.ntmps (bodyOf Try.f8) S_law8_awake_ann (argEnv 0 []) w (fun e w' => resK Try.prog Try.f8.results.toList e w' [] fun vs => R (.returned (pack vs)) w') (fun e w' => resK Try.prog Try.f8.results.toList e w' [] fun vs => R (.returned (pack vs)) w') (fun _ _ _ => False) = S_law8_awake w R := by kernel_rfl
theorem S_law8_awake_ok (w : World) (R : Ending → World → Prop) (h : S_law8_awake w R) : Calls Try.prog 8 #[] w R :=
  calls_of_X (an := S_law8_awake_ann) wide_ok Try.func8 (by kernel_rfl) (by kernel_rfl) (by rw [S_law8_awake_eq]; exact h)

def S_law8_fresh (slots0 : Int) (w : World) (R : Ending → World → Prop) : Prop :=
  Calls Try.prog 19 #[.int .i64 slots0] w fun e0 w0 =>
  ∃ (r0 : Option Addr), ∃ (r1 : Int), e0 = .returned (.tuple #[.pointer r0, .int .i64 r1]) ∧
  cond (r1 != 0)
  (R (.returned (.pointer none)) w0)
  (R (.returned (.pointer r0)) w0)
def S_law8_fresh_ann : Ann := .leaf
theorem S_law8_fresh_eq (slots0 : Int) (w : World) (R : Ending → World → Prop) : X Try.prog Try.f9.ntmps (bodyOf Try.f9) S_law8_fresh_ann (argEnv 0 [.int .i64 slots0]) w (fun e w' => resK Try.prog Try.f9.results.toList e w' [] fun vs => R (.returned (pack vs)) w') (fun e w' => resK Try.prog Try.f9.results.toList e w' [] fun vs => R (.returned (pack vs)) w') (fun _ _ _ => False) = S_law8_fresh slots0 w R := by kernel_rfl
theorem S_law8_fresh_ok (slots0 : Int) (w : World) (R : Ending → World → Prop) (h : S_law8_fresh slots0 w R) : Calls Try.prog 9 #[.int .i64 slots0] w R :=
  calls_of_X (an := S_law8_fresh_ann) wide_ok Try.func9 (by kernel_rfl) (by kernel_rfl) (by rw [S_law8_fresh_eq]; exact h)

def S_handle_Table_Make_j0 (t0 : Option Addr) (at0 : Int) (R : Ending → World → Prop) (r0 : Int) (a3 : Addr) (w3 : World) : Prop :=
  StC w3 (Addr.add a3 1) (.bool true) fun w4 =>
  StC w4 (Addr.add a3 2) (.int .i64 at0) fun w5 =>
  StC w5 (Addr.add a3 3) (.int .i64 0) fun w6 =>
  onSome t0 fun a8 =>
  LdI .i64 w6 (Addr.add a8 3) fun n4 =>
  onSome t0 fun a9 =>
  StC w6 (Addr.add a9 3) (.int .i64 (IntKind.wrap .i64 (n4 + 1))) fun w7 =>
  Calls Try.prog 28 #[.pointer t0, .int .i64 r0] w7 fun e1 w8 =>
  ∃ (r1 : Int), e1 = .returned (.int .u64 r1) ∧
  R (.returned (.tuple #[.int .u64 r1, .int .i64 0])) w8
def S_handle_Table_Make (t0 : Option Addr) (at0 : Int) (w : World) (R : Ending → World → Prop) : Prop :=
  cond (decide (at0 < 0))
  (R (.returned (.tuple #[.int .u64 0, .int .i64 1])) w)
  (onSome t0 fun a0 =>
  LdI .i64 (World.drew w) (Addr.add a0 3) fun n0 =>
  onSome t0 fun a1 =>
  LdS (World.drew w) a1 fun _ s0l _ =>
  cond (n0 == (Nat.cast s0l : Int))
  (R (.returned (.tuple #[.int .u64 0, .int .i64 5])) (World.drew w))
  (Calls Try.prog 27 #[.pointer t0] (World.drew w) fun e0 w0 =>
  ∃ (r0 : Int), e0 = .returned (.int .i64 r0) ∧
  onSome t0 fun a2 =>
  LdS w0 a2 fun s1p s1l _ =>
  IdxC s1p s1l r0 4 fun a3 =>
  ∀ k0 : World → Prop,
  (∀ (w3 : World), S_handle_Table_Make_j0 t0 at0 R r0 a3 w3 → k0 w3) →
  onSome t0 fun a4 =>
  LdI .i64 w0 (Addr.add a4 2) fun n1 =>
  cond (decide (n1 > 0))
  (LdI .i64 w0 (Addr.add a3 3) fun n2 =>
  onSome t0 fun a5 =>
  StC w0 (Addr.add a5 2) (.int .i64 n2) fun w1 =>
  k0 w1)
  (onSome t0 fun a6 =>
  LdI .i64 w0 (Addr.add a6 1) fun n3 =>
  onSome t0 fun a7 =>
  StC w0 (Addr.add a7 1) (.int .i64 (IntKind.wrap .i64 (n3 + 1))) fun w2 =>
  k0 w2)))
def S_handle_Table_Make_ann : Ann := (.seq .leaf (.seq (.block (.seq .leaf (.cond .leaf (.seq (.draw 11) .leaf)))) (.seq .leaf (.seq .leaf (.join [0, 1, 6, 7] [] .leaf .leaf)))))
theorem S_handle_Table_Make_eq (t0 : Option Addr) (at0 : Int) (w : World) (R : Ending → World → Prop) : X Try.prog Try.f10.ntmps (bodyOf Try.f10) S_handle_Table_Make_ann (argEnv 0 [.pointer t0, .int .i64 at0]) w (fun e w' => resK Try.prog Try.f10.results.toList e w' [] fun vs => R (.returned (pack vs)) w') (fun e w' => resK Try.prog Try.f10.results.toList e w' [] fun vs => R (.returned (pack vs)) w') (fun _ _ _ => False) = S_handle_Table_Make t0 at0 w R := by kernel_rfl
theorem S_handle_Table_Make_ok (t0 : Option Addr) (at0 : Int) (w : World) (R : Ending → World → Prop) (h : S_handle_Table_Make t0 at0 w R) : Calls Try.prog 10 #[.pointer t0, .int .i64 at0] w R :=
  calls_of_X (an := S_handle_Table_Make_ann) wide_ok Try.func10 (by kernel_rfl) (by kernel_rfl) (by rw [S_handle_Table_Make_eq]; exact h)

def S_handle_Table_Free (t0 : Option Addr) (h0 : Int) (w : World) (R : Ending → World → Prop) : Prop :=
  Calls Try.prog 29 #[.pointer t0, .int .u64 h0] w fun e0 w0 =>
  ∃ (r0 : Int), ∃ (r1 : Int), e0 = .returned (.tuple #[.int .i64 r0, .int .i64 r1]) ∧
  cond (r1 != 0)
  (R (.returned (.int .i64 r1)) w0)
  (onSome t0 fun a0 =>
  LdS w0 a0 fun s0p s0l _ =>
  IdxC s0p s0l r0 4 fun a1 =>
  LdI .u32 (World.drew w0) a1 fun n0 =>
  onSome t0 fun a2 =>
  LdI .i64 (World.drew w0) (Addr.add a2 2) fun n1 =>
  StC (World.drew w0) a1 (.int .u32 (IntKind.wrap .u32 (n0 + 1))) fun w1 =>
  StC w1 (Addr.add a1 1) (.bool false) fun w2 =>
  StC w2 (Addr.add a1 2) (.int .i64 0) fun w3 =>
  StC w3 (Addr.add a1 3) (.int .i64 n1) fun w4 =>
  onSome t0 fun a3 =>
  StC w4 (Addr.add a3 2) (.int .i64 (IntKind.wrap .i64 (r0 + 1))) fun w5 =>
  onSome t0 fun a4 =>
  LdI .i64 w5 (Addr.add a4 3) fun n2 =>
  onSome t0 fun a5 =>
  StC w5 (Addr.add a5 3) (.int .i64 (IntKind.wrap .i64 (n2 - 1))) fun w6 =>
  R (.returned (.int .i64 0)) w6)
def S_handle_Table_Free_ann : Ann := (.seq .leaf (.seq .leaf (.seq .leaf (.seq .leaf (.seq (.draw 12) .leaf)))))
theorem S_handle_Table_Free_eq (t0 : Option Addr) (h0 : Int) (w : World) (R : Ending → World → Prop) : X Try.prog Try.f11.ntmps (bodyOf Try.f11) S_handle_Table_Free_ann (argEnv 0 [.pointer t0, .int .u64 h0]) w (fun e w' => resK Try.prog Try.f11.results.toList e w' [] fun vs => R (.returned (pack vs)) w') (fun e w' => resK Try.prog Try.f11.results.toList e w' [] fun vs => R (.returned (pack vs)) w') (fun _ _ _ => False) = S_handle_Table_Free t0 h0 w R := by kernel_rfl
theorem S_handle_Table_Free_ok (t0 : Option Addr) (h0 : Int) (w : World) (R : Ending → World → Prop) (h : S_handle_Table_Free t0 h0 w R) : Calls Try.prog 11 #[.pointer t0, .int .u64 h0] w R :=
  calls_of_X (an := S_handle_Table_Free_ann) wide_ok Try.func11 (by kernel_rfl) (by kernel_rfl) (by rw [S_handle_Table_Free_eq]; exact h)

def S_handle_Table_At (t0 : Option Addr) (h0 : Int) (w : World) (R : Ending → World → Prop) : Prop :=
  Calls Try.prog 29 #[.pointer t0, .int .u64 h0] w fun e0 w0 =>
  ∃ (r0 : Int), ∃ (r1 : Int), e0 = .returned (.tuple #[.int .i64 r0, .int .i64 r1]) ∧
  cond (r1 != 0)
  (R (.returned (.tuple #[.int .i64 0, .int .i64 r1])) w0)
  (onSome t0 fun a0 =>
  LdS w0 a0 fun s0p s0l _ =>
  IdxC s0p s0l r0 4 fun a1 =>
  LdI .i64 w0 (Addr.add a1 2) fun n0 =>
  R (.returned (.tuple #[.int .i64 n0, .int .i64 0])) w0)
def S_handle_Table_At_ann : Ann := .leaf
theorem S_handle_Table_At_eq (t0 : Option Addr) (h0 : Int) (w : World) (R : Ending → World → Prop) : X Try.prog Try.f12.ntmps (bodyOf Try.f12) S_handle_Table_At_ann (argEnv 0 [.pointer t0, .int .u64 h0]) w (fun e w' => resK Try.prog Try.f12.results.toList e w' [] fun vs => R (.returned (pack vs)) w') (fun e w' => resK Try.prog Try.f12.results.toList e w' [] fun vs => R (.returned (pack vs)) w') (fun _ _ _ => False) = S_handle_Table_At t0 h0 w R := by kernel_rfl
theorem S_handle_Table_At_ok (t0 : Option Addr) (h0 : Int) (w : World) (R : Ending → World → Prop) (h : S_handle_Table_At t0 h0 w R) : Calls Try.prog 12 #[.pointer t0, .int .u64 h0] w R :=
  calls_of_X (an := S_handle_Table_At_ann) wide_ok Try.func12 (by kernel_rfl) (by kernel_rfl) (by rw [S_handle_Table_At_eq]; exact h)

def S_handle_Table_Count (t0 : Option Addr) (w : World) (R : Ending → World → Prop) : Prop :=
  onSome t0 fun a0 =>
  LdI .i64 w (Addr.add a0 3) fun n0 =>
  R (.returned (.int .i64 n0)) w
def S_handle_Table_Count_ann : Ann := .leaf
theorem S_handle_Table_Count_eq (t0 : Option Addr) (w : World) (R : Ending → World → Prop) : X Try.prog Try.f13.ntmps (bodyOf Try.f13) S_handle_Table_Count_ann (argEnv 0 [.pointer t0]) w (fun e w' => resK Try.prog Try.f13.results.toList e w' [] fun vs => R (.returned (pack vs)) w') (fun e w' => resK Try.prog Try.f13.results.toList e w' [] fun vs => R (.returned (pack vs)) w') (fun _ _ _ => False) = S_handle_Table_Count t0 w R := by kernel_rfl
theorem S_handle_Table_Count_ok (t0 : Option Addr) (w : World) (R : Ending → World → Prop) (h : S_handle_Table_Count t0 w R) : Calls Try.prog 13 #[.pointer t0] w R :=
  calls_of_X (an := S_handle_Table_Count_ann) wide_ok Try.func13 (by kernel_rfl) (by kernel_rfl) (by rw [S_handle_Table_Count_eq]; exact h)

def S_handle_Table_Live_j0 (out0p : Option Addr) (out0l : Nat) (out0c : Nat) (n1 : Int) (w1 : World) (I0 : Option Addr → Nat → Nat → Int → World → Prop) (M0 : Option Addr → Nat → Nat → Int → World → Nat) (out1p : Option Addr) (out1l : Nat) (out1c : Nat) (w5 : World) : Prop :=
  I0 out1p out1l out1c (IntKind.wrap .i64 (n1 + 1)) w5 ∧ M0 out1p out1l out1c (IntKind.wrap .i64 (n1 + 1)) w5 < M0 out0p out0l out0c n1 w1
def S_handle_Table_Live_l0 (t0 : Option Addr) (R : Ending → World → Prop) (s1l : Nat) (out0p : Option Addr) (out0l : Nat) (out0c : Nat) (n1 : Int) (w1 : World) (I0 : Option Addr → Nat → Nat → Int → World → Prop) (M0 : Option Addr → Nat → Nat → Int → World → Nat) : Prop :=
  cond (decide (n1 < (Nat.cast s1l : Int)))
  (∀ k0 : Option Addr → Nat → Nat → World → Prop,
  (∀ (out1p : Option Addr) (out1l : Nat) (out1c : Nat) (w5 : World), S_handle_Table_Live_j0 out0p out0l out0c n1 w1 I0 M0 out1p out1l out1c w5 → k0 out1p out1l out1c w5) →
  onSome t0 fun a2 =>
  LdS w1 a2 fun s2p s2l _ =>
  IdxC s2p s2l n1 4 fun a3 =>
  LdB w1 (Addr.add a3 1) fun b0 =>
  cond b0
  (Calls Try.prog 28 #[.pointer t0, .int .i64 n1] w1 fun e0 w2 =>
  ∃ (r0 : Int), e0 = .returned (.int .u64 r0) ∧
  NewC (.cells #[.int .u64 r0] 25 (0, 0)) w2 fun b1 w3 =>
  RunS Try.prog (Builtin.append_ #[34, 34] 34 #[.slice out0p out0l out0c, .slice (some (⟨b1, 0, none⟩)) 1 1]) w3 fun s3p s3l s3c w4 =>
  k0 s3p s3l s3c w4)
  (k0 out0p out0l out0c w1))
  (R (.returned (.slice out0p out0l out0c)) w1)
def S_handle_Table_Live (t0 : Option Addr) (w : World) (R : Ending → World → Prop) : Prop :=
  onSome t0 fun a0 =>
  LdI .i64 w (Addr.add a0 3) fun n0 =>
  RunS Try.prog (Instr.makeSlice 34 (.int .i64 0) (.int .i64 n0)) w fun s0p s0l s0c w0 =>
  onSome t0 fun a1 =>
  LdS w0 a1 fun _ s1l _ =>
  ∃ (I0 : Option Addr → Nat → Nat → Int → World → Prop) (M0 : Option Addr → Nat → Nat → Int → World → Nat), I0 s0p s0l s0c 0 w0 ∧
  ∀ (out0p : Option Addr) (out0l : Nat) (out0c : Nat) (n1 : Int) (w1 : World), I0 out0p out0l out0c n1 w1 →
  S_handle_Table_Live_l0 t0 R s1l out0p out0l out0c n1 w1 I0 M0
def S_handle_Table_Live_ann : Ann := (.seq .leaf (.seq .leaf (.seq (.seq .leaf (.block (.loop [0, 14] [(3, .slice), (15, (.int .i64))] (.seq .leaf (.seq .leaf (.seq (.jblock [0, 14, 15] [(3, .slice)] .leaf .leaf) .leaf)))))) .leaf)))
theorem S_handle_Table_Live_eq (t0 : Option Addr) (w : World) (R : Ending → World → Prop) : X Try.prog Try.f14.ntmps (bodyOf Try.f14) S_handle_Table_Live_ann (argEnv 0 [.pointer t0]) w (fun e w' => resK Try.prog Try.f14.results.toList e w' [] fun vs => R (.returned (pack vs)) w') (fun e w' => resK Try.prog Try.f14.results.toList e w' [] fun vs => R (.returned (pack vs)) w') (fun _ _ _ => False) = S_handle_Table_Live t0 w R := by kernel_rfl
theorem S_handle_Table_Live_ok (t0 : Option Addr) (w : World) (R : Ending → World → Prop) (h : S_handle_Table_Live t0 w R) : Calls Try.prog 14 #[.pointer t0] w R :=
  calls_of_X (an := S_handle_Table_Live_ann) wide_ok Try.func14 (by kernel_rfl) (by kernel_rfl) (by rw [S_handle_Table_Live_eq]; exact h)

def S_handle_Table_Move (t0 : Option Addr) (h0 : Int) (at0 : Int) (w : World) (R : Ending → World → Prop) : Prop :=
  Calls Try.prog 29 #[.pointer t0, .int .u64 h0] w fun e0 w0 =>
  ∃ (r0 : Int), ∃ (r1 : Int), e0 = .returned (.tuple #[.int .i64 r0, .int .i64 r1]) ∧
  cond (r1 != 0)
  (R (.returned (.int .i64 r1)) w0)
  (cond (decide (at0 < 0))
  (R (.returned (.int .i64 1)) w0)
  (onSome t0 fun a0 =>
  LdS w0 a0 fun s0p s0l _ =>
  IdxC s0p s0l r0 4 fun a1 =>
  StC w0 (Addr.add a1 2) (.int .i64 at0) fun w1 =>
  R (.returned (.int .i64 0)) w1))
def S_handle_Table_Move_ann : Ann := .leaf
theorem S_handle_Table_Move_eq (t0 : Option Addr) (h0 : Int) (at0 : Int) (w : World) (R : Ending → World → Prop) : X Try.prog Try.f15.ntmps (bodyOf Try.f15) S_handle_Table_Move_ann (argEnv 0 [.pointer t0, .int .u64 h0, .int .i64 at0]) w (fun e w' => resK Try.prog Try.f15.results.toList e w' [] fun vs => R (.returned (pack vs)) w') (fun e w' => resK Try.prog Try.f15.results.toList e w' [] fun vs => R (.returned (pack vs)) w') (fun _ _ _ => False) = S_handle_Table_Move t0 h0 at0 w R := by kernel_rfl
theorem S_handle_Table_Move_ok (t0 : Option Addr) (h0 : Int) (at0 : Int) (w : World) (R : Ending → World → Prop) (h : S_handle_Table_Move t0 h0 at0 w R) : Calls Try.prog 15 #[.pointer t0, .int .u64 h0, .int .i64 at0] w R :=
  calls_of_X (an := S_handle_Table_Move_ann) wide_ok Try.func15 (by kernel_rfl) (by kernel_rfl) (by rw [S_handle_Table_Move_eq]; exact h)

def S_handle_Table_Slot (t0 : Option Addr) (h0 : Int) (w : World) (R : Ending → World → Prop) : Prop :=
  Calls Try.prog 29 #[.pointer t0, .int .u64 h0] w fun e0 w0 =>
  ∃ (r0 : Int), ∃ (r1 : Int), e0 = .returned (.tuple #[.int .i64 r0, .int .i64 r1]) ∧
  R (.returned (.tuple #[.int .i64 r0, .int .i64 r1])) w0
def S_handle_Table_Slot_ann : Ann := .leaf
theorem S_handle_Table_Slot_eq (t0 : Option Addr) (h0 : Int) (w : World) (R : Ending → World → Prop) : X Try.prog Try.f16.ntmps (bodyOf Try.f16) S_handle_Table_Slot_ann (argEnv 0 [.pointer t0, .int .u64 h0]) w (fun e w' => resK Try.prog Try.f16.results.toList e w' [] fun vs => R (.returned (pack vs)) w') (fun e w' => resK Try.prog Try.f16.results.toList e w' [] fun vs => R (.returned (pack vs)) w') (fun _ _ _ => False) = S_handle_Table_Slot t0 h0 w R := by kernel_rfl
theorem S_handle_Table_Slot_ok (t0 : Option Addr) (h0 : Int) (w : World) (R : Ending → World → Prop) (h : S_handle_Table_Slot t0 h0 w R) : Calls Try.prog 16 #[.pointer t0, .int .u64 h0] w R :=
  calls_of_X (an := S_handle_Table_Slot_ann) wide_ok Try.func16 (by kernel_rfl) (by kernel_rfl) (by rw [S_handle_Table_Slot_eq]; exact h)

def S_handle_Table_Of (t0 : Option Addr) (i0 : Int) (w : World) (R : Ending → World → Prop) : Prop :=
  cond (decide (i0 < 0))
  (R (.returned (.tuple #[.int .u64 0, .int .i64 1])) w)
  (onSome t0 fun a0 =>
  LdS w a0 fun _ s0l _ =>
  cond (decide (i0 ≥ (Nat.cast s0l : Int)))
  (R (.returned (.tuple #[.int .u64 0, .int .i64 1])) w)
  (onSome t0 fun a1 =>
  LdS w a1 fun s1p s1l _ =>
  IdxC s1p s1l i0 4 fun a2 =>
  LdB w (Addr.add a2 1) fun b0 =>
  cond (!b0)
  (R (.returned (.tuple #[.int .u64 0, .int .i64 6])) w)
  (Calls Try.prog 28 #[.pointer t0, .int .i64 i0] w fun e0 w0 =>
  ∃ (r0 : Int), e0 = .returned (.int .u64 r0) ∧
  R (.returned (.tuple #[.int .u64 r0, .int .i64 0])) w0)))
def S_handle_Table_Of_ann : Ann := .leaf
theorem S_handle_Table_Of_eq (t0 : Option Addr) (i0 : Int) (w : World) (R : Ending → World → Prop) : X Try.prog Try.f17.ntmps (bodyOf Try.f17) S_handle_Table_Of_ann (argEnv 0 [.pointer t0, .int .i64 i0]) w (fun e w' => resK Try.prog Try.f17.results.toList e w' [] fun vs => R (.returned (pack vs)) w') (fun e w' => resK Try.prog Try.f17.results.toList e w' [] fun vs => R (.returned (pack vs)) w') (fun _ _ _ => False) = S_handle_Table_Of t0 i0 w R := by kernel_rfl
theorem S_handle_Table_Of_ok (t0 : Option Addr) (i0 : Int) (w : World) (R : Ending → World → Prop) (h : S_handle_Table_Of t0 i0 w R) : Calls Try.prog 17 #[.pointer t0, .int .i64 i0] w R :=
  calls_of_X (an := S_handle_Table_Of_ann) wide_ok Try.func17 (by kernel_rfl) (by kernel_rfl) (by rw [S_handle_Table_Of_eq]; exact h)

def S_law8_list_l0 (a0p : Option Addr) (a0l : Nat) (b0p : Option Addr) (b0l : Nat) (R : Ending → World → Prop) (i0 : Int) (w0 : World) (I0 : Int → World → Prop) (M0 : Int → World → Nat) : Prop :=
  cond (decide (i0 < (Nat.cast a0l : Int)))
  (IdxC a0p a0l i0 1 fun a1 =>
  LdI .u64 (World.drew w0) a1 fun n0 =>
  IdxC b0p b0l i0 1 fun a2 =>
  LdI .u64 (World.drew w0) a2 fun n1 =>
  cond (n0 != n1)
  (R (.returned (.bool false)) (World.drew w0))
  (I0 (IntKind.wrap .i64 (i0 + 1)) (World.drew w0) ∧ M0 (IntKind.wrap .i64 (i0 + 1)) (World.drew w0) < M0 i0 w0))
  (R (.returned (.bool true)) w0)
def S_law8_list (a0p : Option Addr) (a0l : Nat) (a0c : Nat) (b0p : Option Addr) (b0l : Nat) (b0c : Nat) (w : World) (R : Ending → World → Prop) : Prop :=
  cond ((Nat.cast a0l : Int) != (Nat.cast b0l : Int))
  (R (.returned (.bool false)) w)
  (∃ (I0 : Int → World → Prop) (M0 : Int → World → Nat), I0 0 w ∧
  ∀ (i0 : Int) (w0 : World), I0 i0 w0 →
  S_law8_list_l0 a0p a0l b0p b0l R i0 w0 I0 M0)
def S_law8_list_ann : Ann := (.seq .leaf (.seq .leaf (.seq (.seq .leaf (.block (.loop [0, 1] [(5, (.int .i64))] (.seq .leaf (.seq (.block (.seq (.draw 9) .leaf)) .leaf))))) .leaf)))
theorem S_law8_list_eq (a0p : Option Addr) (a0l : Nat) (a0c : Nat) (b0p : Option Addr) (b0l : Nat) (b0c : Nat) (w : World) (R : Ending → World → Prop) : X Try.prog Try.f18.ntmps (bodyOf Try.f18) S_law8_list_ann (argEnv 0 [.slice a0p a0l a0c, .slice b0p b0l b0c]) w (fun e w' => resK Try.prog Try.f18.results.toList e w' [] fun vs => R (.returned (pack vs)) w') (fun e w' => resK Try.prog Try.f18.results.toList e w' [] fun vs => R (.returned (pack vs)) w') (fun _ _ _ => False) = S_law8_list a0p a0l a0c b0p b0l b0c w R := by kernel_rfl
theorem S_law8_list_ok (a0p : Option Addr) (a0l : Nat) (a0c : Nat) (b0p : Option Addr) (b0l : Nat) (b0c : Nat) (w : World) (R : Ending → World → Prop) (h : S_law8_list a0p a0l a0c b0p b0l b0c w R) : Calls Try.prog 18 #[.slice a0p a0l a0c, .slice b0p b0l b0c] w R :=
  calls_of_X (an := S_law8_list_ann) wide_ok Try.func18 (by kernel_rfl) (by kernel_rfl) (by rw [S_law8_list_eq]; exact h)

def S_handle_New_l0 (R : Ending → World → Prop) (b0 : Nat) (s1l : Nat) (n0 : Int) (w2 : World) (I0 : Int → World → Prop) (M0 : Int → World → Nat) : Prop :=
  cond (decide (n0 < (Nat.cast s1l : Int)))
  (LdS w2 (⟨b0, 0, none⟩) fun s2p s2l _ =>
  IdxC s2p s2l n0 4 fun a0 =>
  StC w2 a0 (.int .u32 1) fun w3 =>
  I0 (IntKind.wrap .i64 (n0 + 1)) w3 ∧ M0 (IntKind.wrap .i64 (n0 + 1)) w3 < M0 n0 w2)
  (R (.returned (.tuple #[.pointer (some (⟨b0, 0, none⟩)), .int .i64 0])) w2)
def S_handle_New (slots0 : Int) (w : World) (R : Ending → World → Prop) : Prop :=
  cond (decide (slots0 < 1))
  (R (.returned (.tuple #[.pointer none, .int .i64 1])) w)
  (cond (decide (slots0 > 1048576))
  (R (.returned (.tuple #[.pointer none, .int .i64 1])) w)
  (RunS Try.prog (Instr.makeSlice 61 (.int .i64 slots0) (.int .i64 slots0)) w fun s0p s0l s0c w0 =>
  NewC (.cells #[.slice s0p s0l s0c, .int .i64 0, .int .i64 0, .int .i64 0] 63 (0, 0)) w0 fun b0 w1 =>
  LdS w1 (⟨b0, 0, none⟩) fun _ s1l _ =>
  ∃ (I0 : Int → World → Prop) (M0 : Int → World → Nat), I0 0 w1 ∧
  ∀ (n0 : Int) (w2 : World), I0 n0 w2 →
  S_handle_New_l0 R b0 s1l n0 w2 I0 M0))
def S_handle_New_ann : Ann := (.seq .leaf (.seq .leaf (.seq .leaf (.seq (.seq .leaf (.block (.loop [4, 20] [(21, (.int .i64))] .leaf))) .leaf))))
theorem S_handle_New_eq (slots0 : Int) (w : World) (R : Ending → World → Prop) : X Try.prog Try.f19.ntmps (bodyOf Try.f19) S_handle_New_ann (argEnv 0 [.int .i64 slots0]) w (fun e w' => resK Try.prog Try.f19.results.toList e w' [] fun vs => R (.returned (pack vs)) w') (fun e w' => resK Try.prog Try.f19.results.toList e w' [] fun vs => R (.returned (pack vs)) w') (fun _ _ _ => False) = S_handle_New slots0 w R := by kernel_rfl
theorem S_handle_New_ok (slots0 : Int) (w : World) (R : Ending → World → Prop) (h : S_handle_New slots0 w R) : Calls Try.prog 19 #[.int .i64 slots0] w R :=
  calls_of_X (an := S_handle_New_ann) wide_ok Try.func19 (by kernel_rfl) (by kernel_rfl) (by rw [S_handle_New_eq]; exact h)

def S_ref8_Make (t0 : Int) (t1p : Option Addr) (t1l : Nat) (t1c : Nat) (t2p : Option Addr) (t2l : Nat) (t2c : Nat) (at0 : Int) (w : World) (R : Ending → World → Prop) : Prop :=
  NewC (.cells #[.int .i64 t0, .slice t1p t1l t1c, .slice t2p t2l t2c] 49 (0, 0)) w fun b0 w0 =>
  NewC (.cells #[.int .i64 0, .slice none 0 0, .slice none 0 0] 49 (0, 0)) w0 fun b1 w1 =>
  cond (decide (at0 < 0))
  (LdI .i64 w1 (⟨b0, 0, none⟩) fun n0 =>
  LdS w1 (Addr.add (⟨b0, 0, none⟩) 1) fun s0p s0l s0c =>
  LdS w1 (Addr.add (⟨b0, 0, none⟩) 2) fun s1p s1l s1c =>
  StC w1 (⟨b1, 0, none⟩) (.int .i64 n0) fun w2 =>
  StC w2 (Addr.add (⟨b1, 0, none⟩) 1) (.slice s0p s0l s0c) fun w3 =>
  StC w3 (Addr.add (⟨b1, 0, none⟩) 2) (.slice s1p s1l s1c) fun w4 =>
  LdI .i64 w4 (⟨b1, 0, none⟩) fun n1 =>
  LdS w4 (Addr.add (⟨b1, 0, none⟩) 1) fun s2p s2l s2c =>
  LdS w4 (Addr.add (⟨b1, 0, none⟩) 2) fun s3p s3l s3c =>
  R (.returned (.tuple #[.agg #[.int .i64 n1, .slice s2p s2l s2c, .slice s3p s3l s3c], .int .u64 0, .int .i64 1])) w4)
  (LdI .i64 w1 (⟨b0, 0, none⟩) fun n2 =>
  LdS w1 (Addr.add (⟨b0, 0, none⟩) 1) fun s4p s4l s4c =>
  LdS w1 (Addr.add (⟨b0, 0, none⟩) 2) fun s5p s5l s5c =>
  Calls Try.prog 30 #[.agg #[.int .i64 n2, .slice s4p s4l s4c, .slice s5p s5l s5c]] w1 fun e0 w5 =>
  ∃ (r0 : Int), ∃ (r1p : Option Addr), ∃ (r1l : Nat), ∃ (r1c : Nat), ∃ (r2p : Option Addr), ∃ (r2l : Nat), ∃ (r2c : Nat), e0 = .returned (.agg #[.int .i64 r0, .slice r1p r1l r1c, .slice r2p r2l r2c]) ∧
  StC w5 (⟨b0, 0, none⟩) (.int .i64 r0) fun w6 =>
  StC w6 (Addr.add (⟨b0, 0, none⟩) 1) (.slice r1p r1l r1c) fun w7 =>
  StC w7 (Addr.add (⟨b0, 0, none⟩) 2) (.slice r2p r2l r2c) fun w8 =>
  LdS w8 (Addr.add (⟨b0, 0, none⟩) 2) fun _ s6l _ =>
  cond (decide ((Nat.cast s6l : Int) > 0))
  (LdS w8 (Addr.add (⟨b0, 0, none⟩) 2) fun s7p s7l _ =>
  LdS w8 (Addr.add (⟨b0, 0, none⟩) 2) fun _ s8l _ =>
  IdxC s7p s7l (IntKind.wrap .i64 ((Nat.cast s8l : Int) - 1)) 1 fun a0 =>
  LdI .i64 w8 a0 fun n3 =>
  LdS w8 (Addr.add (⟨b0, 0, none⟩) 2) fun s9p _ s9c =>
  LdS w8 (Addr.add (⟨b0, 0, none⟩) 2) fun _ s10l _ =>
  SlC s9p s9c 0 (IntKind.wrap .i64 ((Nat.cast s10l : Int) - 1)) (Nat.cast s9c : Int) 1 fun s11p s11l s11c =>
  StC w8 (Addr.add (⟨b0, 0, none⟩) 2) (.slice s11p s11l s11c) fun w9 =>
  LdS w9 (Addr.add (⟨b0, 0, none⟩) 1) fun s12p s12l _ =>
  IdxC s12p s12l n3 3 fun a1 =>
  StC w9 (Addr.add a1 2) (.bool true) fun w10 =>
  LdS w10 (Addr.add (⟨b0, 0, none⟩) 1) fun s13p s13l _ =>
  IdxC s13p s13l n3 3 fun a2 =>
  StC w10 (Addr.add a2 1) (.int .i64 at0) fun w11 =>
  ∃ C0 : World → Prop, C0 (World.drew w11) ∧
  ∃ (n4 : Int), ∃ (s14p : Option Addr), ∃ (s14l : Nat), ∃ (s14c : Nat), ∃ (s15p : Option Addr), ∃ (s15l : Nat), ∃ (s15c : Nat), (∀ (w12 : World), C0 w12 →
  LdI .i64 w12 (⟨b0, 0, none⟩) fun n5 =>
  LdS w12 (Addr.add (⟨b0, 0, none⟩) 1) fun s16p s16l s16c =>
  LdS w12 (Addr.add (⟨b0, 0, none⟩) 2) fun s17p s17l s17c =>
  Value.agg #[.int .i64 n5, .slice s16p s16l s16c, .slice s17p s17l s17c] = .agg #[.int .i64 n4, .slice s14p s14l s14c, .slice s15p s15l s15c]) ∧
  ∃ (n6 : Int), ∃ (s18p : Option Addr), ∃ (s18l : Nat), ∃ (s18c : Nat), ∃ (s19p : Option Addr), ∃ (s19l : Nat), ∃ (s19c : Nat), (∀ (w13 : World), C0 w13 →
  LdI .i64 w13 (⟨b0, 0, none⟩) fun n7 =>
  LdS w13 (Addr.add (⟨b0, 0, none⟩) 1) fun s20p s20l s20c =>
  LdS w13 (Addr.add (⟨b0, 0, none⟩) 2) fun s21p s21l s21c =>
  Value.agg #[.int .i64 n7, .slice s20p s20l s20c, .slice s21p s21l s21c] = .agg #[.int .i64 n6, .slice s18p s18l s18c, .slice s19p s19l s19c]) ∧
  Calls Try.prog 31 #[.agg #[.int .i64 n6, .slice s18p s18l s18c, .slice s19p s19l s19c], .int .i64 n3] (World.drew w11) fun e1 w14 =>
  ∃ (r3 : Int), e1 = .returned (.int .u64 r3) ∧
  C0 w14 ∧
  StC w14 (⟨b1, 0, none⟩) (.int .i64 n4) fun w15 =>
  StC w15 (Addr.add (⟨b1, 0, none⟩) 1) (.slice s14p s14l s14c) fun w16 =>
  StC w16 (Addr.add (⟨b1, 0, none⟩) 2) (.slice s15p s15l s15c) fun w17 =>
  C0 w17 ∧
  LdI .i64 w17 (⟨b1, 0, none⟩) fun n8 =>
  LdS w17 (Addr.add (⟨b1, 0, none⟩) 1) fun s22p s22l s22c =>
  LdS w17 (Addr.add (⟨b1, 0, none⟩) 2) fun s23p s23l s23c =>
  R (.returned (.tuple #[.agg #[.int .i64 n8, .slice s22p s22l s22c, .slice s23p s23l s23c], .int .u64 r3, .int .i64 0])) w17)
  (LdS w8 (Addr.add (⟨b0, 0, none⟩) 1) fun _ s24l _ =>
  LdI .i64 w8 (⟨b0, 0, none⟩) fun n9 =>
  cond ((Nat.cast s24l : Int) == n9)
  (LdI .i64 w8 (⟨b0, 0, none⟩) fun n10 =>
  LdS w8 (Addr.add (⟨b0, 0, none⟩) 1) fun s25p s25l s25c =>
  LdS w8 (Addr.add (⟨b0, 0, none⟩) 2) fun s26p s26l s26c =>
  StC w8 (⟨b1, 0, none⟩) (.int .i64 n10) fun w18 =>
  StC w18 (Addr.add (⟨b1, 0, none⟩) 1) (.slice s25p s25l s25c) fun w19 =>
  StC w19 (Addr.add (⟨b1, 0, none⟩) 2) (.slice s26p s26l s26c) fun w20 =>
  LdI .i64 w20 (⟨b1, 0, none⟩) fun n11 =>
  LdS w20 (Addr.add (⟨b1, 0, none⟩) 1) fun s27p s27l s27c =>
  LdS w20 (Addr.add (⟨b1, 0, none⟩) 2) fun s28p s28l s28c =>
  R (.returned (.tuple #[.agg #[.int .i64 n11, .slice s27p s27l s27c, .slice s28p s28l s28c], .int .u64 0, .int .i64 5])) w20)
  (LdS w8 (Addr.add (⟨b0, 0, none⟩) 1) fun s29p s29l s29c =>
  NewC (.cells #[.int .u64 1, .int .i64 at0, .bool true] 71 (0, 0)) w8 fun b2 w21 =>
  RunS Try.prog (Builtin.append_ #[47, 47] 47 #[.slice s29p s29l s29c, .slice (some (⟨b2, 0, none⟩)) 1 1]) w21 fun s30p s30l s30c w22 =>
  StC w22 (Addr.add (⟨b0, 0, none⟩) 1) (.slice s30p s30l s30c) fun w23 =>
  ∃ C1 : World → Prop, C1 (World.drew w23) ∧
  ∃ (n12 : Int), ∃ (s31p : Option Addr), ∃ (s31l : Nat), ∃ (s31c : Nat), ∃ (s32p : Option Addr), ∃ (s32l : Nat), ∃ (s32c : Nat), (∀ (w24 : World), C1 w24 →
  LdI .i64 w24 (⟨b0, 0, none⟩) fun n13 =>
  LdS w24 (Addr.add (⟨b0, 0, none⟩) 1) fun s33p s33l s33c =>
  LdS w24 (Addr.add (⟨b0, 0, none⟩) 2) fun s34p s34l s34c =>
  Value.agg #[.int .i64 n13, .slice s33p s33l s33c, .slice s34p s34l s34c] = .agg #[.int .i64 n12, .slice s31p s31l s31c, .slice s32p s32l s32c]) ∧
  ∃ (n14 : Int), ∃ (s35p : Option Addr), ∃ (s35l : Nat), ∃ (s35c : Nat), ∃ (s36p : Option Addr), ∃ (s36l : Nat), ∃ (s36c : Nat), (∀ (w25 : World), C1 w25 →
  LdI .i64 w25 (⟨b0, 0, none⟩) fun n15 =>
  LdS w25 (Addr.add (⟨b0, 0, none⟩) 1) fun s37p s37l s37c =>
  LdS w25 (Addr.add (⟨b0, 0, none⟩) 2) fun s38p s38l s38c =>
  Value.agg #[.int .i64 n15, .slice s37p s37l s37c, .slice s38p s38l s38c] = .agg #[.int .i64 n14, .slice s35p s35l s35c, .slice s36p s36l s36c]) ∧
  LdSQ C1 (Addr.add (⟨b0, 0, none⟩) 1) fun _ s39l _ =>
  Calls Try.prog 31 #[.agg #[.int .i64 n14, .slice s35p s35l s35c, .slice s36p s36l s36c], .int .i64 (IntKind.wrap .i64 ((Nat.cast s39l : Int) - 1))] (World.drew w23) fun e2 w26 =>
  ∃ (r4 : Int), e2 = .returned (.int .u64 r4) ∧
  C1 w26 ∧
  StC w26 (⟨b1, 0, none⟩) (.int .i64 n12) fun w27 =>
  StC w27 (Addr.add (⟨b1, 0, none⟩) 1) (.slice s31p s31l s31c) fun w28 =>
  StC w28 (Addr.add (⟨b1, 0, none⟩) 2) (.slice s32p s32l s32c) fun w29 =>
  C1 w29 ∧
  LdI .i64 w29 (⟨b1, 0, none⟩) fun n16 =>
  LdS w29 (Addr.add (⟨b1, 0, none⟩) 1) fun s40p s40l s40c =>
  LdS w29 (Addr.add (⟨b1, 0, none⟩) 2) fun s41p s41l s41c =>
  R (.returned (.tuple #[.agg #[.int .i64 n16, .slice s40p s40l s40c, .slice s41p s41l s41c], .int .u64 r4, .int .i64 0])) w29)))
def S_ref8_Make_ann : Ann := (.seq .leaf (.seq .leaf (.seq .leaf (.seq (.seq .leaf (.cond (.seq .leaf (.seq .leaf (.seq .leaf (.seq .leaf (.seq .any .leaf))))) .leaf)) (.seq .leaf (.seq .leaf (.seq .any .leaf)))))))
theorem S_ref8_Make_eq (t0 : Int) (t1p : Option Addr) (t1l : Nat) (t1c : Nat) (t2p : Option Addr) (t2l : Nat) (t2c : Nat) (at0 : Int) (w : World) (R : Ending → World → Prop) : X Try.prog Try.f20.ntmps (bodyOf Try.f20) S_ref8_Make_ann (argEnv 0 [.agg #[.int .i64 t0, .slice t1p t1l t1c, .slice t2p t2l t2c], .int .i64 at0]) w (fun e w' => resK Try.prog Try.f20.results.toList e w' [] fun vs => R (.returned (pack vs)) w') (fun e w' => resK Try.prog Try.f20.results.toList e w' [] fun vs => R (.returned (pack vs)) w') (fun _ _ _ => False) = S_ref8_Make t0 t1p t1l t1c t2p t2l t2c at0 w R := by kernel_rfl
theorem S_ref8_Make_ok (t0 : Int) (t1p : Option Addr) (t1l : Nat) (t1c : Nat) (t2p : Option Addr) (t2l : Nat) (t2c : Nat) (at0 : Int) (w : World) (R : Ending → World → Prop) (h : S_ref8_Make t0 t1p t1l t1c t2p t2l t2c at0 w R) : Calls Try.prog 20 #[.agg #[.int .i64 t0, .slice t1p t1l t1c, .slice t2p t2l t2c], .int .i64 at0] w R :=
  calls_of_X (an := S_ref8_Make_ann) wide_ok Try.func20 (by kernel_rfl) (by kernel_rfl) (by rw [S_ref8_Make_eq]; exact h)

def S_ref8_At (t0 : Int) (t1p : Option Addr) (t1l : Nat) (t1c : Nat) (t2p : Option Addr) (t2l : Nat) (t2c : Nat) (h0 : Int) (w : World) (R : Ending → World → Prop) : Prop :=
  NewC (.cells #[.int .i64 t0, .slice t1p t1l t1c, .slice t2p t2l t2c] 49 (0, 0)) w fun b0 w0 =>
  LdI .i64 w0 (⟨b0, 0, none⟩) fun n0 =>
  LdS w0 (Addr.add (⟨b0, 0, none⟩) 1) fun s0p s0l s0c =>
  LdS w0 (Addr.add (⟨b0, 0, none⟩) 2) fun s1p s1l s1c =>
  Calls Try.prog 32 #[.agg #[.int .i64 n0, .slice s0p s0l s0c, .slice s1p s1l s1c], .int .u64 h0] w0 fun e0 w1 =>
  ∃ (r0 : Int), e0 = .returned (.int .i64 r0) ∧
  cond (decide (r0 < 0))
  (R (.returned (.tuple #[.int .i64 0, .int .i64 6])) w1)
  (LdS w1 (Addr.add (⟨b0, 0, none⟩) 1) fun s2p s2l _ =>
  IdxC s2p s2l r0 3 fun a0 =>
  LdI .i64 w1 (Addr.add a0 1) fun n1 =>
  R (.returned (.tuple #[.int .i64 n1, .int .i64 0])) w1)
def S_ref8_At_ann : Ann := .leaf
theorem S_ref8_At_eq (t0 : Int) (t1p : Option Addr) (t1l : Nat) (t1c : Nat) (t2p : Option Addr) (t2l : Nat) (t2c : Nat) (h0 : Int) (w : World) (R : Ending → World → Prop) : X Try.prog Try.f21.ntmps (bodyOf Try.f21) S_ref8_At_ann (argEnv 0 [.agg #[.int .i64 t0, .slice t1p t1l t1c, .slice t2p t2l t2c], .int .u64 h0]) w (fun e w' => resK Try.prog Try.f21.results.toList e w' [] fun vs => R (.returned (pack vs)) w') (fun e w' => resK Try.prog Try.f21.results.toList e w' [] fun vs => R (.returned (pack vs)) w') (fun _ _ _ => False) = S_ref8_At t0 t1p t1l t1c t2p t2l t2c h0 w R := by kernel_rfl
theorem S_ref8_At_ok (t0 : Int) (t1p : Option Addr) (t1l : Nat) (t1c : Nat) (t2p : Option Addr) (t2l : Nat) (t2c : Nat) (h0 : Int) (w : World) (R : Ending → World → Prop) (h : S_ref8_At t0 t1p t1l t1c t2p t2l t2c h0 w R) : Calls Try.prog 21 #[.agg #[.int .i64 t0, .slice t1p t1l t1c, .slice t2p t2l t2c], .int .u64 h0] w R :=
  calls_of_X (an := S_ref8_At_ann) wide_ok Try.func21 (by kernel_rfl) (by kernel_rfl) (by rw [S_ref8_At_eq]; exact h)

def S_ref8_Move (t0 : Int) (t1p : Option Addr) (t1l : Nat) (t1c : Nat) (t2p : Option Addr) (t2l : Nat) (t2c : Nat) (h0 : Int) (at0 : Int) (w : World) (R : Ending → World → Prop) : Prop :=
  NewC (.cells #[.int .i64 t0, .slice t1p t1l t1c, .slice t2p t2l t2c] 49 (0, 0)) w fun b0 w0 =>
  NewC (.cells #[.int .i64 0, .slice none 0 0, .slice none 0 0] 49 (0, 0)) w0 fun b1 w1 =>
  LdI .i64 w1 (⟨b0, 0, none⟩) fun n0 =>
  LdS w1 (Addr.add (⟨b0, 0, none⟩) 1) fun s0p s0l s0c =>
  LdS w1 (Addr.add (⟨b0, 0, none⟩) 2) fun s1p s1l s1c =>
  Calls Try.prog 32 #[.agg #[.int .i64 n0, .slice s0p s0l s0c, .slice s1p s1l s1c], .int .u64 h0] w1 fun e0 w2 =>
  ∃ (r0 : Int), e0 = .returned (.int .i64 r0) ∧
  cond (decide (r0 < 0))
  (LdI .i64 w2 (⟨b0, 0, none⟩) fun n1 =>
  LdS w2 (Addr.add (⟨b0, 0, none⟩) 1) fun s2p s2l s2c =>
  LdS w2 (Addr.add (⟨b0, 0, none⟩) 2) fun s3p s3l s3c =>
  StC w2 (⟨b1, 0, none⟩) (.int .i64 n1) fun w3 =>
  StC w3 (Addr.add (⟨b1, 0, none⟩) 1) (.slice s2p s2l s2c) fun w4 =>
  StC w4 (Addr.add (⟨b1, 0, none⟩) 2) (.slice s3p s3l s3c) fun w5 =>
  LdI .i64 w5 (⟨b1, 0, none⟩) fun n2 =>
  LdS w5 (Addr.add (⟨b1, 0, none⟩) 1) fun s4p s4l s4c =>
  LdS w5 (Addr.add (⟨b1, 0, none⟩) 2) fun s5p s5l s5c =>
  R (.returned (.tuple #[.agg #[.int .i64 n2, .slice s4p s4l s4c, .slice s5p s5l s5c], .int .i64 6])) w5)
  (cond (decide (at0 < 0))
  (LdI .i64 w2 (⟨b0, 0, none⟩) fun n3 =>
  LdS w2 (Addr.add (⟨b0, 0, none⟩) 1) fun s6p s6l s6c =>
  LdS w2 (Addr.add (⟨b0, 0, none⟩) 2) fun s7p s7l s7c =>
  StC w2 (⟨b1, 0, none⟩) (.int .i64 n3) fun w6 =>
  StC w6 (Addr.add (⟨b1, 0, none⟩) 1) (.slice s6p s6l s6c) fun w7 =>
  StC w7 (Addr.add (⟨b1, 0, none⟩) 2) (.slice s7p s7l s7c) fun w8 =>
  LdI .i64 w8 (⟨b1, 0, none⟩) fun n4 =>
  LdS w8 (Addr.add (⟨b1, 0, none⟩) 1) fun s8p s8l s8c =>
  LdS w8 (Addr.add (⟨b1, 0, none⟩) 2) fun s9p s9l s9c =>
  R (.returned (.tuple #[.agg #[.int .i64 n4, .slice s8p s8l s8c, .slice s9p s9l s9c], .int .i64 1])) w8)
  (LdI .i64 w2 (⟨b0, 0, none⟩) fun n5 =>
  LdS w2 (Addr.add (⟨b0, 0, none⟩) 1) fun s10p s10l s10c =>
  LdS w2 (Addr.add (⟨b0, 0, none⟩) 2) fun s11p s11l s11c =>
  Calls Try.prog 30 #[.agg #[.int .i64 n5, .slice s10p s10l s10c, .slice s11p s11l s11c]] w2 fun e1 w9 =>
  ∃ (r1 : Int), ∃ (r2p : Option Addr), ∃ (r2l : Nat), ∃ (r2c : Nat), ∃ (r3p : Option Addr), ∃ (r3l : Nat), ∃ (r3c : Nat), e1 = .returned (.agg #[.int .i64 r1, .slice r2p r2l r2c, .slice r3p r3l r3c]) ∧
  StC w9 (⟨b0, 0, none⟩) (.int .i64 r1) fun w10 =>
  StC w10 (Addr.add (⟨b0, 0, none⟩) 1) (.slice r2p r2l r2c) fun w11 =>
  StC w11 (Addr.add (⟨b0, 0, none⟩) 2) (.slice r3p r3l r3c) fun w12 =>
  LdS w12 (Addr.add (⟨b0, 0, none⟩) 1) fun s12p s12l _ =>
  IdxC s12p s12l r0 3 fun a0 =>
  StC w12 (Addr.add a0 1) (.int .i64 at0) fun w13 =>
  LdI .i64 w13 (⟨b0, 0, none⟩) fun n6 =>
  LdS w13 (Addr.add (⟨b0, 0, none⟩) 1) fun s13p s13l s13c =>
  LdS w13 (Addr.add (⟨b0, 0, none⟩) 2) fun s14p s14l s14c =>
  StC w13 (⟨b1, 0, none⟩) (.int .i64 n6) fun w14 =>
  StC w14 (Addr.add (⟨b1, 0, none⟩) 1) (.slice s13p s13l s13c) fun w15 =>
  StC w15 (Addr.add (⟨b1, 0, none⟩) 2) (.slice s14p s14l s14c) fun w16 =>
  LdI .i64 w16 (⟨b1, 0, none⟩) fun n7 =>
  LdS w16 (Addr.add (⟨b1, 0, none⟩) 1) fun s15p s15l s15c =>
  LdS w16 (Addr.add (⟨b1, 0, none⟩) 2) fun s16p s16l s16c =>
  R (.returned (.tuple #[.agg #[.int .i64 n7, .slice s15p s15l s15c, .slice s16p s16l s16c], .int .i64 0])) w16))
def S_ref8_Move_ann : Ann := .leaf
theorem S_ref8_Move_eq (t0 : Int) (t1p : Option Addr) (t1l : Nat) (t1c : Nat) (t2p : Option Addr) (t2l : Nat) (t2c : Nat) (h0 : Int) (at0 : Int) (w : World) (R : Ending → World → Prop) : X Try.prog Try.f22.ntmps (bodyOf Try.f22) S_ref8_Move_ann (argEnv 0 [.agg #[.int .i64 t0, .slice t1p t1l t1c, .slice t2p t2l t2c], .int .u64 h0, .int .i64 at0]) w (fun e w' => resK Try.prog Try.f22.results.toList e w' [] fun vs => R (.returned (pack vs)) w') (fun e w' => resK Try.prog Try.f22.results.toList e w' [] fun vs => R (.returned (pack vs)) w') (fun _ _ _ => False) = S_ref8_Move t0 t1p t1l t1c t2p t2l t2c h0 at0 w R := by kernel_rfl
theorem S_ref8_Move_ok (t0 : Int) (t1p : Option Addr) (t1l : Nat) (t1c : Nat) (t2p : Option Addr) (t2l : Nat) (t2c : Nat) (h0 : Int) (at0 : Int) (w : World) (R : Ending → World → Prop) (h : S_ref8_Move t0 t1p t1l t1c t2p t2l t2c h0 at0 w R) : Calls Try.prog 22 #[.agg #[.int .i64 t0, .slice t1p t1l t1c, .slice t2p t2l t2c], .int .u64 h0, .int .i64 at0] w R :=
  calls_of_X (an := S_ref8_Move_ann) wide_ok Try.func22 (by kernel_rfl) (by kernel_rfl) (by rw [S_ref8_Move_eq]; exact h)

def S_ref8_Free (t0 : Int) (t1p : Option Addr) (t1l : Nat) (t1c : Nat) (t2p : Option Addr) (t2l : Nat) (t2c : Nat) (h0 : Int) (w : World) (R : Ending → World → Prop) : Prop :=
  NewC (.cells #[.int .i64 t0, .slice t1p t1l t1c, .slice t2p t2l t2c] 49 (0, 0)) w fun b0 w0 =>
  NewC (.cells #[.int .i64 0, .slice none 0 0, .slice none 0 0] 49 (0, 0)) w0 fun b1 w1 =>
  LdI .i64 w1 (⟨b0, 0, none⟩) fun n0 =>
  LdS w1 (Addr.add (⟨b0, 0, none⟩) 1) fun s0p s0l s0c =>
  LdS w1 (Addr.add (⟨b0, 0, none⟩) 2) fun s1p s1l s1c =>
  Calls Try.prog 32 #[.agg #[.int .i64 n0, .slice s0p s0l s0c, .slice s1p s1l s1c], .int .u64 h0] w1 fun e0 w2 =>
  ∃ (r0 : Int), e0 = .returned (.int .i64 r0) ∧
  cond (decide (r0 < 0))
  (LdI .i64 w2 (⟨b0, 0, none⟩) fun n1 =>
  LdS w2 (Addr.add (⟨b0, 0, none⟩) 1) fun s2p s2l s2c =>
  LdS w2 (Addr.add (⟨b0, 0, none⟩) 2) fun s3p s3l s3c =>
  StC w2 (⟨b1, 0, none⟩) (.int .i64 n1) fun w3 =>
  StC w3 (Addr.add (⟨b1, 0, none⟩) 1) (.slice s2p s2l s2c) fun w4 =>
  StC w4 (Addr.add (⟨b1, 0, none⟩) 2) (.slice s3p s3l s3c) fun w5 =>
  LdI .i64 w5 (⟨b1, 0, none⟩) fun n2 =>
  LdS w5 (Addr.add (⟨b1, 0, none⟩) 1) fun s4p s4l s4c =>
  LdS w5 (Addr.add (⟨b1, 0, none⟩) 2) fun s5p s5l s5c =>
  R (.returned (.tuple #[.agg #[.int .i64 n2, .slice s4p s4l s4c, .slice s5p s5l s5c], .int .i64 6])) w5)
  (LdI .i64 w2 (⟨b0, 0, none⟩) fun n3 =>
  LdS w2 (Addr.add (⟨b0, 0, none⟩) 1) fun s6p s6l s6c =>
  LdS w2 (Addr.add (⟨b0, 0, none⟩) 2) fun s7p s7l s7c =>
  Calls Try.prog 30 #[.agg #[.int .i64 n3, .slice s6p s6l s6c, .slice s7p s7l s7c]] w2 fun e1 w6 =>
  ∃ (r1 : Int), ∃ (r2p : Option Addr), ∃ (r2l : Nat), ∃ (r2c : Nat), ∃ (r3p : Option Addr), ∃ (r3l : Nat), ∃ (r3c : Nat), e1 = .returned (.agg #[.int .i64 r1, .slice r2p r2l r2c, .slice r3p r3l r3c]) ∧
  StC w6 (⟨b0, 0, none⟩) (.int .i64 r1) fun w7 =>
  StC w7 (Addr.add (⟨b0, 0, none⟩) 1) (.slice r2p r2l r2c) fun w8 =>
  StC w8 (Addr.add (⟨b0, 0, none⟩) 2) (.slice r3p r3l r3c) fun w9 =>
  LdS w9 (Addr.add (⟨b0, 0, none⟩) 1) fun s8p s8l _ =>
  IdxC s8p s8l r0 3 fun a0 =>
  StC w9 (Addr.add a0 2) (.bool false) fun w10 =>
  LdS w10 (Addr.add (⟨b0, 0, none⟩) 1) fun s9p s9l _ =>
  IdxC s9p s9l r0 3 fun a1 =>
  LdI .u64 w10 a1 fun n4 =>
  IdxC s9p s9l r0 3 fun a2 =>
  StC w10 a2 (.int .u64 (IntKind.wrap .u64 (n4 + 1))) fun w11 =>
  LdS w11 (Addr.add (⟨b0, 0, none⟩) 2) fun s10p s10l s10c =>
  NewC (.cells #[.int .i64 r0] 3 (0, 0)) w11 fun b2 w12 =>
  RunS Try.prog (Builtin.append_ #[38, 38] 38 #[.slice s10p s10l s10c, .slice (some (⟨b2, 0, none⟩)) 1 1]) w12 fun s11p s11l s11c w13 =>
  StC w13 (Addr.add (⟨b0, 0, none⟩) 2) (.slice s11p s11l s11c) fun w14 =>
  LdI .i64 w14 (⟨b0, 0, none⟩) fun n5 =>
  LdS w14 (Addr.add (⟨b0, 0, none⟩) 1) fun s12p s12l s12c =>
  LdS w14 (Addr.add (⟨b0, 0, none⟩) 2) fun s13p s13l s13c =>
  StC w14 (⟨b1, 0, none⟩) (.int .i64 n5) fun w15 =>
  StC w15 (Addr.add (⟨b1, 0, none⟩) 1) (.slice s12p s12l s12c) fun w16 =>
  StC w16 (Addr.add (⟨b1, 0, none⟩) 2) (.slice s13p s13l s13c) fun w17 =>
  LdI .i64 w17 (⟨b1, 0, none⟩) fun n6 =>
  LdS w17 (Addr.add (⟨b1, 0, none⟩) 1) fun s14p s14l s14c =>
  LdS w17 (Addr.add (⟨b1, 0, none⟩) 2) fun s15p s15l s15c =>
  R (.returned (.tuple #[.agg #[.int .i64 n6, .slice s14p s14l s14c, .slice s15p s15l s15c], .int .i64 0])) w17)
def S_ref8_Free_ann : Ann := .leaf
theorem S_ref8_Free_eq (t0 : Int) (t1p : Option Addr) (t1l : Nat) (t1c : Nat) (t2p : Option Addr) (t2l : Nat) (t2c : Nat) (h0 : Int) (w : World) (R : Ending → World → Prop) : X Try.prog Try.f23.ntmps (bodyOf Try.f23) S_ref8_Free_ann (argEnv 0 [.agg #[.int .i64 t0, .slice t1p t1l t1c, .slice t2p t2l t2c], .int .u64 h0]) w (fun e w' => resK Try.prog Try.f23.results.toList e w' [] fun vs => R (.returned (pack vs)) w') (fun e w' => resK Try.prog Try.f23.results.toList e w' [] fun vs => R (.returned (pack vs)) w') (fun _ _ _ => False) = S_ref8_Free t0 t1p t1l t1c t2p t2l t2c h0 w R := by kernel_rfl
theorem S_ref8_Free_ok (t0 : Int) (t1p : Option Addr) (t1l : Nat) (t1c : Nat) (t2p : Option Addr) (t2l : Nat) (t2c : Nat) (h0 : Int) (w : World) (R : Ending → World → Prop) (h : S_ref8_Free t0 t1p t1l t1c t2p t2l t2c h0 w R) : Calls Try.prog 23 #[.agg #[.int .i64 t0, .slice t1p t1l t1c, .slice t2p t2l t2c], .int .u64 h0] w R :=
  calls_of_X (an := S_ref8_Free_ann) wide_ok Try.func23 (by kernel_rfl) (by kernel_rfl) (by rw [S_ref8_Free_eq]; exact h)

def S_ref8_Of (t0 : Int) (t1p : Option Addr) (t1l : Nat) (t1c : Nat) (t2p : Option Addr) (t2l : Nat) (t2c : Nat) (slot0 : Int) (w : World) (R : Ending → World → Prop) : Prop :=
  NewC (.cells #[.int .i64 t0, .slice t1p t1l t1c, .slice t2p t2l t2c] 49 (0, 0)) w fun b0 w0 =>
  cond (decide (slot0 < 0))
  (R (.returned (.tuple #[.int .u64 0, .int .i64 1])) w0)
  (LdI .i64 w0 (⟨b0, 0, none⟩) fun n0 =>
  cond (decide (slot0 ≥ n0))
  (R (.returned (.tuple #[.int .u64 0, .int .i64 1])) w0)
  (LdS w0 (Addr.add (⟨b0, 0, none⟩) 1) fun _ s0l _ =>
  cond (decide (slot0 ≥ (Nat.cast s0l : Int)))
  (R (.returned (.tuple #[.int .u64 0, .int .i64 6])) w0)
  (LdS w0 (Addr.add (⟨b0, 0, none⟩) 1) fun s1p s1l _ =>
  IdxC s1p s1l slot0 3 fun a0 =>
  LdB w0 (Addr.add a0 2) fun b1 =>
  cond (!b1)
  (R (.returned (.tuple #[.int .u64 0, .int .i64 6])) w0)
  (LdI .i64 w0 (⟨b0, 0, none⟩) fun n1 =>
  LdS w0 (Addr.add (⟨b0, 0, none⟩) 1) fun s2p s2l s2c =>
  LdS w0 (Addr.add (⟨b0, 0, none⟩) 2) fun s3p s3l s3c =>
  Calls Try.prog 31 #[.agg #[.int .i64 n1, .slice s2p s2l s2c, .slice s3p s3l s3c], .int .i64 slot0] w0 fun e0 w1 =>
  ∃ (r0 : Int), e0 = .returned (.int .u64 r0) ∧
  R (.returned (.tuple #[.int .u64 r0, .int .i64 0])) w1))))
def S_ref8_Of_ann : Ann := .leaf
theorem S_ref8_Of_eq (t0 : Int) (t1p : Option Addr) (t1l : Nat) (t1c : Nat) (t2p : Option Addr) (t2l : Nat) (t2c : Nat) (slot0 : Int) (w : World) (R : Ending → World → Prop) : X Try.prog Try.f24.ntmps (bodyOf Try.f24) S_ref8_Of_ann (argEnv 0 [.agg #[.int .i64 t0, .slice t1p t1l t1c, .slice t2p t2l t2c], .int .i64 slot0]) w (fun e w' => resK Try.prog Try.f24.results.toList e w' [] fun vs => R (.returned (pack vs)) w') (fun e w' => resK Try.prog Try.f24.results.toList e w' [] fun vs => R (.returned (pack vs)) w') (fun _ _ _ => False) = S_ref8_Of t0 t1p t1l t1c t2p t2l t2c slot0 w R := by kernel_rfl
theorem S_ref8_Of_ok (t0 : Int) (t1p : Option Addr) (t1l : Nat) (t1c : Nat) (t2p : Option Addr) (t2l : Nat) (t2c : Nat) (slot0 : Int) (w : World) (R : Ending → World → Prop) (h : S_ref8_Of t0 t1p t1l t1c t2p t2l t2c slot0 w R) : Calls Try.prog 24 #[.agg #[.int .i64 t0, .slice t1p t1l t1c, .slice t2p t2l t2c], .int .i64 slot0] w R :=
  calls_of_X (an := S_ref8_Of_ann) wide_ok Try.func24 (by kernel_rfl) (by kernel_rfl) (by rw [S_ref8_Of_eq]; exact h)

def S_ref8_Live_j0 (out0p : Option Addr) (out0l : Nat) (out0c : Nat) (i0 : Int) (w1 : World) (I0 : Option Addr → Nat → Nat → Int → World → Prop) (M0 : Option Addr → Nat → Nat → Int → World → Nat) (out1p : Option Addr) (out1l : Nat) (out1c : Nat) (w5 : World) : Prop :=
  I0 out1p out1l out1c (IntKind.wrap .i64 (i0 + 1)) w5 ∧ M0 out1p out1l out1c (IntKind.wrap .i64 (i0 + 1)) w5 < M0 out0p out0l out0c i0 w1
def S_ref8_Live_l0 (R : Ending → World → Prop) (b0 : Nat) (out0p : Option Addr) (out0l : Nat) (out0c : Nat) (i0 : Int) (w1 : World) (I0 : Option Addr → Nat → Nat → Int → World → Prop) (M0 : Option Addr → Nat → Nat → Int → World → Nat) : Prop :=
  LdS w1 (Addr.add (⟨b0, 0, none⟩) 1) fun _ s0l _ =>
  cond (decide (i0 < (Nat.cast s0l : Int)))
  (∀ k0 : Option Addr → Nat → Nat → World → Prop,
  (∀ (out1p : Option Addr) (out1l : Nat) (out1c : Nat) (w5 : World), S_ref8_Live_j0 out0p out0l out0c i0 w1 I0 M0 out1p out1l out1c w5 → k0 out1p out1l out1c w5) →
  LdS w1 (Addr.add (⟨b0, 0, none⟩) 1) fun s1p s1l _ =>
  IdxC s1p s1l i0 3 fun a0 =>
  LdB w1 (Addr.add a0 2) fun b1 =>
  cond b1
  (LdI .i64 w1 (⟨b0, 0, none⟩) fun n0 =>
  LdS w1 (Addr.add (⟨b0, 0, none⟩) 1) fun s2p s2l s2c =>
  LdS w1 (Addr.add (⟨b0, 0, none⟩) 2) fun s3p s3l s3c =>
  Calls Try.prog 31 #[.agg #[.int .i64 n0, .slice s2p s2l s2c, .slice s3p s3l s3c], .int .i64 i0] w1 fun e0 w2 =>
  ∃ (r0 : Int), e0 = .returned (.int .u64 r0) ∧
  NewC (.cells #[.int .u64 r0] 25 (0, 0)) w2 fun b2 w3 =>
  RunS Try.prog (Builtin.append_ #[34, 34] 34 #[.slice out0p out0l out0c, .slice (some (⟨b2, 0, none⟩)) 1 1]) w3 fun s4p s4l s4c w4 =>
  k0 s4p s4l s4c w4)
  (k0 out0p out0l out0c w1))
  (R (.returned (.slice out0p out0l out0c)) w1)
def S_ref8_Live (t0 : Int) (t1p : Option Addr) (t1l : Nat) (t1c : Nat) (t2p : Option Addr) (t2l : Nat) (t2c : Nat) (w : World) (R : Ending → World → Prop) : Prop :=
  NewC (.cells #[.int .i64 t0, .slice t1p t1l t1c, .slice t2p t2l t2c] 49 (0, 0)) w fun b0 w0 =>
  ∃ (I0 : Option Addr → Nat → Nat → Int → World → Prop) (M0 : Option Addr → Nat → Nat → Int → World → Nat), I0 none 0 0 0 w0 ∧
  ∀ (out0p : Option Addr) (out0l : Nat) (out0c : Nat) (i0 : Int) (w1 : World), I0 out0p out0l out0c i0 w1 →
  S_ref8_Live_l0 R b0 out0p out0l out0c i0 w1 I0 M0
def S_ref8_Live_ann : Ann := (.seq .leaf (.seq .leaf (.seq (.seq .leaf (.block (.loop [1] [(3, .slice), (4, (.int .i64))] (.seq .leaf (.seq (.jblock [1, 4] [(3, .slice)] .leaf .leaf) .leaf))))) .leaf)))
theorem S_ref8_Live_eq (t0 : Int) (t1p : Option Addr) (t1l : Nat) (t1c : Nat) (t2p : Option Addr) (t2l : Nat) (t2c : Nat) (w : World) (R : Ending → World → Prop) : X Try.prog Try.f25.ntmps (bodyOf Try.f25) S_ref8_Live_ann (argEnv 0 [.agg #[.int .i64 t0, .slice t1p t1l t1c, .slice t2p t2l t2c]]) w (fun e w' => resK Try.prog Try.f25.results.toList e w' [] fun vs => R (.returned (pack vs)) w') (fun e w' => resK Try.prog Try.f25.results.toList e w' [] fun vs => R (.returned (pack vs)) w') (fun _ _ _ => False) = S_ref8_Live t0 t1p t1l t1c t2p t2l t2c w R := by kernel_rfl
theorem S_ref8_Live_ok (t0 : Int) (t1p : Option Addr) (t1l : Nat) (t1c : Nat) (t2p : Option Addr) (t2l : Nat) (t2c : Nat) (w : World) (R : Ending → World → Prop) (h : S_ref8_Live t0 t1p t1l t1c t2p t2l t2c w R) : Calls Try.prog 25 #[.agg #[.int .i64 t0, .slice t1p t1l t1c, .slice t2p t2l t2c]] w R :=
  calls_of_X (an := S_ref8_Live_ann) wide_ok Try.func25 (by kernel_rfl) (by kernel_rfl) (by rw [S_ref8_Live_eq]; exact h)

def S_handle_Table_Slots (t0 : Option Addr) (w : World) (R : Ending → World → Prop) : Prop :=
  onSome t0 fun a0 =>
  LdS w a0 fun _ s0l _ =>
  R (.returned (.int .i64 (Nat.cast s0l : Int))) w
def S_handle_Table_Slots_ann : Ann := .leaf
theorem S_handle_Table_Slots_eq (t0 : Option Addr) (w : World) (R : Ending → World → Prop) : X Try.prog Try.f26.ntmps (bodyOf Try.f26) S_handle_Table_Slots_ann (argEnv 0 [.pointer t0]) w (fun e w' => resK Try.prog Try.f26.results.toList e w' [] fun vs => R (.returned (pack vs)) w') (fun e w' => resK Try.prog Try.f26.results.toList e w' [] fun vs => R (.returned (pack vs)) w') (fun _ _ _ => False) = S_handle_Table_Slots t0 w R := by kernel_rfl
theorem S_handle_Table_Slots_ok (t0 : Option Addr) (w : World) (R : Ending → World → Prop) (h : S_handle_Table_Slots t0 w R) : Calls Try.prog 26 #[.pointer t0] w R :=
  calls_of_X (an := S_handle_Table_Slots_ann) wide_ok Try.func26 (by kernel_rfl) (by kernel_rfl) (by rw [S_handle_Table_Slots_eq]; exact h)

def S_handle_Table_next (t0 : Option Addr) (w : World) (R : Ending → World → Prop) : Prop :=
  onSome t0 fun a0 =>
  LdI .i64 w (Addr.add a0 2) fun n0 =>
  cond (decide (n0 > 0))
  (onSome t0 fun a1 =>
  LdI .i64 w (Addr.add a1 2) fun n1 =>
  R (.returned (.int .i64 (IntKind.wrap .i64 (n1 - 1)))) w)
  (onSome t0 fun a2 =>
  LdI .i64 w (Addr.add a2 1) fun n2 =>
  R (.returned (.int .i64 n2)) w)
def S_handle_Table_next_ann : Ann := .leaf
theorem S_handle_Table_next_eq (t0 : Option Addr) (w : World) (R : Ending → World → Prop) : X Try.prog Try.f27.ntmps (bodyOf Try.f27) S_handle_Table_next_ann (argEnv 0 [.pointer t0]) w (fun e w' => resK Try.prog Try.f27.results.toList e w' [] fun vs => R (.returned (pack vs)) w') (fun e w' => resK Try.prog Try.f27.results.toList e w' [] fun vs => R (.returned (pack vs)) w') (fun _ _ _ => False) = S_handle_Table_next t0 w R := by kernel_rfl
theorem S_handle_Table_next_ok (t0 : Option Addr) (w : World) (R : Ending → World → Prop) (h : S_handle_Table_next t0 w R) : Calls Try.prog 27 #[.pointer t0] w R :=
  calls_of_X (an := S_handle_Table_next_ann) wide_ok Try.func27 (by kernel_rfl) (by kernel_rfl) (by rw [S_handle_Table_next_eq]; exact h)

def S_handle_Table_handle (t0 : Option Addr) (i0 : Int) (w : World) (R : Ending → World → Prop) : Prop :=
  onSome t0 fun a0 =>
  LdS w a0 fun s0p s0l _ =>
  IdxC s0p s0l i0 4 fun a1 =>
  LdI .u32 w a1 fun n0 =>
  R (.returned (.int .u64 (bOr .u64 (bShl .u64 (IntKind.wrap .u64 n0) 32) (IntKind.wrap .u64 (IntKind.wrap .i64 (i0 + 1)))))) w
def S_handle_Table_handle_ann : Ann := .leaf
theorem S_handle_Table_handle_eq (t0 : Option Addr) (i0 : Int) (w : World) (R : Ending → World → Prop) : X Try.prog Try.f28.ntmps (bodyOf Try.f28) S_handle_Table_handle_ann (argEnv 0 [.pointer t0, .int .i64 i0]) w (fun e w' => resK Try.prog Try.f28.results.toList e w' [] fun vs => R (.returned (pack vs)) w') (fun e w' => resK Try.prog Try.f28.results.toList e w' [] fun vs => R (.returned (pack vs)) w') (fun _ _ _ => False) = S_handle_Table_handle t0 i0 w R := by kernel_rfl
theorem S_handle_Table_handle_ok (t0 : Option Addr) (i0 : Int) (w : World) (R : Ending → World → Prop) (h : S_handle_Table_handle t0 i0 w R) : Calls Try.prog 28 #[.pointer t0, .int .i64 i0] w R :=
  calls_of_X (an := S_handle_Table_handle_ann) wide_ok Try.func28 (by kernel_rfl) (by kernel_rfl) (by rw [S_handle_Table_handle_eq]; exact h)

def S_handle_Table_find (t0 : Option Addr) (h0 : Int) (w : World) (R : Ending → World → Prop) : Prop :=
  cond (decide ((IntKind.wrap .i64 ((IntKind.wrap .i64 (bAnd .u64 h0 4294967295)) - 1)) < 0))
  (R (.returned (.tuple #[.int .i64 0, .int .i64 6])) w)
  (onSome t0 fun a0 =>
  LdS w a0 fun _ s0l _ =>
  cond (decide ((IntKind.wrap .i64 ((IntKind.wrap .i64 (bAnd .u64 h0 4294967295)) - 1)) ≥ (Nat.cast s0l : Int)))
  (R (.returned (.tuple #[.int .i64 0, .int .i64 6])) w)
  (onSome t0 fun a1 =>
  LdS w a1 fun s1p s1l _ =>
  IdxC s1p s1l (IntKind.wrap .i64 ((IntKind.wrap .i64 (bAnd .u64 h0 4294967295)) - 1)) 4 fun a2 =>
  LdB w (Addr.add a2 1) fun b0 =>
  cond (!b0)
  (R (.returned (.tuple #[.int .i64 0, .int .i64 6])) w)
  (onSome t0 fun a3 =>
  LdS w a3 fun s2p s2l _ =>
  IdxC s2p s2l (IntKind.wrap .i64 ((IntKind.wrap .i64 (bAnd .u64 h0 4294967295)) - 1)) 4 fun a4 =>
  LdI .u32 w a4 fun n0 =>
  cond ((IntKind.wrap .u64 n0) != (bShr .u64 h0 32))
  (R (.returned (.tuple #[.int .i64 0, .int .i64 6])) w)
  (R (.returned (.tuple #[.int .i64 (IntKind.wrap .i64 ((IntKind.wrap .i64 (bAnd .u64 h0 4294967295)) - 1)), .int .i64 0])) w))))
def S_handle_Table_find_ann : Ann := .leaf
theorem S_handle_Table_find_eq (t0 : Option Addr) (h0 : Int) (w : World) (R : Ending → World → Prop) : X Try.prog Try.f29.ntmps (bodyOf Try.f29) S_handle_Table_find_ann (argEnv 0 [.pointer t0, .int .u64 h0]) w (fun e w' => resK Try.prog Try.f29.results.toList e w' [] fun vs => R (.returned (pack vs)) w') (fun e w' => resK Try.prog Try.f29.results.toList e w' [] fun vs => R (.returned (pack vs)) w') (fun _ _ _ => False) = S_handle_Table_find t0 h0 w R := by kernel_rfl
theorem S_handle_Table_find_ok (t0 : Option Addr) (h0 : Int) (w : World) (R : Ending → World → Prop) (h : S_handle_Table_find t0 h0 w R) : Calls Try.prog 29 #[.pointer t0, .int .u64 h0] w R :=
  calls_of_X (an := S_handle_Table_find_ann) wide_ok Try.func29 (by kernel_rfl) (by kernel_rfl) (by rw [S_handle_Table_find_eq]; exact h)

def S_ref8_copied (t0 : Int) (t1p : Option Addr) (t1l : Nat) (t1c : Nat) (t2p : Option Addr) (t2l : Nat) (t2c : Nat) (w : World) (R : Ending → World → Prop) : Prop :=
  NewC (.cells #[.int .i64 t0, .slice t1p t1l t1c, .slice t2p t2l t2c] 49 (0, 0)) w fun b0 w0 =>
  NewC (.cells #[.int .i64 0, .slice none 0 0, .slice none 0 0] 49 (0, 0)) w0 fun b1 w1 =>
  LdS w1 (Addr.add (⟨b0, 0, none⟩) 1) fun s0p s0l s0c =>
  RunS Try.prog (Builtin.append_ #[47, 47] 47 #[.slice none 0 0, .slice s0p s0l s0c]) w1 fun s1p s1l s1c w2 =>
  StC w2 (Addr.add (⟨b0, 0, none⟩) 1) (.slice s1p s1l s1c) fun w3 =>
  LdS w3 (Addr.add (⟨b0, 0, none⟩) 2) fun s2p s2l s2c =>
  RunS Try.prog (Builtin.append_ #[38, 38] 38 #[.slice none 0 0, .slice s2p s2l s2c]) w3 fun s3p s3l s3c w4 =>
  StC w4 (Addr.add (⟨b0, 0, none⟩) 2) (.slice s3p s3l s3c) fun w5 =>
  LdI .i64 w5 (⟨b0, 0, none⟩) fun n0 =>
  LdS w5 (Addr.add (⟨b0, 0, none⟩) 1) fun s4p s4l s4c =>
  LdS w5 (Addr.add (⟨b0, 0, none⟩) 2) fun s5p s5l s5c =>
  StC w5 (⟨b1, 0, none⟩) (.int .i64 n0) fun w6 =>
  StC w6 (Addr.add (⟨b1, 0, none⟩) 1) (.slice s4p s4l s4c) fun w7 =>
  StC w7 (Addr.add (⟨b1, 0, none⟩) 2) (.slice s5p s5l s5c) fun w8 =>
  LdI .i64 w8 (⟨b1, 0, none⟩) fun n1 =>
  LdS w8 (Addr.add (⟨b1, 0, none⟩) 1) fun s6p s6l s6c =>
  LdS w8 (Addr.add (⟨b1, 0, none⟩) 2) fun s7p s7l s7c =>
  R (.returned (.agg #[.int .i64 n1, .slice s6p s6l s6c, .slice s7p s7l s7c])) w8
def S_ref8_copied_ann : Ann := .leaf
theorem S_ref8_copied_eq (t0 : Int) (t1p : Option Addr) (t1l : Nat) (t1c : Nat) (t2p : Option Addr) (t2l : Nat) (t2c : Nat) (w : World) (R : Ending → World → Prop) : X Try.prog Try.f30.ntmps (bodyOf Try.f30) S_ref8_copied_ann (argEnv 0 [.agg #[.int .i64 t0, .slice t1p t1l t1c, .slice t2p t2l t2c]]) w (fun e w' => resK Try.prog Try.f30.results.toList e w' [] fun vs => R (.returned (pack vs)) w') (fun e w' => resK Try.prog Try.f30.results.toList e w' [] fun vs => R (.returned (pack vs)) w') (fun _ _ _ => False) = S_ref8_copied t0 t1p t1l t1c t2p t2l t2c w R := by kernel_rfl
theorem S_ref8_copied_ok (t0 : Int) (t1p : Option Addr) (t1l : Nat) (t1c : Nat) (t2p : Option Addr) (t2l : Nat) (t2c : Nat) (w : World) (R : Ending → World → Prop) (h : S_ref8_copied t0 t1p t1l t1c t2p t2l t2c w R) : Calls Try.prog 30 #[.agg #[.int .i64 t0, .slice t1p t1l t1c, .slice t2p t2l t2c]] w R :=
  calls_of_X (an := S_ref8_copied_ann) wide_ok Try.func30 (by kernel_rfl) (by kernel_rfl) (by rw [S_ref8_copied_eq]; exact h)

def S_ref8_handle (t0 : Int) (t1p : Option Addr) (t1l : Nat) (t1c : Nat) (t2p : Option Addr) (t2l : Nat) (t2c : Nat) (i0 : Int) (w : World) (R : Ending → World → Prop) : Prop :=
  NewC (.cells #[.int .i64 t0, .slice t1p t1l t1c, .slice t2p t2l t2c] 49 (0, 0)) w fun b0 w0 =>
  LdS w0 (Addr.add (⟨b0, 0, none⟩) 1) fun s0p s0l _ =>
  IdxC s0p s0l i0 3 fun a0 =>
  LdI .u64 w0 a0 fun n0 =>
  R (.returned (.int .u64 (bOr .u64 (bShl .u64 n0 32) (IntKind.wrap .u64 (IntKind.wrap .i64 (i0 + 1)))))) w0
def S_ref8_handle_ann : Ann := .leaf
theorem S_ref8_handle_eq (t0 : Int) (t1p : Option Addr) (t1l : Nat) (t1c : Nat) (t2p : Option Addr) (t2l : Nat) (t2c : Nat) (i0 : Int) (w : World) (R : Ending → World → Prop) : X Try.prog Try.f31.ntmps (bodyOf Try.f31) S_ref8_handle_ann (argEnv 0 [.agg #[.int .i64 t0, .slice t1p t1l t1c, .slice t2p t2l t2c], .int .i64 i0]) w (fun e w' => resK Try.prog Try.f31.results.toList e w' [] fun vs => R (.returned (pack vs)) w') (fun e w' => resK Try.prog Try.f31.results.toList e w' [] fun vs => R (.returned (pack vs)) w') (fun _ _ _ => False) = S_ref8_handle t0 t1p t1l t1c t2p t2l t2c i0 w R := by kernel_rfl
theorem S_ref8_handle_ok (t0 : Int) (t1p : Option Addr) (t1l : Nat) (t1c : Nat) (t2p : Option Addr) (t2l : Nat) (t2c : Nat) (i0 : Int) (w : World) (R : Ending → World → Prop) (h : S_ref8_handle t0 t1p t1l t1c t2p t2l t2c i0 w R) : Calls Try.prog 31 #[.agg #[.int .i64 t0, .slice t1p t1l t1c, .slice t2p t2l t2c], .int .i64 i0] w R :=
  calls_of_X (an := S_ref8_handle_ann) wide_ok Try.func31 (by kernel_rfl) (by kernel_rfl) (by rw [S_ref8_handle_eq]; exact h)

def S_ref8_find (t0 : Int) (t1p : Option Addr) (t1l : Nat) (t1c : Nat) (t2p : Option Addr) (t2l : Nat) (t2c : Nat) (h0 : Int) (w : World) (R : Ending → World → Prop) : Prop :=
  NewC (.cells #[.int .i64 t0, .slice t1p t1l t1c, .slice t2p t2l t2c] 49 (0, 0)) w fun b0 w0 =>
  cond (decide ((IntKind.wrap .i64 ((IntKind.wrap .i64 (bAnd .u64 h0 4294967295)) - 1)) < 0))
  (R (.returned (.int .i64 (-1))) w0)
  (LdS w0 (Addr.add (⟨b0, 0, none⟩) 1) fun _ s0l _ =>
  cond (decide ((IntKind.wrap .i64 ((IntKind.wrap .i64 (bAnd .u64 h0 4294967295)) - 1)) ≥ (Nat.cast s0l : Int)))
  (R (.returned (.int .i64 (-1))) w0)
  (LdS w0 (Addr.add (⟨b0, 0, none⟩) 1) fun s1p s1l _ =>
  IdxC s1p s1l (IntKind.wrap .i64 ((IntKind.wrap .i64 (bAnd .u64 h0 4294967295)) - 1)) 3 fun a0 =>
  LdB w0 (Addr.add a0 2) fun b1 =>
  cond (!b1)
  (R (.returned (.int .i64 (-1))) w0)
  (LdS w0 (Addr.add (⟨b0, 0, none⟩) 1) fun s2p s2l _ =>
  IdxC s2p s2l (IntKind.wrap .i64 ((IntKind.wrap .i64 (bAnd .u64 h0 4294967295)) - 1)) 3 fun a1 =>
  LdI .u64 w0 a1 fun n0 =>
  cond (n0 != (bShr .u64 h0 32))
  (R (.returned (.int .i64 (-1))) w0)
  (R (.returned (.int .i64 (IntKind.wrap .i64 ((IntKind.wrap .i64 (bAnd .u64 h0 4294967295)) - 1)))) w0))))
def S_ref8_find_ann : Ann := .leaf
theorem S_ref8_find_eq (t0 : Int) (t1p : Option Addr) (t1l : Nat) (t1c : Nat) (t2p : Option Addr) (t2l : Nat) (t2c : Nat) (h0 : Int) (w : World) (R : Ending → World → Prop) : X Try.prog Try.f32.ntmps (bodyOf Try.f32) S_ref8_find_ann (argEnv 0 [.agg #[.int .i64 t0, .slice t1p t1l t1c, .slice t2p t2l t2c], .int .u64 h0]) w (fun e w' => resK Try.prog Try.f32.results.toList e w' [] fun vs => R (.returned (pack vs)) w') (fun e w' => resK Try.prog Try.f32.results.toList e w' [] fun vs => R (.returned (pack vs)) w') (fun _ _ _ => False) = S_ref8_find t0 t1p t1l t1c t2p t2l t2c h0 w R := by kernel_rfl
theorem S_ref8_find_ok (t0 : Int) (t1p : Option Addr) (t1l : Nat) (t1c : Nat) (t2p : Option Addr) (t2l : Nat) (t2c : Nat) (h0 : Int) (w : World) (R : Ending → World → Prop) (h : S_ref8_find t0 t1p t1l t1c t2p t2l t2c h0 w R) : Calls Try.prog 32 #[.agg #[.int .i64 t0, .slice t1p t1l t1c, .slice t2p t2l t2c], .int .u64 h0] w R :=
  calls_of_X (an := S_ref8_find_ann) wide_ok Try.func32 (by kernel_rfl) (by kernel_rfl) (by rw [S_ref8_find_eq]; exact h)

end Go.Proofs.Ytakcnpmmkpfhnaa
