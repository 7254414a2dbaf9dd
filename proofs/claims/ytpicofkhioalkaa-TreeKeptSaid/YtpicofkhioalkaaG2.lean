/- The second reading of functions of this seat's program, written out by a program (gen.py). -/
import Derived.Test.YtpicofkhioalkaaG3
import Derived.KernelRfl
namespace Go.Proofs.Ytpicofkhioalkaa
open Go Go.Lw

def S_law13_TreeKept_l0 (R : Ending → World → Prop) (k0 : Option Addr → Nat → Nat → World → Prop) (r8p : Option Addr) (r8l : Nat) (r8c : Nat) (r14 : Int) (r15p : Option Addr) (r15l : Nat) (r18 : Int) (j2 : Int) (w25 : World) (I3 : Int → World → Prop) (M3 : Int → World → Nat) : Prop :=
  cond (decide (j2 < (Nat.cast r15l : Int)))
  (IdxC r15p r15l j2 1 fun a15 =>
  StC w25 a15 (.int .u8 97) fun w26 =>
  I3 (IntKind.wrap .i64 (j2 + 1)) w26 ∧ M3 (IntKind.wrap .i64 (j2 + 1)) w26 < M3 j2 w25)
  (cond (r14 != 0)
  (R (.returned (.bool false)) w25)
  (cond (r18 != 0)
  (R (.returned (.bool false)) w25)
  (k0 r8p r8l r8c w25)))
def S_law13_TreeKept_l1 (R : Ending → World → Prop) (r1 : Option Addr) (r2p : Option Addr) (r2l : Nat) (k0 : Option Addr → Nat → Nat → World → Prop) (r8p : Option Addr) (r8l : Nat) (r8c : Nat) (r11p : Option Addr) (r11l : Nat) (r11c : Nat) (r14 : Int) (j1 : Int) (w20 : World) (I2 : Int → World → Prop) (M2 : Int → World → Nat) : Prop :=
  cond (decide (j1 < (Nat.cast r11l : Int)))
  (IdxC r11p r11l j1 1 fun a13 =>
  StC w20 a13 (.int .u8 99) fun w21 =>
  I2 (IntKind.wrap .i64 (j1 + 1)) w21 ∧ M2 (IntKind.wrap .i64 (j1 + 1)) w21 < M2 j1 w20)
  (NewC (.cells #[.int .u8 98] 5 (0, 0)) w20 fun b5 w22 =>
  RunS Try.prog (Builtin.append_ #[29, 29] 29 #[.slice r11p r11l r11c, .slice (some (⟨b5, 0, none⟩)) 1 1]) w22 fun _ _ _ w23 =>
  IdxC r2p r2l 0 1 fun a14 =>
  LdI .u64 w23 a14 fun n6 =>
  Calls Try.prog 9 #[.pointer r1, .int .u64 n6, .slice none 0 0] w23 fun e5 w24 =>
  ∃ (r15p : Option Addr), ∃ (r15l : Nat), ∃ (r15c : Nat), ∃ (r16 : Int), ∃ (r17 : Bool), ∃ (r18 : Int), e5 = .returned (.tuple #[.slice r15p r15l r15c, .int .u64 r16, .bool r17, .int .i64 r18]) ∧
  ∃ (I3 : Int → World → Prop) (M3 : Int → World → Nat), I3 0 w24 ∧
  ∀ (j2 : Int) (w25 : World), I3 j2 w25 →
  S_law13_TreeKept_l0 R k0 r8p r8l r8c r14 r15p r15l r18 j2 w25 I3 M3)
def S_law13_TreeKept_l2 (l0p : Option Addr) (l0l : Nat) (R : Ending → World → Prop) (r1 : Option Addr) (r2p : Option Addr) (r2l : Nat) (i0 : Int) (k0 : Option Addr → Nat → Nat → World → Prop) (k2p : Option Addr) (k2l : Nat) (r8p : Option Addr) (r8l : Nat) (r8c : Nat) (j0 : Int) (w17 : World) (I1 : Int → World → Prop) (M1 : Int → World → Nat) : Prop :=
  cond (decide (j0 < (Nat.cast k2l : Int)))
  (IdxC k2p k2l j0 1 fun a9 =>
  LdI .u8 w17 a9 fun n4 =>
  IdxC k2p k2l j0 1 fun a10 =>
  StC w17 a10 (.int .u8 (bXor .u8 n4 255)) fun w18 =>
  I1 (IntKind.wrap .i64 (j0 + 1)) w18 ∧ M1 (IntKind.wrap .i64 (j0 + 1)) w18 < M1 j0 w17)
  (∃ C3 : World → Prop, C3 (World.drew w17) ∧
  IdxC r2p r2l 0 1 fun a11 =>
  LdIQ .u64 C3 a11 fun n5 =>
  IdxC l0p l0l i0 4 fun a12 =>
  LdSQ C3 (Addr.add a12 3) fun s15p s15l s15c =>
  Calls Try.prog 8 #[.pointer r1, .int .u64 n5, .slice s15p s15l s15c] (World.drew w17) fun e4 w19 =>
  ∃ (r11p : Option Addr), ∃ (r11l : Nat), ∃ (r11c : Nat), ∃ (r12 : Int), ∃ (r13 : Bool), ∃ (r14 : Int), e4 = .returned (.tuple #[.slice r11p r11l r11c, .int .u64 r12, .bool r13, .int .i64 r14]) ∧
  ∃ (I2 : Int → World → Prop) (M2 : Int → World → Nat), I2 0 w19 ∧
  ∀ (j1 : Int) (w20 : World), I2 j1 w20 →
  S_law13_TreeKept_l1 R r1 r2p r2l k0 r8p r8l r8c r11p r11l r11c r14 j1 w20 I2 M2)
def S_law13_TreeKept_j0 (l0p : Option Addr) (l0l : Nat) (R : Ending → World → Prop) (r1 : Option Addr) (r2p : Option Addr) (r2l : Nat) (r3p : Option Addr) (r3l : Nat) (list0p : Option Addr) (list0l : Nat) (list0c : Nat) (i0 : Int) (k0 : Option Addr → Nat → Nat → World → Prop) (k2p : Option Addr) (k2l : Nat) (k2c : Nat) (w14 : World) : Prop :=
  ∃ C1 : World → Prop, C1 (World.drew w14) ∧
  IdxC r2p r2l 0 1 fun a3 =>
  LdIQ .u64 C1 a3 fun n0 =>
  DivC 5
  (IdxC r3p r3l (Int.tmod i0 5) 1 fun a4 =>
  LdIQ .u64 C1 a4 fun n1 =>
  Calls Try.prog 6 #[.pointer r1, .int .u64 n0, .slice k2p k2l k2c, .int .u64 n1] (World.drew w14) fun e2 w15 =>
  ∃ (r5 : Int), ∃ (r6 : Bool), ∃ (r7 : Int), e2 = .returned (.tuple #[.int .u64 r5, .bool r6, .int .i64 r7]) ∧
  cond (r7 != 0)
  (R (.returned (.bool false)) (World.drew w15))
  (RunStr Try.prog (convert 29 9 (.slice k2p k2l k2c)) (World.drew w15) fun t0 =>
  IdxC l0p l0l i0 4 fun a5 =>
  LdS (World.drew w15) (Addr.add a5 3) fun s12p s12l s12c =>
  RunStr Try.prog (convert 29 9 (.slice s12p s12l s12c)) (World.drew w15) fun t1 =>
  cond (!(t0.toList == t1.toList))
  (R (.returned (.bool false)) (World.drew w15))
  (SlC k2p k2c 0 (IntKind.wrap .i64 ((Nat.cast k2l : Int) + 1)) (Nat.cast k2c : Int) 1 fun s13p s13l _ =>
  IdxC s13p s13l (Nat.cast k2l : Int) 1 fun a6 =>
  LdI .u8 (World.drew w15) a6 fun n2 =>
  cond (n2 != 201)
  (R (.returned (.bool false)) (World.drew w15))
  (∃ C2 : World → Prop, C2 (World.drew (World.drew w15)) ∧
  IdxC l0p l0l i0 4 fun a7 =>
  LdSQ C2 (Addr.add a7 3) fun s14p s14l s14c =>
  RunStrQ Try.prog C2 (convert 29 9 (.slice s14p s14l s14c)) fun t2 =>
  DivC 5
  (IdxC r3p r3l (Int.tmod i0 5) 1 fun a8 =>
  LdIQ .u64 C2 a8 fun n3 =>
  Calls Try.prog 7 #[.slice list0p list0l list0c, .string t2, .int .u64 n3] (World.drew (World.drew w15)) fun e3 w16 =>
  ∃ (r8p : Option Addr), ∃ (r8l : Nat), ∃ (r8c : Nat), ∃ (r9 : Int), ∃ (r10 : Bool), e3 = .returned (.tuple #[.slice r8p r8l r8c, .int .u64 r9, .bool r10]) ∧
  C2 w16 ∧
  ∃ (I1 : Int → World → Prop) (M1 : Int → World → Nat), I1 0 w16 ∧
  ∀ (j0 : Int) (w17 : World), I1 j0 w17 →
  S_law13_TreeKept_l2 l0p l0l R r1 r2p r2l i0 k0 k2p k2l r8p r8l r8c j0 w17 I1 M1)))))
def S_law13_TreeKept_j1 (list0p : Option Addr) (list0l : Nat) (list0c : Nat) (i0 : Int) (w2 : World) (I0 : Option Addr → Nat → Nat → Int → World → Prop) (M0 : Option Addr → Nat → Nat → Int → World → Nat) (list1p : Option Addr) (list1l : Nat) (list1c : Nat) (w27 : World) : Prop :=
  I0 list1p list1l list1c (IntKind.wrap .i64 (i0 + 1)) w27 ∧ M0 list1p list1l list1c (IntKind.wrap .i64 (i0 + 1)) w27 < M0 list0p list0l list0c i0 w2
def S_law13_TreeKept_l3 (l0p : Option Addr) (l0l : Nat) (R : Ending → World → Prop) (r1 : Option Addr) (r2p : Option Addr) (r2l : Nat) (r3p : Option Addr) (r3l : Nat) (list0p : Option Addr) (list0l : Nat) (list0c : Nat) (i0 : Int) (w2 : World) (I0 : Option Addr → Nat → Nat → Int → World → Prop) (M0 : Option Addr → Nat → Nat → Int → World → Nat) : Prop :=
  cond (decide (i0 < (Nat.cast l0l : Int)))
  (∀ k0 : Option Addr → Nat → Nat → World → Prop,
  (∀ (list1p : Option Addr) (list1l : Nat) (list1c : Nat) (w27 : World), S_law13_TreeKept_j1 list0p list0l list0c i0 w2 I0 M0 list1p list1l list1c w27 → k0 list1p list1l list1c w27) →
  IdxC l0p l0l i0 4 fun a0 =>
  LdS w2 (Addr.add a0 3) fun _ s0l _ =>
  cond (decide ((Nat.cast s0l : Int) > 200))
  (k0 list0p list0l list0c w2)
  (∀ k1 : Option Addr → Nat → Nat → World → Prop,
  (∀ (k2p : Option Addr) (k2l : Nat) (k2c : Nat) (w14 : World), S_law13_TreeKept_j0 l0p l0l R r1 r2p r2l r3p r3l list0p list0l list0c i0 k0 k2p k2l k2c w14 → k1 k2p k2l k2c w14) →
  ∃ C0 : World → Prop, C0 (World.drew w2) ∧
  IdxC l0p l0l i0 4 fun a1 =>
  LdSQ C0 (Addr.add a1 3) fun s1p s1l s1c =>
  IdxC l0p l0l i0 4 fun a2 =>
  LdSQ C0 (Addr.add a2 3) fun _ s2l _ =>
  (NewC (.cells #[] 5 (0, 0)) (World.drew w2) fun b0 w3 =>
  C0 w3 ∧
  (RunS Try.prog (Builtin.append_ #[29, 29] 29 #[.slice (some (⟨b0, 0, none⟩)) 0 0, .slice s1p s1l s1c]) w3 fun s3p s3l s3c w4 =>
  C0 w4 ∧
  NewC (.cells #[.int .u8 201] 5 (0, 0)) w4 fun b1 w5 =>
  C0 w5 ∧
  RunS Try.prog (Builtin.append_ #[29, 29] 29 #[.slice s3p s3l s3c, .slice (some (⟨b1, 0, none⟩)) 1 1]) w5 fun s4p _ s4c w6 =>
  C0 w6 ∧
  SlC s4p s4c 0 (Nat.cast s2l : Int) (Nat.cast s4c : Int) 1 fun s5p s5l s5c =>
  k1 s5p s5l s5c w6) ∧
  (NewC (.cells #[.int .u8 201] 5 (0, 0)) w3 fun b2 w7 =>
  C0 w7 ∧
  RunS Try.prog (Builtin.append_ #[29, 29] 29 #[.slice (some (⟨b0, 0, none⟩)) 0 0, .slice s1p s1l s1c]) w7 fun s6p s6l s6c w8 =>
  C0 w8 ∧
  RunS Try.prog (Builtin.append_ #[29, 29] 29 #[.slice s6p s6l s6c, .slice (some (⟨b2, 0, none⟩)) 1 1]) w8 fun s7p _ s7c w9 =>
  C0 w9 ∧
  SlC s7p s7c 0 (Nat.cast s2l : Int) (Nat.cast s7c : Int) 1 fun s8p s8l s8c =>
  k1 s8p s8l s8c w9)) ∧
  (NewC (.cells #[.int .u8 201] 5 (0, 0)) (World.drew w2) fun b3 w10 =>
  C0 w10 ∧
  NewC (.cells #[] 5 (0, 0)) w10 fun b4 w11 =>
  C0 w11 ∧
  RunS Try.prog (Builtin.append_ #[29, 29] 29 #[.slice (some (⟨b4, 0, none⟩)) 0 0, .slice s1p s1l s1c]) w11 fun s9p s9l s9c w12 =>
  C0 w12 ∧
  RunS Try.prog (Builtin.append_ #[29, 29] 29 #[.slice s9p s9l s9c, .slice (some (⟨b3, 0, none⟩)) 1 1]) w12 fun s10p _ s10c w13 =>
  C0 w13 ∧
  SlC s10p s10c 0 (Nat.cast s2l : Int) (Nat.cast s10c : Int) 1 fun s11p s11l s11c =>
  k1 s11p s11l s11c w13)))
  (IdxC r2p r2l 0 1 fun a16 =>
  LdI .u64 w2 a16 fun n7 =>
  Calls Try.prog 10 #[.pointer r1, .int .u64 n7, .slice list0p list0l list0c] w2 fun e6 w28 =>
  ∃ (r19 : Bool), e6 = .returned (.bool r19) ∧
  R (.returned (.bool r19)) w28)
def S_law13_TreeKept (l0p : Option Addr) (l0l : Nat) (l0c : Nat) (w : World) (R : Ending → World → Prop) : Prop :=
  Calls Try.prog 4 #[] w fun e0 w0 =>
  ∃ (r0 : Bool), e0 = .returned (.bool r0) ∧
  cond (!r0)
  (R (.returned (.bool false)) w0)
  (cond (decide ((Nat.cast l0l : Int) > 200))
  (R (.returned (.bool true)) w0)
  (Calls Try.prog 5 #[.int .i64 262144, .int .i64 65536, .int .i64 1] w0 fun e1 w1 =>
  ∃ (r1 : Option Addr), ∃ (r2p : Option Addr), ∃ (r2l : Nat), ∃ (r2c : Nat), ∃ (r3p : Option Addr), ∃ (r3l : Nat), ∃ (r3c : Nat), ∃ (r4 : Bool), e1 = .returned (.tuple #[.pointer r1, .slice r2p r2l r2c, .slice r3p r3l r3c, .bool r4]) ∧
  cond (!r4)
  (R (.returned (.bool false)) w1)
  (∃ (I0 : Option Addr → Nat → Nat → Int → World → Prop) (M0 : Option Addr → Nat → Nat → Int → World → Nat), I0 none 0 0 0 w1 ∧
  ∀ (list0p : Option Addr) (list0l : Nat) (list0c : Nat) (i0 : Int) (w2 : World), I0 list0p list0l list0c i0 w2 →
  S_law13_TreeKept_l3 l0p l0l R r1 r2p r2l r3p r3l list0p list0l list0c i0 w2 I0 M0)))
def S_law13_TreeKept_ann : Ann := (.seq .leaf (.seq .leaf (.seq .leaf (.seq .leaf (.seq .leaf (.seq .leaf (.seq (.seq .leaf (.block (.loop [0, 3, 4, 5] [(7, .slice), (8, (.int .i64))] (.seq .leaf (.seq (.jblock [0, 3, 4, 5, 8] [(7, .slice)] (.seq .leaf (.join [0, 3, 4, 5, 7, 8] [(9, .slice)] .anyl (.seq .anyl (.seq (.seq (.draw 25) .leaf) (.seq .anyl (.seq (.seq .leaf (.block (.loop [0, 3, 4, 5, 7, 8, 9] [(13, (.int .i64))] .leaf))) (.seq .anyl (.seq (.seq .leaf (.block (.loop [0, 3, 4, 5, 7, 8, 14, 17] [(18, (.int .i64))] .leaf))) (.seq .leaf (.seq .leaf (.seq (.seq .leaf (.block (.loop [0, 3, 4, 5, 7, 8, 17, 19, 22] [(23, (.int .i64))] .leaf))) .leaf))))))))))) .leaf) .leaf))))) .leaf)))))))
theorem S_law13_TreeKept_eq (l0p : Option Addr) (l0l : Nat) (l0c : Nat) (w : World) (R : Ending → World → Prop) : X Try.prog Try.f3.ntmps (bodyOf Try.f3) S_law13_TreeKept_ann (argEnv 0 [.slice l0p l0l l0c]) w (fun e w' => resK Try.prog Try.f3.results.toList e w' [] fun vs => R (.returned (pack vs)) w') (fun e w' => resK Try.prog Try.f3.results.toList e w' [] fun vs => R (.returned (pack vs)) w') (fun _ _ _ => False) = S_law13_TreeKept l0p l0l l0c w R := by kernel_rfl
theorem S_law13_TreeKept_ok (l0p : Option Addr) (l0l : Nat) (l0c : Nat) (w : World) (R : Ending → World → Prop) (h : S_law13_TreeKept l0p l0l l0c w R) : Calls Try.prog 3 #[.slice l0p l0l l0c] w R :=
  calls_of_X (an := S_law13_TreeKept_ann) wide_ok Try.func3 (by kernel_rfl) (by kernel_rfl) (by rw [S_law13_TreeKept_eq]; exact h)

def S_law13_awake (w : World) (R : Ending → World → Prop) : Prop :=
  Calls Try.prog 5 #[.int .i64 4000, .int .i64 400, .int .i64 1] w fun e0 w0 =>
  ∃ (r0 : Option Addr), ∃ (r1p : Option Addr), ∃ (r1l : Nat), ∃ (r1c : Nat), ∃ (r2p : Option Addr), ∃ (r2l : Nat), ∃ (r2c : Nat), ∃ (r3 : Bool), e0 = .returned (.tuple #[.pointer r0, .slice r1p r1l r1c, .slice r2p r2l r2c, .bool r3]) ∧
  cond (!r3)
  (R (.returned (.bool false)) w0)
  (∃ C0 : World → Prop, C0 (World.drew w0) ∧
  IdxC r1p r1l 0 1 fun a0 =>
  LdIQ .u64 C0 a0 fun n0 =>
  IdxC r2p r2l 1 1 fun a1 =>
  LdIQ .u64 C0 a1 fun n1 =>
  NewC (.cells #[.int .u8 98] 5 (0, 0)) (World.drew w0) fun b0 w1 =>
  C0 w1 ∧
  RunS Try.prog (convert 29 29 (.slice (some (⟨b0, 0, none⟩)) 1 1)) w1 fun s0p s0l s0c w2 =>
  C0 w2 ∧
  Calls Try.prog 6 #[.pointer r0, .int .u64 n0, .slice s0p s0l s0c, .int .u64 n1] w2 fun e1 w3 =>
  ∃ (r4 : Int), ∃ (r5 : Bool), ∃ (r6 : Int), e1 = .returned (.tuple #[.int .u64 r4, .bool r5, .int .i64 r6]) ∧
  IdxC r1p r1l 0 1 fun a2 =>
  LdI .u64 w3 a2 fun n2 =>
  NewC (.cells #[.int .u8 98] 5 (0, 0)) w3 fun b1 w4 =>
  RunS Try.prog (convert 29 29 (.slice (some (⟨b1, 0, none⟩)) 1 1)) w4 fun s1p s1l s1c w5 =>
  Calls Try.prog 11 #[.pointer r0, .int .u64 n2, .slice s1p s1l s1c] w5 fun e2 w6 =>
  ∃ (r7 : Int), ∃ (r8 : Bool), ∃ (r9 : Int), e2 = .returned (.tuple #[.int .u64 r7, .bool r8, .int .i64 r9]) ∧
  cond (r6 == 0)
  (cond (!r5)
  (cond (r9 == 0)
  (cond r8
  (IdxC r2p r2l 1 1 fun a3 =>
  LdI .u64 w6 a3 fun n3 =>
  R (.returned (.bool (r7 == n3))) w6)
  (R (.returned (.bool false)) w6))
  (R (.returned (.bool false)) w6))
  (R (.returned (.bool false)) w6))
  (R (.returned (.bool false)) w6))
def S_law13_awake_ann : Ann := (.seq .leaf (.seq .leaf (.seq .leaf (.seq .anyl .leaf))))
theorem S_law13_awake_eq (w : World) (R : Ending → World → Prop) : X Try.prog Try.f4.ntmps (bodyOf Try.f4) S_law13_awake_ann (argEnv 0 []) w (fun e w' => resK Try.prog Try.f4.results.toList e w' [] fun vs => R (.returned (pack vs)) w') (fun e w' => resK Try.prog Try.f4.results.toList e w' [] fun vs => R (.returned (pack vs)) w') (fun _ _ _ => False) = S_law13_awake w R := by kernel_rfl
theorem S_law13_awake_ok (w : World) (R : Ending → World → Prop) (h : S_law13_awake w R) : Calls Try.prog 4 #[] w R :=
  calls_of_X (an := S_law13_awake_ann) wide_ok Try.func4 (by kernel_rfl) (by kernel_rfl) (by rw [S_law13_awake_eq]; exact h)

def S_law13_ground_l0 (R : Ending → World → Prop) (r0 : Option Addr) (l0p : Option Addr) (l0l : Nat) (l0c : Nat) (r4 : Int) (x0p : Option Addr) (x0l : Nat) (x0c : Nat) (i1 : Int) (w8 : World) (I1 : Option Addr → Nat → Nat → Int → World → Prop) (M1 : Option Addr → Nat → Nat → Int → World → Nat) : Prop :=
  cond (decide (i1 < 5))
  (Calls Try.prog 15 #[.pointer r0, .int .i64 8, .int .i64 0, .int .i64 1] w8 fun e5 w9 =>
  ∃ (r7 : Int), ∃ (r8 : Int), e5 = .returned (.tuple #[.int .u64 r7, .int .i64 r8]) ∧
  cond (r8 != 0)
  (R (.returned (.tuple #[.pointer none, .slice none 0 0, .slice none 0 0, .bool false])) w9)
  (Calls Try.prog 16 #[.pointer r0, .int .u64 r4, .int .i64 i1, .int .u64 r7] w9 fun e6 w10 =>
  ∃ (r9 : Int), e6 = .returned (.int .i64 r9) ∧
  cond (r9 != 0)
  (R (.returned (.tuple #[.pointer none, .slice none 0 0, .slice none 0 0, .bool false])) w10)
  (Calls Try.prog 17 #[.pointer r0, .int .u64 r7, .int .i64 0, .int .u64 (IntKind.wrap .u64 i1)] w10 fun e7 w11 =>
  ∃ (r10 : Int), e7 = .returned (.int .i64 r10) ∧
  cond (r10 != 0)
  (R (.returned (.tuple #[.pointer none, .slice none 0 0, .slice none 0 0, .bool false])) w11)
  (NewC (.cells #[.int .u64 r7] 32 (0, 0)) w11 fun b1 w12 =>
  RunS Try.prog (Builtin.append_ #[25, 25] 25 #[.slice x0p x0l x0c, .slice (some (⟨b1, 0, none⟩)) 1 1]) w12 fun s1p s1l s1c w13 =>
  I1 s1p s1l s1c (IntKind.wrap .i64 (i1 + 1)) w13 ∧ M1 s1p s1l s1c (IntKind.wrap .i64 (i1 + 1)) w13 < M1 x0p x0l x0c i1 w8))))
  (R (.returned (.tuple #[.pointer r0, .slice l0p l0l l0c, .slice x0p x0l x0c, .bool true])) w8)
def S_law13_ground_l1 (trees0 : Int) (R : Ending → World → Prop) (r0 : Option Addr) (l0p : Option Addr) (l0l : Nat) (l0c : Nat) (i0 : Int) (w1 : World) (I0 : Option Addr → Nat → Nat → Int → World → Prop) (M0 : Option Addr → Nat → Nat → Int → World → Nat) : Prop :=
  cond (decide (i0 < trees0))
  (Calls Try.prog 13 #[.pointer r0] w1 fun e1 w2 =>
  ∃ (r1 : Int), ∃ (r2 : Int), e1 = .returned (.tuple #[.int .u64 r1, .int .i64 r2]) ∧
  cond (r2 != 0)
  (R (.returned (.tuple #[.pointer none, .slice none 0 0, .slice none 0 0, .bool false])) w2)
  (Calls Try.prog 14 #[.pointer r0, .int .i64 i0, .int .u64 r1] w2 fun e2 w3 =>
  ∃ (r3 : Int), e2 = .returned (.int .i64 r3) ∧
  cond (r3 != 0)
  (R (.returned (.tuple #[.pointer none, .slice none 0 0, .slice none 0 0, .bool false])) w3)
  (NewC (.cells #[.int .u64 r1] 32 (0, 0)) w3 fun b0 w4 =>
  RunS Try.prog (Builtin.append_ #[25, 25] 25 #[.slice l0p l0l l0c, .slice (some (⟨b0, 0, none⟩)) 1 1]) w4 fun s0p s0l s0c w5 =>
  I0 s0p s0l s0c (IntKind.wrap .i64 (i0 + 1)) w5 ∧ M0 s0p s0l s0c (IntKind.wrap .i64 (i0 + 1)) w5 < M0 l0p l0l l0c i0 w1)))
  (Calls Try.prog 15 #[.pointer r0, .int .i64 9, .int .i64 5, .int .i64 5] w1 fun e3 w6 =>
  ∃ (r4 : Int), ∃ (r5 : Int), e3 = .returned (.tuple #[.int .u64 r4, .int .i64 r5]) ∧
  cond (r5 != 0)
  (R (.returned (.tuple #[.pointer none, .slice none 0 0, .slice none 0 0, .bool false])) w6)
  (Calls Try.prog 14 #[.pointer r0, .int .i64 9, .int .u64 r4] w6 fun e4 w7 =>
  ∃ (r6 : Int), e4 = .returned (.int .i64 r6) ∧
  cond (r6 != 0)
  (R (.returned (.tuple #[.pointer none, .slice none 0 0, .slice none 0 0, .bool false])) w7)
  (∃ (I1 : Option Addr → Nat → Nat → Int → World → Prop) (M1 : Option Addr → Nat → Nat → Int → World → Nat), I1 none 0 0 0 w7 ∧
  ∀ (x0p : Option Addr) (x0l : Nat) (x0c : Nat) (i1 : Int) (w8 : World), I1 x0p x0l x0c i1 w8 →
  S_law13_ground_l0 R r0 l0p l0l l0c r4 x0p x0l x0c i1 w8 I1 M1)))
def S_law13_ground (words0 : Int) (slots0 : Int) (trees0 : Int) (w : World) (R : Ending → World → Prop) : Prop :=
  Calls Try.prog 12 #[.int .i64 words0, .int .i64 slots0] w fun e0 w0 =>
  ∃ (r0 : Option Addr), e0 = .returned (.pointer r0) ∧
  cond r0.isNone
  (R (.returned (.tuple #[.pointer none, .slice none 0 0, .slice none 0 0, .bool false])) w0)
  (∃ (I0 : Option Addr → Nat → Nat → Int → World → Prop) (M0 : Option Addr → Nat → Nat → Int → World → Nat), I0 none 0 0 0 w0 ∧
  ∀ (l0p : Option Addr) (l0l : Nat) (l0c : Nat) (i0 : Int) (w1 : World), I0 l0p l0l l0c i0 w1 →
  S_law13_ground_l1 trees0 R r0 l0p l0l l0c i0 w1 I0 M0)
def S_law13_ground_ann : Ann := (.seq .leaf (.seq .leaf (.seq .leaf (.seq .leaf (.seq (.seq .leaf (.block (.loop [2, 10] [(11, .slice), (12, (.int .i64))] .leaf))) (.seq .leaf (.seq .leaf (.seq .leaf (.seq (.seq .leaf (.block (.loop [10, 11, 15] [(17, .slice), (18, (.int .i64))] .leaf))) .leaf)))))))))
theorem S_law13_ground_eq (words0 : Int) (slots0 : Int) (trees0 : Int) (w : World) (R : Ending → World → Prop) : X Try.prog Try.f5.ntmps (bodyOf Try.f5) S_law13_ground_ann (argEnv 0 [.int .i64 words0, .int .i64 slots0, .int .i64 trees0]) w (fun e w' => resK Try.prog Try.f5.results.toList e w' [] fun vs => R (.returned (pack vs)) w') (fun e w' => resK Try.prog Try.f5.results.toList e w' [] fun vs => R (.returned (pack vs)) w') (fun _ _ _ => False) = S_law13_ground words0 slots0 trees0 w R := by kernel_rfl
theorem S_law13_ground_ok (words0 : Int) (slots0 : Int) (trees0 : Int) (w : World) (R : Ending → World → Prop) (h : S_law13_ground words0 slots0 trees0 w R) : Calls Try.prog 5 #[.int .i64 words0, .int .i64 slots0, .int .i64 trees0] w R :=
  calls_of_X (an := S_law13_ground_ann) wide_ok Try.func5 (by kernel_rfl) (by kernel_rfl) (by rw [S_law13_ground_eq]; exact h)

def S_law13_put_j0 (at0 : Int) (i0 : Int) (w1 : World) (I0 : Int → Int → World → Prop) (M0 : Int → Int → World → Nat) (at1 : Int) (w2 : World) : Prop :=
  I0 at1 (IntKind.wrap .i64 (i0 + 1)) w2 ∧ M0 at1 (IntKind.wrap .i64 (i0 + 1)) w2 < M0 at0 i0 w1
def S_law13_put_l0 (k0 : ByteArray) (x0 : Int) (R : Ending → World → Prop) (r0p : Option Addr) (r0l : Nat) (r0c : Nat) (r1 : Int) (r2 : Bool) (at0 : Int) (i0 : Int) (w1 : World) (I0 : Int → Int → World → Prop) (M0 : Int → Int → World → Nat) : Prop :=
  cond (decide (i0 < (Nat.cast r0l : Int)))
  (∀ k1 : Int → World → Prop,
  (∀ (at1 : Int) (w2 : World), S_law13_put_j0 at0 i0 w1 I0 M0 at1 w2 → k1 at1 w2) →
  IdxC r0p r0l i0 2 fun a0 =>
  LdStr w1 a0 fun t0 =>
  cond (Op.bytesLess t0.toList k0.toList)
  (k1 (IntKind.wrap .i64 (i0 + 1)) w1)
  (k1 at0 w1))
  (SlC r0p r0c 0 at0 (Nat.cast r0c : Int) 2 fun s0p s0l s0c =>
  RunS Try.prog (Builtin.append_ #[28, 28] 28 #[.slice none 0 0, .slice s0p s0l s0c]) w1 fun s1p s1l s1c w3 =>
  NewC (.cells #[.string k0, .int .u64 x0] 66 (0, 0)) w3 fun b0 w4 =>
  RunS Try.prog (Builtin.append_ #[28, 28] 28 #[.slice s1p s1l s1c, .slice (some (⟨b0, 0, none⟩)) 1 1]) w4 fun s2p s2l s2c w5 =>
  SlC r0p r0c at0 (Nat.cast r0l : Int) (Nat.cast r0c : Int) 2 fun s3p s3l s3c =>
  RunS Try.prog (Builtin.append_ #[28, 28] 28 #[.slice s2p s2l s2c, .slice s3p s3l s3c]) w5 fun s4p s4l s4c w6 =>
  R (.returned (.tuple #[.slice s4p s4l s4c, .int .u64 r1, .bool r2])) w6)
def S_law13_put (l0p : Option Addr) (l0l : Nat) (l0c : Nat) (k0 : ByteArray) (x0 : Int) (w : World) (R : Ending → World → Prop) : Prop :=
  Calls Try.prog 27 #[.slice l0p l0l l0c, .string k0] w fun e0 w0 =>
  ∃ (r0p : Option Addr), ∃ (r0l : Nat), ∃ (r0c : Nat), ∃ (r1 : Int), ∃ (r2 : Bool), e0 = .returned (.tuple #[.slice r0p r0l r0c, .int .u64 r1, .bool r2]) ∧
  ∃ (I0 : Int → Int → World → Prop) (M0 : Int → Int → World → Nat), I0 0 0 w0 ∧
  ∀ (at0 : Int) (i0 : Int) (w1 : World), I0 at0 i0 w1 →
  S_law13_put_l0 k0 x0 R r0p r0l r0c r1 r2 at0 i0 w1 I0 M0
def S_law13_put_ann : Ann := (.seq .leaf (.seq .leaf (.seq .leaf (.seq (.seq .leaf (.block (.loop [1, 2, 9, 10, 11] [(12, (.int .i64)), (13, (.int .i64))] (.seq .leaf (.seq (.jblock [1, 2, 9, 10, 11, 13] [(12, (.int .i64))] .leaf .leaf) .leaf))))) .leaf))))
theorem S_law13_put_eq (l0p : Option Addr) (l0l : Nat) (l0c : Nat) (k0 : ByteArray) (x0 : Int) (w : World) (R : Ending → World → Prop) : X Try.prog Try.f7.ntmps (bodyOf Try.f7) S_law13_put_ann (argEnv 0 [.slice l0p l0l l0c, .string k0, .int .u64 x0]) w (fun e w' => resK Try.prog Try.f7.results.toList e w' [] fun vs => R (.returned (pack vs)) w') (fun e w' => resK Try.prog Try.f7.results.toList e w' [] fun vs => R (.returned (pack vs)) w') (fun _ _ _ => False) = S_law13_put l0p l0l l0c k0 x0 w R := by kernel_rfl
theorem S_law13_put_ok (l0p : Option Addr) (l0l : Nat) (l0c : Nat) (k0 : ByteArray) (x0 : Int) (w : World) (R : Ending → World → Prop) (h : S_law13_put l0p l0l l0c k0 x0 w R) : Calls Try.prog 7 #[.slice l0p l0l l0c, .string k0, .int .u64 x0] w R :=
  calls_of_X (an := S_law13_put_ann) wide_ok Try.func7 (by kernel_rfl) (by kernel_rfl) (by rw [S_law13_put_eq]; exact h)

def S_law13_holds_j0 (at0p : Option Addr) (at0l : Nat) (at0c : Nat) (i0 : Int) (w3 : World) (I0 : Option Addr → Nat → Nat → Int → World → Prop) (M0 : Option Addr → Nat → Nat → Int → World → Nat) (at1p : Option Addr) (at1l : Nat) (at1c : Nat) (w13 : World) : Prop :=
  I0 at1p at1l at1c (IntKind.wrap .i64 (i0 + 1)) w13 ∧ M0 at1p at1l at1c (IntKind.wrap .i64 (i0 + 1)) w13 < M0 at0p at0l at0c i0 w3
def S_law13_holds_l0 (h0 : Option Addr) (t0 : Int) (l0p : Option Addr) (l0l : Nat) (R : Ending → World → Prop) (at0p : Option Addr) (at0l : Nat) (at0c : Nat) (i0 : Int) (w3 : World) (I0 : Option Addr → Nat → Nat → Int → World → Prop) (M0 : Option Addr → Nat → Nat → Int → World → Nat) : Prop :=
  cond (decide (i0 ≤ (Nat.cast l0l : Int)))
  (∀ k0 : Option Addr → Nat → Nat → World → Prop,
  (∀ (at1p : Option Addr) (at1l : Nat) (at1c : Nat) (w13 : World), S_law13_holds_j0 at0p at0l at0c i0 w3 I0 M0 at1p at1l at1c w13 → k0 at1p at1l at1c w13) →
  Calls Try.prog 8 #[.pointer h0, .int .u64 t0, .slice at0p at0l at0c] w3 fun e2 w4 =>
  ∃ (r3p : Option Addr), ∃ (r3l : Nat), ∃ (r3c : Nat), ∃ (r4 : Int), ∃ (r5 : Bool), ∃ (r6 : Int), e2 = .returned (.tuple #[.slice r3p r3l r3c, .int .u64 r4, .bool r5, .int .i64 r6]) ∧
  cond (r6 != 0)
  (R (.returned (.bool false)) w4)
  (cond (!(r5 == (decide (i0 < (Nat.cast l0l : Int)))))
  (R (.returned (.bool false)) w4)
  (cond r5
  (RunStr Try.prog (convert 29 9 (.slice r3p r3l r3c)) (World.drew w4) fun t1 =>
  IdxC l0p l0l i0 2 fun a0 =>
  LdStr (World.drew w4) a0 fun t2 =>
  cond (!(t1.toList == t2.toList))
  (R (.returned (.bool false)) (World.drew w4))
  (IdxC l0p l0l i0 2 fun a1 =>
  LdI .u64 (World.drew w4) (Addr.add a1 1) fun n0 =>
  cond (r4 != n0)
  (R (.returned (.bool false)) (World.drew w4))
  (NewC (.cells #[] 5 (0, 0)) (World.drew w4) fun b1 w5 =>
  RunS Try.prog (Builtin.append_ #[29, 29] 29 #[.slice (some (⟨b1, 0, none⟩)) 0 0, .slice r3p r3l r3c]) w5 fun s0p s0l s0c w6 =>
  NewC (.cells #[.int .u8 0] 5 (0, 0)) w6 fun b2 w7 =>
  RunS Try.prog (Builtin.append_ #[29, 29] 29 #[.slice s0p s0l s0c, .slice (some (⟨b2, 0, none⟩)) 1 1]) w7 fun s1p s1l s1c w8 =>
  k0 s1p s1l s1c w8)))
  (NewC (.cells #[] 5 (0, 0)) (World.drew w4) fun b3 w9 =>
  RunS Try.prog (Builtin.append_ #[29, 29] 29 #[.slice (some (⟨b3, 0, none⟩)) 0 0, .slice r3p r3l r3c]) w9 fun s2p s2l s2c w10 =>
  NewC (.cells #[.int .u8 0] 5 (0, 0)) w10 fun b4 w11 =>
  RunS Try.prog (Builtin.append_ #[29, 29] 29 #[.slice s2p s2l s2c, .slice (some (⟨b4, 0, none⟩)) 1 1]) w11 fun s3p s3l s3c w12 =>
  k0 s3p s3l s3c w12))))
  (R (.returned (.bool true)) w3)
def S_law13_holds (h0 : Option Addr) (t0 : Int) (l0p : Option Addr) (l0l : Nat) (l0c : Nat) (w : World) (R : Ending → World → Prop) : Prop :=
  Calls Try.prog 37 #[.pointer h0, .int .u64 t0] w fun e0 w0 =>
  ∃ (r0 : Int), ∃ (r1 : Int), e0 = .returned (.tuple #[.int .i64 r0, .int .i64 r1]) ∧
  cond (r1 != 0)
  (R (.returned (.bool false)) w0)
  (cond (r0 != (Nat.cast l0l : Int))
  (R (.returned (.bool false)) w0)
  (Calls Try.prog 38 #[.pointer h0, .int .u64 t0] w0 fun e1 w1 =>
  ∃ (r2 : Int), e1 = .returned (.int .i64 r2) ∧
  cond (r2 != 0)
  (R (.returned (.bool false)) w1)
  (NewC (.cells #[] 5 (0, 0)) w1 fun b0 w2 =>
  ∃ (I0 : Option Addr → Nat → Nat → Int → World → Prop) (M0 : Option Addr → Nat → Nat → Int → World → Nat), I0 (some (⟨b0, 0, none⟩)) 0 0 0 w2 ∧
  ∀ (at0p : Option Addr) (at0l : Nat) (at0c : Nat) (i0 : Int) (w3 : World), I0 at0p at0l at0c i0 w3 →
  S_law13_holds_l0 h0 t0 l0p l0l R at0p at0l at0c i0 w3 I0 M0)))
def S_law13_holds_ann : Ann := (.seq .leaf (.seq .leaf (.seq .leaf (.seq .leaf (.seq (.seq .leaf (.block (.loop [0, 1, 2] [(9, .slice), (10, (.int .i64))] (.seq .leaf (.seq (.jblock [0, 1, 2, 10] [(9, .slice)] (.seq .leaf (.seq .leaf (.seq (.seq (.draw 20) .leaf) .leaf))) .leaf) .leaf))))) .leaf)))))
theorem S_law13_holds_eq (h0 : Option Addr) (t0 : Int) (l0p : Option Addr) (l0l : Nat) (l0c : Nat) (w : World) (R : Ending → World → Prop) : X Try.prog Try.f10.ntmps (bodyOf Try.f10) S_law13_holds_ann (argEnv 0 [.pointer h0, .int .u64 t0, .slice l0p l0l l0c]) w (fun e w' => resK Try.prog Try.f10.results.toList e w' [] fun vs => R (.returned (pack vs)) w') (fun e w' => resK Try.prog Try.f10.results.toList e w' [] fun vs => R (.returned (pack vs)) w') (fun _ _ _ => False) = S_law13_holds h0 t0 l0p l0l l0c w R := by kernel_rfl
theorem S_law13_holds_ok (h0 : Option Addr) (t0 : Int) (l0p : Option Addr) (l0l : Nat) (l0c : Nat) (w : World) (R : Ending → World → Prop) (h : S_law13_holds h0 t0 l0p l0l l0c w R) : Calls Try.prog 10 #[.pointer h0, .int .u64 t0, .slice l0p l0l l0c] w R :=
  calls_of_X (an := S_law13_holds_ann) wide_ok Try.func10 (by kernel_rfl) (by kernel_rfl) (by rw [S_law13_holds_eq]; exact h)

def S_law9_Fresh (words0 : Int) (slots0 : Int) (w : World) (R : Ending → World → Prop) : Prop :=
  Calls Try.prog 41 #[.int .i64 words0, .int .i64 slots0] w fun e0 w0 =>
  ∃ (r0 : Option Addr), ∃ (r1 : Int), e0 = .returned (.tuple #[.pointer r0, .int .i64 r1]) ∧
  cond (r1 != 0)
  (R (.returned (.pointer none)) w0)
  (R (.returned (.pointer r0)) w0)
def S_law9_Fresh_ann : Ann := .leaf
theorem S_law9_Fresh_eq (words0 : Int) (slots0 : Int) (w : World) (R : Ending → World → Prop) : X Try.prog Try.f12.ntmps (bodyOf Try.f12) S_law9_Fresh_ann (argEnv 0 [.int .i64 words0, .int .i64 slots0]) w (fun e w' => resK Try.prog Try.f12.results.toList e w' [] fun vs => R (.returned (pack vs)) w') (fun e w' => resK Try.prog Try.f12.results.toList e w' [] fun vs => R (.returned (pack vs)) w') (fun _ _ _ => False) = S_law9_Fresh words0 slots0 w R := by kernel_rfl
theorem S_law9_Fresh_ok (words0 : Int) (slots0 : Int) (w : World) (R : Ending → World → Prop) (h : S_law9_Fresh words0 slots0 w R) : Calls Try.prog 12 #[.int .i64 words0, .int .i64 slots0] w R :=
  calls_of_X (an := S_law9_Fresh_ann) wide_ok Try.func12 (by kernel_rfl) (by kernel_rfl) (by rw [S_law9_Fresh_eq]; exact h)

def S_law13_take_j0 (out0p : Option Addr) (out0l : Nat) (out0c : Nat) (old0 : Int) (had0 : Bool) (i0 : Int) (w0 : World) (I0 : Option Addr → Nat → Nat → Int → Bool → Int → World → Prop) (M0 : Option Addr → Nat → Nat → Int → Bool → Int → World → Nat) (out1p : Option Addr) (out1l : Nat) (out1c : Nat) (old1 : Int) (had1 : Bool) (w3 : World) : Prop :=
  I0 out1p out1l out1c old1 had1 (IntKind.wrap .i64 (i0 + 1)) w3 ∧ M0 out1p out1l out1c old1 had1 (IntKind.wrap .i64 (i0 + 1)) w3 < M0 out0p out0l out0c old0 had0 i0 w0
def S_law13_take_l0 (l0p : Option Addr) (l0l : Nat) (k0 : ByteArray) (R : Ending → World → Prop) (out0p : Option Addr) (out0l : Nat) (out0c : Nat) (old0 : Int) (had0 : Bool) (i0 : Int) (w0 : World) (I0 : Option Addr → Nat → Nat → Int → Bool → Int → World → Prop) (M0 : Option Addr → Nat → Nat → Int → Bool → Int → World → Nat) : Prop :=
  cond (decide (i0 < (Nat.cast l0l : Int)))
  (∀ k1 : Option Addr → Nat → Nat → Int → Bool → World → Prop,
  (∀ (out1p : Option Addr) (out1l : Nat) (out1c : Nat) (old1 : Int) (had1 : Bool) (w3 : World), S_law13_take_j0 out0p out0l out0c old0 had0 i0 w0 I0 M0 out1p out1l out1c old1 had1 w3 → k1 out1p out1l out1c old1 had1 w3) →
  IdxC l0p l0l i0 2 fun a0 =>
  LdStr w0 a0 fun t0 =>
  cond (t0.toList == k0.toList)
  (IdxC l0p l0l i0 2 fun a1 =>
  LdI .u64 w0 (Addr.add a1 1) fun n0 =>
  k1 out0p out0l out0c n0 true w0)
  (IdxC l0p l0l i0 2 fun a2 =>
  LdStr w0 a2 fun t1 =>
  LdI .u64 w0 (Addr.add a2 1) fun n1 =>
  NewC (.cells #[.string t1, .int .u64 n1] 66 (0, 0)) w0 fun b0 w1 =>
  RunS Try.prog (Builtin.append_ #[28, 28] 28 #[.slice out0p out0l out0c, .slice (some (⟨b0, 0, none⟩)) 1 1]) w1 fun s0p s0l s0c w2 =>
  k1 s0p s0l s0c old0 had0 w2))
  (R (.returned (.tuple #[.slice out0p out0l out0c, .int .u64 old0, .bool had0])) w0)
def S_law13_take (l0p : Option Addr) (l0l : Nat) (l0c : Nat) (k0 : ByteArray) (w : World) (R : Ending → World → Prop) : Prop :=
  ∃ (I0 : Option Addr → Nat → Nat → Int → Bool → Int → World → Prop) (M0 : Option Addr → Nat → Nat → Int → Bool → Int → World → Nat), I0 none 0 0 0 false 0 w ∧
  ∀ (out0p : Option Addr) (out0l : Nat) (out0c : Nat) (old0 : Int) (had0 : Bool) (i0 : Int) (w0 : World), I0 out0p out0l out0c old0 had0 i0 w0 →
  S_law13_take_l0 l0p l0l k0 R out0p out0l out0c old0 had0 i0 w0 I0 M0
def S_law13_take_ann : Ann := (.seq .leaf (.seq .leaf (.seq .leaf (.seq .leaf (.seq (.seq .leaf (.block (.loop [0, 1] [(7, .slice), (8, (.int .u64)), (9, .bool), (10, (.int .i64))] (.seq .leaf (.seq (.jblock [0, 1, 10] [(7, .slice), (8, (.int .u64)), (9, .bool)] .leaf .leaf) .leaf))))) .leaf)))))
theorem S_law13_take_eq (l0p : Option Addr) (l0l : Nat) (l0c : Nat) (k0 : ByteArray) (w : World) (R : Ending → World → Prop) : X Try.prog Try.f27.ntmps (bodyOf Try.f27) S_law13_take_ann (argEnv 0 [.slice l0p l0l l0c, .string k0]) w (fun e w' => resK Try.prog Try.f27.results.toList e w' [] fun vs => R (.returned (pack vs)) w') (fun e w' => resK Try.prog Try.f27.results.toList e w' [] fun vs => R (.returned (pack vs)) w') (fun _ _ _ => False) = S_law13_take l0p l0l l0c k0 w R := by kernel_rfl
theorem S_law13_take_ok (l0p : Option Addr) (l0l : Nat) (l0c : Nat) (k0 : ByteArray) (w : World) (R : Ending → World → Prop) (h : S_law13_take l0p l0l l0c k0 w R) : Calls Try.prog 27 #[.slice l0p l0l l0c, .string k0] w R :=
  calls_of_X (an := S_law13_take_ann) wide_ok Try.func27 (by kernel_rfl) (by kernel_rfl) (by rw [S_law13_take_eq]; exact h)


end Go.Proofs.Ytpicofkhioalkaa
