
/- What the laws of chapter 10 have in common: three objects; 'is'; the law 'awake'. -/
import Derived.Test.YtdlplljmgkfkgaaMc
set_option maxRecDepth 100000
namespace Go.Proofs.Ytdlplljmgkfkgaa
open Go Go.Lw Go.Wd Go.Am Go.Tb Go.Hm

def th0 : Hp := Hp.new 100 10
def thz : Nat := nextH th0.t
def th1 : Hp := th0.made 3 0 3
def thx : Nat := nextH th1.t
def th2 : Hp := th1.made 1 1 1
def thy : Nat := nextH th2.t
def th3 : Hp := th2.made 2 0 0
def th4 : Hp := if Hp.refE th3 thx 0 thy = 0 then Hp.setRef th3 thx 0 thy else th3
def th5 : Hp := if Hp.rootE th4 0 thx = 0 then th4.rooted (Int.toNat 0) thx else th4
theorem th_refE : Hp.refE th3 thx 0 thy = 0 := by decide +kernel
theorem th_rootE : Hp.rootE th4 0 thx = 0 := by decide +kernel
theorem th_xu : thx < 18446744073709551616 := by decide +kernel
theorem th_yu : thy < 18446744073709551616 := by decide +kernel
theorem th_zu : thz < 18446744073709551616 := by decide +kernel
theorem th_op : th5.m.op = false := by decide +kernel

theorem st3i {L : List HP} {w : World} {b T : Nat} {c0 c1 c2 : Value} {n0 n1 n2 : Int} {K : Int → Int → Int → World → Prop} (hs : Sat L w) (i : Nat) (hi : L[i]? = some (Row b [c0, c1, c2] T)) (h : ∀ w', Sat (L.set i (Row b [.int .u64 n0, .int .u64 n1, .int .u64 n2] T)) w' → K n0 n1 n2 w') :
    StC w ⟨b, 0, none⟩ (.int .u64 n0) fun w => StC w (Addr.add ⟨b, 0, none⟩ 1) (.int .u64 n1) fun w => StC w (Addr.add ⟨b, 0, none⟩ 2) (.int .u64 n2) fun w => LdI .u64 w ⟨b, 0, none⟩ fun m0 => LdI .u64 w (Addr.add ⟨b, 0, none⟩ 1) fun m1 => LdI .u64 w (Addr.add ⟨b, 0, none⟩ 2) fun m2 => K m0 m1 m2 w := by
  simp only [add_mk, Nat.zero_add]
  refine StC.of hs i hi (off := 0) rfl rfl fun w1 h1 => ?_
  refine StC.of h1 i (get_set_self hi) (off := 1) rfl rfl fun w2 h2 => ?_
  rw [set_set_self] at h2
  refine StC.of h2 i (get_set_self hi) (off := 2) rfl rfl fun w3 h3 => ?_
  rw [set_set_self] at h3
  exact LdI.of h3 i (get_set_self hi) (off := 0) rfl rfl (LdI.of h3 i (get_set_self hi) (off := 1) rfl rfl (LdI.of h3 i (get_set_self hi) (off := 2) rfl rfl (h w3 h3)))
theorem st3v {L : List HP} {w : World} {b T : Nat} {c0 c1 c2 v0 v1 v2 : Value} {K : World → Prop} (hs : Sat L w) (i : Nat) (hi : L[i]? = some (Row b [c0, c1, c2] T)) (h : ∀ w', Sat (L.set i (Row b [v0, v1, v2] T)) w' → K w') :
    StC w ⟨b, 0, none⟩ v0 fun w => StC w (Addr.add ⟨b, 0, none⟩ 1) v1 fun w => StC w (Addr.add ⟨b, 0, none⟩ 2) v2 K := by
  simp only [add_mk, Nat.zero_add]
  refine StC.of hs i hi (off := 0) rfl rfl fun w1 h1 => ?_
  refine StC.of h1 i (get_set_self hi) (off := 1) rfl rfl fun w2 h2 => ?_
  rw [set_set_self] at h2
  refine StC.of h2 i (get_set_self hi) (off := 2) rfl rfl fun w3 h3 => ?_
  rw [set_set_self] at h3
  exact h w3 h3

theorem three_c {F : List HP} {w : World} (hs : Sat F w) : Calls Try.prog 17 #[] w fun e w' =>
    ∃ b, e = .returned (.tuple #[.pointer (some ⟨b, 0, none⟩), .agg #[.int .u64 (thx : Nat), .int .u64 (thy : Nat), .int .u64 (thz : Nat)], .bool true]) ∧ Sat (HeapH th5 .nilIface b :: F) w' := by
  refine S_law10_three_ok _ _ ?_
  unfold S_law10_three
  refine NewC.ofRow hs fun d w0 s0 => ?_
  refine (fresh_c (n := 100) (k := 10) (by omega) (by omega) (by omega) (by omega) s0).mono ?_
  rintro e w1 ⟨b, rfl, s1⟩
  refine ⟨_, rfl, cond_f rfl ?_⟩
  refine (mk_c s1 (tag := 3) (refs := 0) (size := 3) (by decide +kernel)).mono ?_
  rintro e w2 ⟨rfl, s2⟩
  refine ⟨_, _, rfl, ?_⟩
  refine (mk_c s2 (tag := 1) (refs := 1) (size := 1) (by decide +kernel)).mono ?_
  rintro e w3 ⟨rfl, s3⟩
  refine ⟨_, _, rfl, ?_⟩
  refine (mk_c s3 (tag := 2) (refs := 0) (size := 0) (by decide +kernel)).mono ?_
  rintro e w4 ⟨rfl, s4⟩
  refine ⟨_, _, rfl, cond_f rfl (cond_f rfl (cond_f rfl ?_))⟩
  have s4 : Sat (HeapH th3 .nilIface b :: Row d _ _ :: F) w4 := s4
  refine (sref_c s4 (x := thx) th_xu 0 (y := thy) th_yu).mono ?_
  rintro e w5 ⟨rfl, s5⟩
  have s5 : Sat (HeapH th4 .nilIface b :: Row d [.int .u64 0, .int .u64 0, .int .u64 0] _ :: F) w5 := s5
  rw [th_refE]
  refine ⟨_, rfl, cond_f rfl ?_⟩
  refine (sroot_c s5 0 (y := thx) th_xu).mono ?_
  rintro e w6 ⟨rfl, s6⟩
  have s6 : Sat (HeapH th5 .nilIface b :: Row d [.int .u64 0, .int .u64 0, .int .u64 0] _ :: F) w6 := s6
  rw [th_rootE]
  refine ⟨_, rfl, cond_f rfl ?_⟩
  refine st3i s6 1 rfl fun w7 s7 => ?_
  exact ⟨b, rfl, (Sat.pull s7 1 rfl).drop⟩

section
variable {H : Hp} {v : Value} {b mb : Nat} {st : List Nat} {run : Bool} {F : List HP} {w : World}
theorem is_m (hs : Sat (HeapH H v b :: MkH b mb st run :: F) w) {x : Nat} (hx : x < 18446744073709551616) (want : Bool) : Calls Try.prog 16 #[.pointer (some ⟨mb, 0, none⟩), .int .u64 (x : Int), .bool want] w
    (Ret (.bool ((H.look x).isSome && (isM H x == want))) (Sat (HeapH H v b :: MkH b mb st run :: F))) := by
  refine S_law10_is_ok _ _ _ _ _ ?_
  unfold S_law10_is
  refine (mmarked_c hs hx).mono ?_
  rintro e w1 ⟨rfl, h1⟩
  refine ⟨_, _, rfl, ?_⟩
  cases (H.look x).isSome with
  | true => exact cond_t rfl ⟨rfl, h1⟩
  | false => exact cond_f rfl ⟨rfl, h1⟩
end

theorem awake10_c {F : List HP} {w : World} (hs : Sat F w) : Calls Try.prog 8 #[] w (Ret (.bool true) (Sat F)) := by
  refine S_law10_awake_ok _ _ ?_
  unfold S_law10_awake
  refine (three_c hs).mono ?_
  rintro e w1 ⟨b, rfl, s1⟩
  refine ⟨_, _, _, _, _, rfl, ?_⟩
  refine NewC.ofRow s1 fun d w2 s2 => ?_
  refine st3v s2 0 rfl fun w3 s3 => ?_
  refine cond_f rfl ?_
  refine (mnew_c (Sat.pull s3 1 rfl)).mono ?_
  rintro e w4 ⟨mb, rfl, s4⟩
  refine ⟨_, rfl, cond_f rfl ?_⟩
  refine (mstart_c s4 th_op).mono ?_
  rintro e w5 ⟨rfl, s5⟩
  refine ⟨_, rfl, cond_f rfl ?_⟩
  have hu : ∀ x ∈ (began th5).2, x < 18446744073709551616 := by decide +kernel
  refine (mstep_c s5 (n := 9) (by omega) (by omega) (by decide +kernel) hu).mono ?_
  rintro e w6 ⟨rfl, s6⟩
  have e1 : decide ((units 9 ((began th5).1, (began th5).2)).2 = []) = true := by decide +kernel
  rw [e1]
  refine ⟨_, _, rfl, cond_t rfl (cond_t rfl ?_)⟩
  refine IdxF.of (by decide) (by decide) ?_
  refine LdI.of s6 2 rfl (off := 0) rfl (add_mk _ _ _) ?_
  refine (is_m s6 th_xu true).mono ?_
  rintro e w7 ⟨rfl, s7⟩
  refine ⟨_, rfl, cond_t (by decide +kernel) ?_⟩
  refine IdxF.of (by decide) (by decide) ?_
  refine LdI.of s7 2 rfl (off := 1) rfl (add_mk _ _ _) ?_
  refine (is_m s7 th_yu true).mono ?_
  rintro e w8 ⟨rfl, s8⟩
  refine ⟨_, rfl, cond_t (by decide +kernel) ?_⟩
  refine IdxF.of (by decide) (by decide) ?_
  refine LdI.of s8 2 rfl (off := 2) rfl (add_mk _ _ _) ?_
  refine (is_m s8 th_zu false).mono ?_
  rintro e w9 ⟨rfl, s9⟩
  refine ⟨_, rfl, congrArg (fun x => Ending.returned (.bool x)) (by decide +kernel), s9.drop.drop.drop⟩
end Go.Proofs.Ytdlplljmgkfkgaa
