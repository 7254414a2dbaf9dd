
/- 'MarkKnown' answers true: chapter 10's examples. No conditions. -/
import Derived.Test.YtdlplljmgkfkgaaMB
set_option maxRecDepth 100000
namespace Go.Proofs.Ytdlplljmgkfkgaa
open Go Go.Lw Go.Wd Go.Am Go.Tb Go.Hm Go.ChangeShapes Go.WideShapes Go.ChangeAt Go.RowKit

def kb0 : Ms := began th5
def kb1 : Ms := units 1 (kb0.1, kb0.2)
def kb2 : Ms := units 1 (kb1.1, kb1.2)
theorem kb_u0 : ∀ x ∈ kb0.2, x < 18446744073709551616 := by decide +kernel
theorem kb_u1 : ∀ x ∈ kb1.2, x < 18446744073709551616 := by decide +kernel
theorem kb_p0 : pot (kb0.1, kb0.2) ≤ 1048576 := by decide +kernel
theorem kb_p1 : pot (kb1.1, kb1.2) ≤ 1048576 := by decide +kernel
theorem kb_e1 : decide ((units 1 (kb0.1, kb0.2)).2 = []) = false := by decide +kernel
theorem kb_e2 : decide ((units 1 (kb1.1, kb1.2)).2 = []) = true := by decide +kernel
theorem known_c {F : List HP} {w : World} (hs : Sat F w) : Calls Try.prog 4 #[] w (Ret (.bool true) (Sat F)) := by
  refine S_law10_MarkKnown_ok _ _ ?_
  unfold S_law10_MarkKnown
  refine (awake10_c hs).mono ?_
  rintro e w0 ⟨rfl, s0⟩
  refine ⟨_, rfl, cond_f rfl ?_⟩
  refine (three_c s0).mono ?_
  rintro e w1 ⟨b, rfl, s1⟩
  refine ⟨_, _, _, _, _, rfl, ?_⟩
  refine NewC.ofRow s1 fun d w2 s2 => ?_
  refine st3v s2 0 rfl fun w3 s3 => ?_
  refine (mnew_c (Sat.pull s3 1 rfl)).mono ?_
  rintro e w4 ⟨mb, rfl, s4⟩
  refine ⟨_, rfl, ?_⟩
  refine (mstep_no s4 (n := 1) (.inl rfl)).mono ?_
  rintro e w5 ⟨rfl, s5⟩
  refine ⟨_, _, rfl, ?_⟩
  refine (mstart_c s5 th_op).mono ?_
  rintro e w6 ⟨rfl, s6⟩
  have s6 : Sat (HeapH kb0.1 (mkW mb) b :: MkH b mb kb0.2 true :: Row d [.int .u64 (thx : Nat), .int .u64 (thy : Nat), .int .u64 (thz : Nat)] _ :: F) w6 := s6
  refine ⟨_, rfl, ?_⟩
  refine (mwaiting_c s6).mono ?_
  rintro e w7 ⟨rfl, rfl⟩
  refine ⟨_, rfl, ?_⟩
  refine (mstep_c s6 (n := 1) (by omega) (by omega) kb_p0 kb_u0).mono ?_
  rintro e w7 ⟨rfl, s7⟩
  have s7 : Sat (HeapH kb1.1 (mkW mb) b :: MkH b mb kb1.2 true :: Row d [.int .u64 (thx : Nat), .int .u64 (thy : Nat), .int .u64 (thz : Nat)] _ :: F) w7 := s7
  rw [kb_e1]
  refine ⟨_, _, rfl, ?_⟩
  refine (mstep_c s7 (n := 1) (by omega) (by omega) kb_p1 kb_u1).mono ?_
  rintro e w8 ⟨rfl, s8⟩
  have s8 : Sat (HeapH kb2.1 (mkW mb) b :: MkH b mb kb2.2 true :: Row d [.int .u64 (thx : Nat), .int .u64 (thy : Nat), .int .u64 (thz : Nat)] _ :: F) w8 := s8
  rw [kb_e2]
  refine ⟨_, _, rfl, ?_⟩
  refine (mstep_no s8 (n := 0) (.inr (by omega))).mono ?_
  rintro e w9 ⟨rfl, s9⟩
  refine ⟨_, _, rfl, ?_⟩
  refine (mstart_no s9).mono ?_
  rintro e w10 ⟨rfl, s10⟩
  refine ⟨_, rfl, ?_⟩
  refine (mmarked_c s10 (x := 99) (by omega)).mono ?_
  rintro e w11 ⟨rfl, s11⟩
  refine ⟨_, _, rfl, ?_⟩
  refine cond_t rfl (cond_t rfl (cond_t (by decide +kernel) (cond_t rfl (cond_t rfl (cond_t rfl (cond_t rfl ?_))))))
  refine IdxF.of (by decide) (by decide) ?_
  refine LdI.of s11 2 rfl (off := 0) rfl (add_mk _ _ _) ?_
  refine (is_m s11 th_xu true).mono ?_
  rintro e w12 ⟨rfl, s12⟩
  refine ⟨_, rfl, cond_t (by decide +kernel) ?_⟩
  refine IdxF.of (by decide) (by decide) ?_
  refine LdI.of s12 2 rfl (off := 1) rfl (add_mk _ _ _) ?_
  refine (is_m s12 th_yu true).mono ?_
  rintro e w13 ⟨rfl, s13⟩
  refine ⟨_, rfl, cond_t (by decide +kernel) ?_⟩
  refine IdxF.of (by decide) (by decide) ?_
  refine LdI.of s13 2 rfl (off := 2) rfl (add_mk _ _ _) ?_
  refine (is_m s13 th_zu false).mono ?_
  rintro e w14 ⟨rfl, s14⟩
  refine ⟨_, rfl, cond_t (by decide +kernel) (cond_t rfl (cond_t rfl (cond_t (by decide +kernel) ?_)))⟩
  refine (mrunning_c s14).mono ?_
  rintro e w15 ⟨rfl, rfl⟩
  refine ⟨_, rfl, cond_t rfl ?_⟩
  refine (mstop_c s14).mono ?_
  rintro e w15 hp
  rw [if_pos rfl] at hp
  obtain ⟨rfl, s15⟩ := hp
  refine ⟨_, rfl, cond_t rfl ?_⟩
  refine (mstop_c s15).mono ?_
  rintro e w16 hp
  rw [if_neg (by decide)] at hp
  obtain ⟨rfl, s16⟩ := hp
  refine ⟨_, rfl, cond_t rfl ?_⟩
  refine (mrunning_c s16).mono ?_
  rintro e w17 ⟨rfl, rfl⟩
  exact ⟨_, rfl, rfl, s16.drop.drop.drop⟩

set_option maxRecDepth 100000 in
theorem known_lifted (os : Os) (started : os.Started) (H : Type) (enc : TypeId × Value → H) :
    ReturnsInHanded {} Try.checked os 4 .any (Rows.markKnownSpec.pre6 enc Try.prog Try.f4 Rows.markKnownRow.domain false) (Rows.markKnownSpec.post enc Try.prog Try.f4 false true false false) := by
  refine returnsInHanded_of_change (C := Try.checked) own started (by kernel_rfl) Try.func4
    (ChangeSpec.witness6 (enc := enc) (C := Try.checked) false ⟨#[], #[], []⟩ 8 (by kernel_rfl) (by kernel_rfl) (by kernel_rfl) (by kernel_rfl)) ?_
  intro W base args ds gs before hval hW hcnd _
  have hW' : DataW.Whole enc Try.prog Try.f4.params.toList Rows.markKnownSpec.vars false W args.toList ds gs before := hW
  obtain ⟨p, q, hA, hV, _⟩ := hW'
  rw [Try.params4] at hA
  obtain ⟨hargs, rfl, rfl⟩ := trodAll_nil hA
  obtain rfl : args = #[] := by cases args; simp_all
  refine (known_c (Sat.ofBase W)).mono fun e W' ⟨he, hs⟩ => ?_
  exact ⟨_, he, law_post (tb := 4) laidOut (by decide +kernel) (by kernel_rfl) Try.underlying4 rfl hW ⟨rfl, rfl, rfl⟩ (hs.below 0 rfl)⟩

theorem known_holds : Rows.MarkKnownSaid :=
  OpenClaim.holds_of_wide 4 Try.f4 rfl rfl rfl rfl rfl rfl rfl ⟨rfl, rfl, rfl, rfl, rfl⟩ rfl rfl rfl rfl rfl (by kernel_rfl) Try.func4 (by kernel_rfl)
    (of_decide_eq_true (by kernel_rfl)) (by unfold Func.isWrapper; first | (rw [if_pos (by decide +kernel)]; kernel_rfl) | (rw [if_neg (by decide +kernel)]; exact ⟨rfl, rfl⟩))
    (fun os started H enc _ => known_lifted os started H enc)
end Go.Proofs.Ytdlplljmgkfkgaa
