
/- 'SlideKnown' answers true: chapter 11's examples. No conditions. -/
import Derived.Test.YtdfdmboljidhnaaSs
set_option maxRecDepth 100000
namespace Go.Proofs.Ytdfdmboljidhnaa
open Go Go.Lw Go.Wd Go.Am Go.Tb Go.Hm Go.ChangeShapes Go.WideShapes Go.ChangeAt Go.RowKit

def sk1 : Cd := fullC sac
def sk2 : Cd := startC sk1
def sk3 : Cd := (stepC 1 sk2).1
theorem sk_z : atE sk1.H saz = 6 := by decide +kernel
theorem sk_d : (stepC 1 sk2).2 = false := by decide +kernel
theorem sk_p1 : sk1.ph = 0 := by decide +kernel
theorem sk_p3 : sk3.ph = 1 := by decide +kernel
theorem sk_b1 : roB sk2 < 1000 ∧ mvB sk2 < 1000 := by decide +kernel
theorem sk_b3 : roB sk3 < 1000 ∧ mvB sk3 < 1000 := by decide +kernel
theorem sk_mu : muC sk3 ≤ 9 := by decide +kernel
theorem sk_ro : (endC sk3).ro = 2 := by decide +kernel
theorem sk_mv : (endC sk3).mv = 1 := by decide +kernel
theorem known_c {F : List HP} {w : World} (hs : Sat F w) : Calls Try.prog 3 #[] w (Ret (.bool true) (Sat F)) := by
  refine S_law11_SlideKnown_ok _ _ ?_
  unfold S_law11_SlideKnown
  refine (awake11_c hs).mono ?_
  rintro e w0 ⟨rfl, s0⟩
  refine ⟨_, rfl, cond_f rfl ?_⟩
  refine (two_c s0).mono ?_
  rintro e w1 ⟨b, rfl, s1⟩
  refine ⟨_, _, _, _, rfl, ?_⟩
  have hB : 6 + 2 < 4294967296 := by omega
  have c0 := sa_ci (sat_wf s1)
  refine (snew_c s1).mono ?_
  rintro e w2 ⟨cb, mb, rfl, s2⟩
  have s2 : Sat (CL sac b cb mb F) w2 := s2
  refine ⟨_, rfl, ?_⟩
  refine (sstep_no s2 1 (.inl rfl)).mono ?_
  rintro e w3 ⟨rfl, s3⟩
  refine ⟨_, _, rfl, ?_⟩
  refine (sphase_c s3 1 rfl).mono ?_
  rintro e w4 ⟨rfl, rfl⟩
  refine ⟨_, rfl, ?_⟩
  refine (sfull_c s3 hB c0 pk_zero (by decide) (by decide)).mono ?_
  rintro e w4 ⟨rfl, s4⟩
  have s4 : Sat (CL sk1 b cb mb F) w4 := s4
  have e0 := end_ok hB c0
  have p0 := start_ok e0.1.ci e0.2
  have e1 := end_ok hB p0.ci
  have c1 : Ci 6 sk1 := e1.1.ci
  refine ⟨_, _, rfl, ?_⟩
  refine tat s4 sa_zu ⟨_, _, rfl, ?_⟩
  rw [sk_z]
  refine (sstart_c s4 c1 sk_p1).mono ?_
  rintro e w5 ⟨rfl, s5⟩
  have s5 : Sat (CL sk2 b cb mb F) w5 := s5
  have p2 := start_ok c1 sk_p1
  have c2 : Ci 6 sk2 := p2.ci
  have k2 : Pk sk2 := pk_start c1
  refine ⟨_, rfl, ?_⟩
  have b2 := sk_b1
  refine (sstep_c s5 hB c2 k2 (by decide) (n := 1) (by omega) (by omega) (by omega) (by omega)).mono ?_
  rintro e w6 ⟨rfl, s6⟩
  have s6 : Sat (CL sk3 b cb mb F) w6 := s6
  have c3 : Ci 6 sk3 := (step_ok hB c2 (by decide) 1).ci
  have k3 : Pk sk3 := pk_step c2 k2 1
  rw [sk_d]
  refine ⟨_, _, rfl, ?_⟩
  refine (sphase_c s6 1 rfl).mono ?_
  rintro e w7 ⟨rfl, rfl⟩
  rw [sk_p3]
  refine ⟨_, rfl, ?_⟩
  refine (sstep_no s6 0 (.inr (by omega))).mono ?_
  rintro e w8 ⟨rfl, s8⟩
  rw [if_neg (by rw [sk_p3]; decide)]
  refine ⟨_, _, rfl, ?_⟩
  refine (sstart_no s8 (by rw [sk_p3]; decide)).mono ?_
  rintro e w9 ⟨rfl, s9⟩
  refine ⟨_, rfl, ?_⟩
  intro k0 hk0
  have b3 := sk_b3
  have mu3 := sk_mu
  have fin : ∀ w, Sat (CL (endC sk3) b cb mb F) w → k0 w := by
    intro w h
    refine hk0 w ?_
    unfold S_law11_SlideKnown_j0
    refine cond_t rfl (cond_t rfl (cond_t rfl (cond_t rfl (cond_t rfl (cond_t rfl (cond_t rfl (cond_t rfl (cond_t rfl (cond_t rfl ?_)))))))))
    refine (srounds_c h 1 rfl).mono ?_
    rintro e w1 ⟨rfl, rfl⟩
    refine ⟨_, rfl, ?_⟩
    rw [sk_ro]
    refine cond_t rfl ?_
    refine (smoved_c h 1 rfl).mono ?_
    rintro e w1 ⟨rfl, rfl⟩
    refine ⟨_, rfl, ?_⟩
    rw [sk_mv]
    exact ⟨rfl, h.drop.drop.drop⟩
  refine ⟨fun n w => ∃ (q : Nat) (d : Cd), n = q ∧ q ≤ 9 ∧ Ci 6 d ∧ Pk d ∧ roB d < 1000 ∧ mvB d < 1000 ∧ endC d = endC sk3 ∧ muC d + q ≤ 9 ∧ Sat (CL d b cb mb F) w, fun n _ => (9 - n).toNat, ⟨0, sk3, rfl, by omega, c3, k3, b3.1, b3.2, rfl, by omega, s9⟩, ?_⟩
  rintro n w10 ⟨q, d, rfl, hq, d1, d2, d3, d4, d5, d6, d7⟩
  unfold S_law11_SlideKnown_l0
  have done : d.ph = 0 → k0 w10 := fun h0 => fin w10 (by rw [← d5]; unfold endC; rw [if_pos h0]; exact d7)
  by_cases hlt : q < 9
  · refine cond_t (by simp; omega) ?_
    refine (sphase_c d7 1 rfl).mono ?_
    rintro e w11 ⟨rfl, rfl⟩
    refine ⟨_, rfl, ?_⟩
    by_cases h0 : d.ph = 0
    · exact cond_f (by simp [h0]) (done h0)
    · refine cond_t (by simp; omega) ?_
      refine (sstep_c d7 hB d1 d2 h0 (n := 9) (by omega) (by omega) (by omega) (by omega)).mono ?_
      rintro e w12 ⟨rfl, h1⟩
      refine ⟨_, _, rfl, ?_⟩
      rw [wrapI64 (by omega) (by omega)]
      have hmu := mu_step (n := 9) (by omega) hB d1 h0
      have hr := roB_step h0 9
      have hv := mvB_step hB d1 h0 9
      refine ⟨⟨q + 1, (stepC 9 d).1, by omega, by omega, (step_ok hB d1 h0 9).ci, pk_step d1 d2 9, by omega, by omega, (end_step (by omega) hB d1 h0).trans d5, by omega, h1⟩, by dsimp only; omega⟩
  · exact cond_f (by simp; omega) (done (mu_zero (by omega)))

set_option maxRecDepth 100000 in
theorem known_lifted (os : Os) (started : os.Started) (H : Type) (enc : TypeId × Value → H) :
    ReturnsInHanded {} Try.checked os 3 .any (Rows.slideKnownSpec.pre6 enc Try.prog Try.f3 Rows.slideKnownRow.domain false) (Rows.slideKnownSpec.post enc Try.prog Try.f3 false true false false) := by
  refine returnsInHanded_of_change (C := Try.checked) own started (by kernel_rfl) Try.func3
    (ChangeSpec.witness6 (enc := enc) (C := Try.checked) false ⟨#[], #[], []⟩ 8 (by kernel_rfl) (by kernel_rfl) (by kernel_rfl) (by kernel_rfl)) ?_
  intro W base args ds gs before hval hW hcnd _
  have hW' : DataW.Whole enc Try.prog Try.f3.params.toList Rows.slideKnownSpec.vars false W args.toList ds gs before := hW
  obtain ⟨p, q, hA, hV, _⟩ := hW'
  rw [Try.params3] at hA
  obtain ⟨hargs, rfl, rfl⟩ := trodAll_nil hA
  obtain rfl : args = #[] := by cases args; simp_all
  refine (known_c (Sat.ofBase W)).mono fun e W' ⟨he, hs⟩ => ?_
  exact ⟨_, he, law_post (tb := 4) laidOut (by decide +kernel) (by kernel_rfl) Try.underlying4 rfl hW ⟨rfl, rfl, rfl⟩ (hs.below 0 rfl)⟩

theorem known_holds : Rows.SlideKnownSaid :=
  OpenClaim.holds_of_wide 3 Try.f3 rfl rfl rfl rfl rfl rfl rfl ⟨rfl, rfl, rfl, rfl, rfl⟩ rfl rfl rfl rfl rfl (by kernel_rfl) Try.func3 (by kernel_rfl)
    (of_decide_eq_true (by kernel_rfl)) (by unfold Func.isWrapper; first | (rw [if_pos (by decide +kernel)]; kernel_rfl) | (rw [if_neg (by decide +kernel)]; exact ⟨rfl, rfl⟩))
    (fun os started H enc _ => known_lifted os started H enc)
end Go.Proofs.Ytdfdmboljidhnaa
