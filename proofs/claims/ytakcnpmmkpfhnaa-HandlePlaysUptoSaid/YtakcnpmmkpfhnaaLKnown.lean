/- 'HandleKnown' answers true: chapter 8's examples. No conditions. -/
import Derived.Test.YtakcnpmmkpfhnaaTc
import Derived.Test.YtakcnpmmkpfhnaaLaw
namespace Go.Proofs.Ytakcnpmmkpfhnaa
open Go Go.Lw Go.Tb Go.ChangeShapes Go.WideShapes Go.ChangeAt Go.RowKit

theorem fresh_c {n : Nat} (h1 : 1 ≤ n) (h2 : n ≤ 1048576) {F : List HP} {w : World} (hs : Sat F w) :
    Calls Try.prog 9 #[.int .i64 (n : Int)] w fun e w' => ∃ b, e = .returned (.pointer (some ⟨b, 0, none⟩)) ∧ Sat (Tbl (Tab.new n) b :: F) w' := by
  refine S_law8_fresh_ok _ _ _ ?_
  unfold S_law8_fresh
  refine (new_c h1 h2 hs).mono ?_
  rintro e w' ⟨b, rfl, hs'⟩
  exact ⟨_, _, rfl, cond_f rfl ⟨b, rfl, hs'⟩⟩

theorem awake_c {F : List HP} {w : World} (hs : Sat F w) : Calls Try.prog 8 #[] w (Ret (.bool true) (Sat F)) := by
  refine S_law8_awake_ok _ _ ?_
  unfold S_law8_awake
  refine (fresh_c (n := 2) (by omega) (by omega) hs).mono ?_
  rintro e w' ⟨b, rfl, h1⟩
  refine ⟨_, rfl, cond_f rfl ?_⟩
  refine (make_ok h1 (a := 7) (by omega) (fun h => absurd h.2 (by decide))).mono ?_
  rintro e w' ⟨rfl, h2⟩
  refine ⟨_, _, rfl, ?_⟩
  refine (at_c h2 (h := 4294967297) (by decide)).mono ?_
  rintro e w' ⟨rfl, rfl⟩
  refine ⟨7, 0, rfl, ?_⟩
  refine cond_t rfl (cond_t (by decide +kernel) (cond_t rfl (cond_t (by decide +kernel) ?_)))
  refine (count_c h2).mono ?_
  rintro e w' ⟨rfl, rfl⟩
  exact ⟨_, rfl, rfl, h2.drop⟩

theorem known_c {F : List HP} {w : World} (hs : Sat F w) : Calls Try.prog 3 #[] w (Ret (.bool true) (Sat F)) := by
  refine S_law8_HandleKnown_ok _ _ ?_
  unfold S_law8_HandleKnown
  refine (awake_c hs).mono ?_
  rintro e w' ⟨rfl, h0⟩
  refine ⟨_, rfl, cond_f rfl ?_⟩
  refine (fresh_c (n := 2) (by omega) (by omega) h0).mono ?_
  rintro e w' ⟨b, rfl, h1⟩
  refine ⟨_, rfl, ?_⟩
  refine (make_ok h1 (a := 7) (by omega) (fun h => absurd h.2 (by decide))).mono ?_
  rintro e w' ⟨rfl, h2⟩
  refine ⟨_, _, rfl, ?_⟩
  refine (make_ok h2 (a := 8) (by omega) (fun h => absurd h.2 (by decide))).mono ?_
  rintro e w' ⟨rfl, h3⟩
  refine ⟨_, _, rfl, ?_⟩
  refine (make_full h3 (a := 9) (by omega) ⟨rfl, rfl⟩).mono ?_
  rintro e w' ⟨rfl, h4⟩
  refine ⟨_, _, rfl, ?_⟩
  refine cond_f (by decide +kernel) (cond_f rfl (cond_f (by decide +kernel) (cond_f rfl (cond_f rfl ?_))))
  refine (free_c h4 (h := 4294967297) (i := 0) (by decide) (by decide) (by decide)).mono ?_
  rintro e w' ⟨rfl, h5⟩
  refine ⟨_, rfl, cond_f rfl ?_⟩
  refine (at_c h5 (h := 4294967297) (by decide)).mono ?_
  rintro e w' ⟨rfl, rfl⟩
  refine ⟨0, 6, rfl, ?_⟩
  refine (make_ok h5 (a := 5) (by omega) (fun h => absurd h.1 (by decide))).mono ?_
  rintro e w' ⟨rfl, h6⟩
  refine ⟨_, _, rfl, cond_t rfl (cond_t rfl (cond_t (by decide +kernel) ?_))⟩
  refine (count_c h6).mono ?_
  rintro e w' ⟨rfl, rfl⟩
  exact ⟨_, rfl, rfl, h6.drop⟩

theorem own : ownKnob Try.prog.godebug = none := by kernel_rfl
theorem laidOut : laidOutB Try.prog = true := by kernel_rfl

set_option maxRecDepth 100000 in
theorem known_lifted (os : Os) (started : os.Started) (H : Type) (enc : TypeId × Value → H) :
    ReturnsInHanded {} Try.checked os 3 .any (Rows.handleKnownSpec.pre6 enc Try.prog Try.f3 Rows.handleKnownRow.domain false) (Rows.handleKnownSpec.post enc Try.prog Try.f3 false true false false) := by
  refine returnsInHanded_of_change (C := Try.checked) own started (by kernel_rfl) Try.func3
    (ChangeSpec.witness6 (enc := enc) (C := Try.checked) false ⟨#[], #[], []⟩ 8 (by kernel_rfl) (by kernel_rfl) (by kernel_rfl) (by kernel_rfl)) ?_
  intro W base args ds gs before hval hW hcnd _
  have hW' : DataW.Whole enc Try.prog Try.f3.params.toList Rows.handleKnownSpec.vars false W args.toList ds gs before := hW
  obtain ⟨p, q, hA, hV, _⟩ := hW'
  rw [Try.params3] at hA
  obtain ⟨hargs, rfl, rfl⟩ := trodAll_nil hA
  obtain rfl : args = #[] := by cases args; simp_all
  refine (known_c (Sat.ofBase W)).mono fun e W' ⟨he, hs⟩ => ?_
  exact ⟨_, he, law_post (tb := 4) laidOut (by decide +kernel) (by kernel_rfl) Try.underlying4 rfl hW ⟨rfl, rfl, rfl⟩ (hs.below 0 rfl)⟩

theorem known_holds : Rows.HandleKnownSaid :=
  OpenClaim.holds_of_wide 3 Try.f3 rfl rfl rfl rfl rfl rfl rfl ⟨rfl, rfl, rfl, rfl, rfl⟩ rfl rfl rfl rfl rfl (by kernel_rfl) Try.func3 (by kernel_rfl)
    (of_decide_eq_true (by kernel_rfl)) (by unfold Func.isWrapper; first | (rw [if_pos (by decide +kernel)]; kernel_rfl) | (rw [if_neg (by decide +kernel)]; exact ⟨rfl, rfl⟩))
    (fun os started H enc _ => known_lifted os started H enc)
end Go.Proofs.Ytakcnpmmkpfhnaa
