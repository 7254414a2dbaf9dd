/- 'ArenaKnown' answers true: chapter 7's examples. No conditions. -/
import Derived.Test.YtmcifhineibhpaaBc
import Derived.Test.YtmcifhineibhpaaLaw
namespace Go.Proofs.Ytmcifhineibhpaa
open Go Go.Lw Go.Wd Go.Am Go.ChangeShapes Go.WideShapes Go.ChangeAt Go.RowKit

theorem fresh_c {n : Nat} (h1 : 1 ≤ n) (h2 : n ≤ 1048576) {F : List HP} {w : World} (hs : Sat F w) :
    Calls Try.prog 9 #[.int .i64 (n : Int)] w fun e w' => ∃ b, e = .returned (.pointer (some ⟨b, 0, none⟩)) ∧ Sat (Arena (Am.new n) b :: F) w' := by
  refine S_law7_fresh_ok _ _ _ ?_
  unfold S_law7_fresh
  refine (new2 h1 h2 hs).mono ?_
  rintro e w' ⟨b, rfl, hs'⟩
  exact ⟨_, _, rfl, cond_f rfl ⟨b, rfl, hs'⟩⟩

theorem put2_ok {m : Am} {b : Nat} {F : List HP} {w : World} (hs : Sat (Arena m b :: F) w) {k j x : Nat} {o : Ob} (hk : m.find k = some o) (hj : j < o.w.length) (hx : x < 18446744073709551616) :
    Calls Try.prog 12 #[.pointer (some ⟨b, 0, none⟩), .int .i64 (k : Int), .int .i64 (j : Int), .int .u64 (x : Int)] w (Ret (.int .i64 0) (Sat (Arena (m.set k (o.put j x)) b :: F))) := by
  refine (put2 hs k j hx).mono fun e w' h => ?_
  rcases h with ⟨h1, _⟩ | ⟨k', j', o', hk', hj', hf, _, h⟩
  · rw [findI_nat, hk] at h1
    simp [getO, hj] at h1
  · have e1 : k = k' := by omega
    have e2 : j = j' := by omega
    subst e1 e2
    rw [hk] at hf
    cases hf
    exact h

theorem awake_c {F : List HP} {w : World} (hs : Sat F w) : Calls Try.prog 8 #[] w (Ret (.bool true) (Sat F)) := by
  refine S_law7_awake_ok _ _ ?_
  unfold S_law7_awake
  refine (fresh_c (n := 10) (by omega) (by omega) hs).mono ?_
  rintro e w1 ⟨b, rfl, h1⟩
  refine ⟨_, rfl, cond_f rfl ?_⟩
  refine (alloc2 h1 (tag := 1) (refs := 1) (size := 2) (owner := 5) (by unfold Fit; omega) (by decide +kernel)).mono ?_
  rintro e w2 ⟨rfl, h2⟩
  refine ⟨_, _, rfl, ?_⟩
  refine (put2_ok h2 (k := 0) (j := 1) (x := 7) (o := Ob.fresh 1 1 2 5) rfl (by decide) (by omega)).mono ?_
  rintro e w3 ⟨rfl, h3⟩
  refine ⟨_, rfl, ?_⟩
  refine (get2 h3 0 1).mono ?_
  rintro e w4 ⟨rfl, h4⟩
  refine ⟨7, 0, rfl, ?_⟩
  refine cond_t rfl (cond_t rfl (cond_t rfl (cond_t rfl (cond_t rfl ?_))))
  refine (top2 h4).mono ?_
  rintro e w5 ⟨rfl, rfl⟩
  exact ⟨_, rfl, rfl, h4.drop⟩

theorem known_c {F : List HP} {w : World} (hs : Sat F w) : Calls Try.prog 5 #[] w (Ret (.bool true) (Sat F)) := by
  refine S_law7_ArenaKnown_ok _ _ ?_
  unfold S_law7_ArenaKnown
  refine (awake_c hs).mono ?_
  rintro e w' ⟨rfl, h0⟩
  refine ⟨_, rfl, cond_f rfl ?_⟩
  refine (fresh_c (n := 10) (by omega) (by omega) h0).mono ?_
  rintro e w1 ⟨b, rfl, h1⟩
  refine ⟨_, rfl, ?_⟩
  refine (alloc2 h1 (tag := 1) (refs := 1) (size := 2) (owner := 5) (by unfold Fit; omega) (by decide +kernel)).mono ?_
  rintro e w2 ⟨rfl, h2⟩
  refine ⟨_, _, rfl, ?_⟩
  refine (alloc2 h2 (tag := 2) (refs := 0) (size := 3) (owner := 6) (by unfold Fit; omega) (by decide +kernel)).mono ?_
  rintro e w3 ⟨rfl, h3⟩
  refine ⟨_, _, rfl, ?_⟩
  refine (alloc2_full h3 (tag := 3) (refs := 0) (size := 3) (owner := 7) (by unfold Fit; omega) (by decide +kernel)).mono ?_
  rintro e w4 ⟨rfl, h4⟩
  refine ⟨_, _, rfl, cond_f rfl (cond_f rfl (cond_f rfl (cond_f rfl (cond_f rfl ?_))))⟩
  refine (top2 h4).mono ?_
  rintro e w5 ⟨rfl, rfl⟩
  refine ⟨_, rfl, cond_f rfl ?_⟩
  refine (put2_ok h4 (k := 3) (j := 1) (x := 9) (o := Ob.fresh 2 0 3 6) rfl (by decide) (by omega)).mono ?_
  rintro e w6 ⟨rfl, h6⟩
  refine ⟨_, rfl, cond_f rfl ?_⟩
  refine (open2 h6).mono ?_
  intro e w7 hp
  rw [if_neg (by decide +kernel)] at hp
  obtain ⟨rfl, h7⟩ := hp
  refine ⟨_, rfl, cond_f rfl ?_⟩
  refine (skip2 h7 (o := Ob.fresh 1 1 2 5) (l := [(Ob.fresh 2 0 3 6).put 1 9]) rfl).mono ?_
  rintro e w8 ⟨rfl, h8⟩
  refine ⟨_, _, rfl, ?_⟩
  refine (keep2 h8 (o := (Ob.fresh 2 0 3 6).put 1 9) (l := []) rfl).mono ?_
  rintro e w9 ⟨rfl, h9⟩
  refine ⟨_, _, _, rfl, ?_⟩
  refine (close2 h9).mono ?_
  intro e w10 hp
  rw [if_pos (by decide +kernel), if_pos (by rfl)] at hp
  obtain ⟨rfl, h10⟩ := hp
  refine ⟨_, rfl, ?_⟩
  refine (get2 h10 0 1).mono ?_
  rintro e w11 ⟨rfl, h11⟩
  refine ⟨9, 0, rfl, ?_⟩
  refine cond_f rfl (cond_f rfl (cond_f rfl (cond_f rfl (cond_f rfl (cond_f rfl ?_)))))
  refine (top2 h11).mono ?_
  rintro e w12 ⟨rfl, rfl⟩
  refine ⟨_, rfl, cond_f rfl (cond_f rfl (cond_f rfl ?_))⟩
  refine (keep2_no h11 rfl).mono ?_
  rintro e w13 ⟨rfl, h13⟩
  refine ⟨0, 0, 16, rfl, ?_⟩
  refine (head2 h13 1).mono ?_
  rintro e w14 ⟨rfl, h14⟩
  refine ⟨0, 0, 0, false, 0, 1, rfl, ?_⟩
  refine (next2 h14 0).mono ?_
  rintro e w15 ⟨rfl, h15⟩
  refine ⟨4, 0, rfl, ?_⟩
  refine (arnew_no 0 (by omega) w15).mono ?_
  rintro e w16 ⟨rfl, rfl⟩
  refine ⟨_, _, rfl, ?_⟩
  exact cond_t rfl (cond_t rfl (cond_t rfl (cond_t rfl ⟨rfl, h15.drop⟩)))

theorem own : ownKnob Try.prog.godebug = none := by kernel_rfl
theorem laidOut : laidOutB Try.prog = true := by kernel_rfl

set_option maxRecDepth 100000 in
theorem known_lifted (os : Os) (started : os.Started) (H : Type) (enc : TypeId × Value → H) :
    ReturnsInHanded {} Try.checked os 5 .any (Rows.arenaKnownSpec.pre6 enc Try.prog Try.f5 Rows.arenaKnownRow.domain false) (Rows.arenaKnownSpec.post enc Try.prog Try.f5 false true false false) := by
  refine returnsInHanded_of_change (C := Try.checked) own started (by kernel_rfl) Try.func5
    (ChangeSpec.witness6 (enc := enc) (C := Try.checked) false ⟨#[], #[], []⟩ 8 (by kernel_rfl) (by kernel_rfl) (by kernel_rfl) (by kernel_rfl)) ?_
  intro W base args ds gs before hval hW hcnd _
  have hW' : DataW.Whole enc Try.prog Try.f5.params.toList Rows.arenaKnownSpec.vars false W args.toList ds gs before := hW
  obtain ⟨p, q, hA, hV, _⟩ := hW'
  rw [Try.params5] at hA
  obtain ⟨hargs, rfl, rfl⟩ := trodAll_nil hA
  obtain rfl : args = #[] := by cases args; simp_all
  refine (known_c (Sat.ofBase W)).mono fun e W' ⟨he, hs⟩ => ?_
  exact ⟨_, he, law_post (tb := 4) laidOut (by decide +kernel) (by kernel_rfl) Try.underlying4 rfl hW ⟨rfl, rfl, rfl⟩ (hs.below 0 rfl)⟩

theorem known_holds : Rows.ArenaKnownSaid :=
  OpenClaim.holds_of_wide 5 Try.f5 rfl rfl rfl rfl rfl rfl rfl ⟨rfl, rfl, rfl, rfl, rfl⟩ rfl rfl rfl rfl rfl (by kernel_rfl) Try.func5 (by kernel_rfl)
    (of_decide_eq_true (by kernel_rfl)) (by unfold Func.isWrapper; first | (rw [if_pos (by decide +kernel)]; kernel_rfl) | (rw [if_neg (by decide +kernel)]; exact ⟨rfl, rfl⟩))
    (fun os started H enc _ => known_lifted os started H enc)
end Go.Proofs.Ytmcifhineibhpaa
