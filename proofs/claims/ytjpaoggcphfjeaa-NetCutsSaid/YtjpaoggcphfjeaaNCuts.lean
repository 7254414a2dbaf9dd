/- 'NetCuts' answers true: cut off, two send one another nothing; joined, they do again. No conditions. -/
import Derived.Test.YtjpaoggcphfjeaaNKnown
namespace Go.Proofs.Ytjpaoggcphfjeaa
open Go Go.Lw Go.Tb Go.Wd Go.ChangeShapes Go.WideShapes Go.ChangeAt Go.RowKit

theorem pair_iff (a b c : Int) : (min a c == min a b && max a c == max a b) = (c == b) := by
  by_cases h : c = b
  · subst h; simp
  · have h1 : ¬ (min a c = min a b ∧ max a c = max a b) := by omega
    have h2 : (c == b) = false := by simpa using h
    rw [h2]
    by_cases e : min a c = min a b
    · have e2 : max a c ≠ max a b := fun e2 => h1 ⟨e, e2⟩
      simp [e2]
    · simp [e]

theorem cuts_c (W : World) (x y z : Int) : Calls Try.prog 3 #[.int .i64 x, .int .i64 y, .int .i64 z] W (Ret (.bool true) (Go.RowKit.Below W.heap.size W)) := by
  refine S_law24_NetCuts_ok _ _ _ _ _ ?_
  unfold S_law24_NetCuts
  refine (awake_c (Sat.ofBase W)).mono ?_
  rintro e w0 ⟨rfl, h0⟩
  refine ⟨_, rfl, cond_f rfl ?_⟩
  refine (fresh_c (n := 9) (by omega) (by omega) h0).mono ?_
  rintro e w1 ⟨b, rfl, h1⟩
  refine ⟨_, rfl, cond_f rfl ?_⟩
  refine (cut_c h1 x y true).mono ?_
  rintro e w2 ⟨rfl, h2⟩
  refine ⟨rfl, ?_⟩
  have off1 : ∀ p q : Int, ((Nt.new (α := Bare.α) 9).cut x y true).off p q = (p == min x y && q == max x y) := fun p q => rfl
  refine (msg_c x y 1 h2).mono ?_
  rintro e w3 ⟨rfl, h3⟩
  refine ⟨_, _, _, _, _, _, _, _, _, _, _, _, _, _, _, _, _, _, _, _, _, _, _, rfl, ?_⟩
  refine (sendB_off h3 x y 1 (by show (0 : Nat) + 1 < _; omega) (by show (0 : Nat) + 1 < _; omega) (by rw [off1]; simp)).mono ?_
  rintro e w4 ⟨rfl, h4⟩
  refine ⟨_, _, rfl, ?_⟩
  refine (msg_c y x 2 h4).mono ?_
  rintro e w5 ⟨rfl, h5⟩
  refine ⟨_, _, _, _, _, _, _, _, _, _, _, _, _, _, _, _, _, _, _, _, _, _, _, rfl, ?_⟩
  refine (sendB_off h5 y x 2 (by show (0 : Nat) + 1 < _; omega) (by show (1 : Nat) + 1 < _; omega) (by show ((Nt.new (α := Bare.α) 9).cut x y true).off _ _ = true; rw [off1, Int.min_comm, Int.max_comm]; simp)).mono ?_
  rintro e w6 ⟨rfl, h6⟩
  refine ⟨_, _, rfl, ?_⟩
  refine (msg_c x z 3 h6).mono ?_
  rintro e w7 ⟨rfl, h7⟩
  refine ⟨_, _, _, _, _, _, _, _, _, _, _, _, _, _, _, _, _, _, _, _, _, _, _, rfl, ?_⟩
  have offz : (((Nt.new (α := Bare.α) 9).cut x y true).lose.lose).off (min x z) (max x z) = (z == y) := (off1 _ _).trans (pair_iff x y z)
  -- what stands behind: all are joined again
  have rest : ∀ (N : Nt Bare.α) (w8 : World) (r lost : Nat), N.off = ((Nt.new (α := Bare.α) 9).cut x y true).off → N.most = 9 → N.l.length = r → N.last = r → N.lost = lost → r ≤ 1 → lost = (if z = y then 3 else 2) → r = (if z = y then 0 else 1) → Sat [NetB N b, Base W] w8 →
      Calls Try.prog 10 #[.pointer (some ⟨b, 0, none⟩), .int .i64 y, .int .i64 x, .bool false] w8 fun e9 w9 => e9 = .returned (.tuple #[]) ∧
        Calls Try.prog 12 #[.int .i64 x, .int .i64 y, .int .i64 4] w9 fun e10 w10 => e10 = .returned (msgOf x y 4).agg ∧
          Calls Try.prog 11 #[.pointer (some ⟨b, 0, none⟩), (msgOf x y 4).agg] w10 fun e11 w11 => e11 = .returned (.tuple #[.int .i64 ((r + 1 : Nat) : Int), .int .i64 0]) ∧
            Calls Try.prog 13 #[.pointer (some ⟨b, 0, none⟩)] w11 fun e12 w12 => e12 = .returned (.int .i64 (lost : Int)) ∧ Go.RowKit.Below W.heap.size W w12 := by
    intro N w8 r lost e1 e2 e3 e4 e5 hr hl hre h8
    refine (cut_c h8 y x false).mono ?_
    rintro e w9 ⟨rfl, h9⟩
    refine ⟨rfl, (msg_c x y 4 h9).mono ?_⟩
    rintro e w10 ⟨rfl, h10⟩
    refine ⟨rfl, ?_⟩
    have o1 : (N.cut y x false).off (min x y) (max x y) = false := by
      show (N.off (min x y) (max x y) && !(min x y == min y x && max x y == max y x)) = false
      rw [Int.min_comm y x, Int.max_comm y x]; simp
    have hl' : (if z = y then (3 : Nat) else 2) ≤ 3 := by split <;> omega
    refine (sendB_ok h10 x y 4 (by show N.last + 1 < _; omega) (by show N.lost + 1 < _; omega) o1 (by show N.l.length < N.most; omega)).mono ?_
    rintro e w11 ⟨rfl, h11⟩
    have e6 : (N.cut y x false).last = r := e4
    refine ⟨by rw [e6], (lost_c h11).mono ?_⟩
    rintro e w12 ⟨rfl, rfl⟩
    refine ⟨?_, h11.below 1 rfl⟩
    have e7 : ((N.cut y x false).add (msgOf x y 4)).lost = lost := e5
    rw [e7]
  by_cases hzy : z = y
  · refine (sendB_off h7 x z 3 (by show (0 : Nat) + 1 < _; omega) (by show (2 : Nat) + 1 < _; omega) (by rw [offz]; simp [hzy])).mono ?_
    rintro e w8 ⟨rfl, h8⟩
    refine ⟨_, _, rfl, ?_⟩
    refine (rest (((Nt.new (α := Bare.α) 9).cut x y true).lose.lose.lose) w8 0 3 rfl rfl rfl rfl rfl (by omega) (by rw [if_pos hzy]) (by rw [if_pos hzy]) h8).mono ?_
    rintro e w9 ⟨rfl, h9⟩
    refine ⟨rfl, h9.mono ?_⟩
    rintro e w10 ⟨rfl, h10⟩
    refine ⟨_, _, _, _, _, _, _, _, _, _, _, _, _, _, _, _, _, _, _, _, _, _, _, rfl, h10.mono ?_⟩
    rintro e w11 ⟨rfl, h11⟩
    refine ⟨_, _, rfl, ?_⟩
    intro k0 hk0
    have fin : k0 3 0 w11 := by
      refine hk0 _ _ _ ?_
      unfold S_law24_NetCuts_j1
      intro k1 hk1
      have fin1 : k1 3 0 w11 := by
        refine hk1 _ _ _ ?_
        unfold S_law24_NetCuts_j0
        refine cond_t rfl (cond_t rfl (cond_t rfl (cond_t rfl (cond_t rfl (cond_t rfl (cond_t (by decide) (cond_t rfl ?_)))))))
        refine h11.mono ?_
        rintro e w12 ⟨rfl, h12⟩
        exact ⟨_, rfl, rfl, h12⟩
      by_cases hxy : x = y
      · refine cond_t (by simpa using hxy) ?_
        by_cases hzx : z = x
        · exact cond_t (by simpa using hzx) fin1
        · exact cond_f (by simpa using hzx) fin1
      · exact cond_f (by simpa using hxy) fin1
    exact cond_t (by simpa using hzy) fin
  · refine (sendB_ok h7 x z 3 (by show (0 : Nat) + 1 < _; omega) (by show (2 : Nat) + 1 < _; omega) (by rw [offz]; simp [hzy]) (by show (0 : Nat) < 9; omega)).mono ?_
    rintro e w8 ⟨rfl, h8⟩
    refine ⟨_, _, rfl, ?_⟩
    refine (rest (((Nt.new (α := Bare.α) 9).cut x y true).lose.lose.add (msgOf x z 3)) w8 1 2 rfl rfl rfl rfl rfl (by omega) (by rw [if_neg hzy]) (by rw [if_neg hzy]) h8).mono ?_
    rintro e w9 ⟨rfl, h9⟩
    refine ⟨rfl, h9.mono ?_⟩
    rintro e w10 ⟨rfl, h10⟩
    refine ⟨_, _, _, _, _, _, _, _, _, _, _, _, _, _, _, _, _, _, _, _, _, _, _, rfl, h10.mono ?_⟩
    rintro e w11 ⟨rfl, h11⟩
    refine ⟨_, _, rfl, ?_⟩
    intro k0 hk0
    have fin : k0 2 1 w11 := by
      refine hk0 _ _ _ ?_
      unfold S_law24_NetCuts_j1
      intro k1 hk1
      have fin1 : k1 2 1 w11 := by
        refine hk1 _ _ _ ?_
        unfold S_law24_NetCuts_j0
        refine cond_t rfl (cond_t rfl (cond_t rfl (cond_t rfl (cond_t rfl (cond_t rfl (cond_t (by decide) (cond_t rfl ?_)))))))
        refine h11.mono ?_
        rintro e w12 ⟨rfl, h12⟩
        exact ⟨_, rfl, rfl, h12⟩
      by_cases hxy : x = y
      · refine cond_t (by simpa using hxy) ?_
        exact cond_f (by simpa using fun hzx : z = x => hzy (hzx.trans hxy)) fin1
      · exact cond_f (by simpa using hxy) fin1
    exact cond_f (by simpa using hzy) fin

set_option maxRecDepth 100000 in
theorem cuts_lifted (os : Os) (started : os.Started) (H : Type) (enc : TypeId × Value → H) :
    ReturnsInHanded {} Try.checked os 3 .any (Rows.netCutsSpec.pre6 enc Try.prog Try.f3 Rows.netCutsRow.domain false) (Rows.netCutsSpec.post enc Try.prog Try.f3 false true false false) := by
  refine returnsInHanded_of_change (C := Try.checked) own started (by kernel_rfl) Try.func3
    (ChangeSpec.witness6 (enc := enc) (C := Try.checked) false ⟨#[], #[.int .i64 0, .int .i64 0, .int .i64 0], []⟩ 8 (by kernel_rfl) (by kernel_rfl) (by kernel_rfl) (by kernel_rfl)) ?_
  intro W base args ds gs before hval hW hcnd _
  have hval : ∀ (j : Nat) t v, Try.f3.params[j]? = some t → args[j]? = some v → Value.okWide Try.prog W .any base t v := hval
  have hW' : DataW.Whole enc Try.prog Try.f3.params.toList Rows.netCutsSpec.vars false W args.toList ds gs before := hW
  obtain ⟨p, q, hA, hV, _⟩ := hW'
  rw [Try.params3] at hA hval
  obtain ⟨v0, v1, v2, d0, d1, d2, p0, p1, p2, rfl, rfl, rfl, h0, h1, h2⟩ := trodAll_three hA
  obtain ⟨n0, rfl, rfl, rfl, wn0⟩ := open_int Try.underlying3 (hval 0 3 v0 rfl rfl) h0
  obtain ⟨n1, rfl, rfl, rfl, wn1⟩ := open_int Try.underlying3 (hval 1 3 v1 rfl rfl) h1
  obtain ⟨n2, rfl, rfl, rfl, wn2⟩ := open_int Try.underlying3 (hval 2 3 v2 rfl rfl) h2
  refine (cuts_c W n0 n1 n2).mono fun e W' ⟨he, hs⟩ => ?_
  exact ⟨_, he, law_post (tb := 4) laidOut (by decide +kernel) (by kernel_rfl) Try.underlying4 rfl hW ⟨rfl, rfl, rfl⟩ hs⟩

theorem cuts_holds : Rows.NetCutsSaid :=
  OpenClaim.holds_of_wide 3 Try.f3 rfl rfl rfl rfl rfl rfl rfl ⟨rfl, rfl, rfl, rfl, rfl⟩ rfl rfl rfl rfl rfl (by kernel_rfl) Try.func3 (by kernel_rfl)
    (of_decide_eq_true (by kernel_rfl)) (by unfold Func.isWrapper; first | (rw [if_pos (by decide +kernel)]; kernel_rfl) | (rw [if_neg (by decide +kernel)]; exact ⟨rfl, rfl⟩))
    (fun os started H enc _ => cuts_lifted os started H enc)
end Go.Proofs.Ytjpaoggcphfjeaa
