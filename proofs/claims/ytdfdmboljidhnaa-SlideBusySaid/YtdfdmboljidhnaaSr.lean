
/- What the package slide's functions come to, over a collector as data. -/
import Derived.Test.YtdfdmboljidhnaaSe
import Derived.Test.YtdfdmboljidhnaaSq
set_option maxRecDepth 100000
namespace Go.Hm
open Go Go.Lw Go.Wd Go.Am Go.Tb
/-- how far the counts may rise until the collection's end. -/
def mvB (c : Cd) : Nat := c.mv + if c.ph = 0 then 0 else if c.ph = 1 then c.H.m.low.length + c.H.m.high.length else c.H.m.high.length
def roB (c : Cd) : Nat := c.ro + if c.ph = 0 then 0 else 1
section
variable {B : Nat} {c : Cd}
theorem mv_le (c : Cd) : c.mv ≤ mvB c := Nat.le_add_right _ _
theorem ro_le (c : Cd) : c.ro ≤ roB c := Nat.le_add_right _ _
theorem mvB_slC (hB : B + 2 < 4294967296) (h : Sl c.H) (hg : Gd B c.H) (n : Nat) : mvB (slC n c).1 ≤ c.mv + c.H.m.high.length := by
  unfold slC
  split
  · have hm := many hB n c.mv h hg
    have hl : (slN n (c.H, c.mv)).1.m.high.length = c.H.m.high.length - n := by rw [hm.high, List.length_drop]
    have := slN_mv n (c.H, c.mv)
    unfold mvB
    dsimp only at this ⊢
    rw [if_neg (by omega), if_neg (by omega), hl]
    omega
  · have := slN_mv c.H.m.high.length (c.H, c.mv)
    unfold mvB
    dsimp only at this ⊢
    rw [if_pos rfl]
    omega
theorem mvB_step (hB : B + 2 < 4294967296) (h : Ci B c) (h0 : c.ph ≠ 0) (n : Nat) : mvB (stepC n c).1 ≤ mvB c := by
  unfold stepC
  split
  · rename_i hp
    obtain ⟨r1, r2⟩ := (units_rw n (s := (c.H, c.st)) h.wf).lens
    unfold mvB
    dsimp only at r1 r2 ⊢
    rw [if_neg (by omega), if_pos rfl, if_neg h0, if_pos hp.1, r1, r2]
    exact Nat.le_refl _
  · rename_i hp
    have hst : c.ph = 1 → c.st = [] := fun e => Classical.byContradiction fun hh => hp ⟨e, hh⟩
    obtain ⟨g1, g2, g3, g4, g5, g6⟩ := open_ok h h0 hst
    refine Nat.le_trans (mvB_slC hB g4 g1.ci.gd n) ?_
    rw [g6]
    unfold mvB openC
    rw [if_neg h0]
    by_cases e : c.ph = 1
    · rw [if_pos e, if_pos e]
      show c.mv + c.H.m.low.length ≤ _
      omega
    · rw [if_neg e, if_neg e]
      exact Nat.le_refl _
theorem roB_step (h0 : c.ph ≠ 0) (n : Nat) : roB (stepC n c).1 = roB c := by
  unfold stepC
  split
  · unfold roB
    dsimp only
    rw [if_neg (by omega), if_neg h0]
  · have e : (openC c).ro = c.ro := by unfold openC; split <;> rfl
    unfold slC
    split
    · unfold roB
      dsimp only
      rw [if_neg (by omega), if_neg h0, e]
    · unfold roB
      dsimp only
      rw [if_pos rfl, if_neg h0, e]
theorem end_step2 {n : Nat} (hB : B + 2 < 4294967296) (h : Ci B c) (h0 : c.ph = 0) : endC c = c := by unfold endC; rw [if_pos h0]
theorem mvB_end (hB : B + 2 < 4294967296) (h : Ci B c) : (endC c).mv ≤ mvB c ∧ (endC c).ro = roB c := by
  unfold endC
  by_cases h0 : c.ph = 0
  · rw [if_pos h0]
    exact ⟨mv_le c, by unfold roB; rw [if_pos h0, Nat.add_zero]⟩
  · rw [if_neg h0]
    obtain ⟨g1, g2, g3, g4, g5⟩ := mark_ok h h0
    obtain ⟨k1, k2, k3, k4, k5, k6⟩ := open_ok g1.ci (by rw [g2]; exact h0) (fun e => g3 (g2.symm.trans e))
    have h1 := mvB_slC hB k4 k1.ci.gd ((openC (markC c)).H.m.high.length + 1)
    have h2 : (openC (markC c)).mv + (openC (markC c)).H.m.high.length ≤ mvB c := by
      rw [k6, g5]
      unfold mvB openC
      rw [if_neg h0, g2]
      by_cases e : c.ph = 1
      · rw [if_pos e, if_pos e]
        have hr : (units (pot (c.H, c.st)) (c.H, c.st)).1.m.low.length = c.H.m.low.length := (units_rw (pot (c.H, c.st)) (s := (c.H, c.st)) h.wf).lens.1
        have : (markC c).H = (units (pot (c.H, c.st)) (c.H, c.st)).1 := by unfold markC; rw [if_pos e]
        show c.mv + (markC c).H.m.low.length ≤ _
        rw [this, hr]
        omega
      · have : markC c = c := by unfold markC; rw [if_neg e]
        rw [if_neg e, if_neg e, this]
        exact Nat.le_refl _
    refine ⟨Nat.le_trans (mv_le _) (Nat.le_trans h1 h2), ?_⟩
    unfold slC
    rw [if_neg (by omega)]
    dsimp only
    rw [k5, g4]
    unfold roB
    rw [if_neg h0]
end
end Go.Hm
namespace Go.Proofs.Ytdfdmboljidhnaa
open Go Go.Lw Go.Wd Go.Am Go.Tb Go.Hm

/-- who watches. -/
def wvC (ph mb cb : Nat) : Value := if ph = 0 then .nilIface else if ph = 1 then mkW mb else coW cb
/-- a collector, its heap and its marker. -/
def CL (c : Cd) (b cb mb : Nat) (F : List HP) : List HP := HeapH c.H (wvC c.ph mb cb) b :: CoR b cb mb c.ph c.ro c.mv :: MkH b mb c.st (c.ph == 1) :: F

section
variable {c : Cd} {B b cb mb : Nat} {F : List HP} {w : World}
theorem snew_c {H : Hp} (hs : Sat (HeapH H .nilIface b :: F) w) : Calls Try.prog 12 #[.pointer (some ⟨b, 0, none⟩)] w fun e w' =>
    ∃ cb mb, e = .returned (.pointer (some ⟨cb, 0, none⟩)) ∧ Sat (CL ⟨H, [], 0, 0, 0⟩ b cb mb F) w' := by
  refine S_slide_New_ok _ _ _ ?_
  unfold S_slide_New
  refine (mnew_c hs).mono ?_
  rintro e w1 ⟨mb, rfl, h1⟩
  refine ⟨_, rfl, ?_⟩
  refine NewC.ofRow h1 fun cb w2 h2 => ?_
  exact ⟨cb, mb, rfl, Sat.p1 h2⟩
section
variable {L : List HP} {ph ro mv : Nat}
theorem sphase_c (hs : Sat L w) (i : Nat) (hi : L[i]? = some (CoR b cb mb ph ro mv)) : Calls Try.prog 14 #[.pointer (some ⟨cb, 0, none⟩)] w fun e w' => e = .returned (.int .i64 (ph : Int)) ∧ w = w' := by
  refine S_slide_Collector_Phase_ok _ _ _ ?_
  unfold S_slide_Collector_Phase
  simp only [onSome_some]
  exact LdI.of hs i hi (off := 2) rfl (add_mk _ _ _) ⟨rfl, trivial⟩
theorem srounds_c (hs : Sat L w) (i : Nat) (hi : L[i]? = some (CoR b cb mb ph ro mv)) : Calls Try.prog 19 #[.pointer (some ⟨cb, 0, none⟩)] w fun e w' => e = .returned (.int .i64 (ro : Int)) ∧ w = w' := by
  refine S_slide_Collector_Rounds_ok _ _ _ ?_
  unfold S_slide_Collector_Rounds
  simp only [onSome_some]
  exact LdI.of hs i hi (off := 3) rfl (add_mk _ _ _) ⟨rfl, trivial⟩
theorem smoved_c (hs : Sat L w) (i : Nat) (hi : L[i]? = some (CoR b cb mb ph ro mv)) : Calls Try.prog 20 #[.pointer (some ⟨cb, 0, none⟩)] w fun e w' => e = .returned (.int .i64 (mv : Int)) ∧ w = w' := by
  refine S_slide_Collector_Moved_ok _ _ _ ?_
  unfold S_slide_Collector_Moved
  simp only [onSome_some]
  exact LdI.of hs i hi (off := 4) rfl (add_mk _ _ _) ⟨rfl, trivial⟩
end
theorem sstart_c (hs : Sat (CL c b cb mb F) w) (h : Ci B c) (hp : c.ph = 0) : Calls Try.prog 18 #[.pointer (some ⟨cb, 0, none⟩)] w (Ret (.int .i64 0) (Sat (CL (startC c) b cb mb F))) := by
  obtain ⟨g1, g2, g3⟩ := h.ph0 hp
  unfold CL at hs ⊢
  rw [hp, g1] at hs
  refine S_slide_Collector_Start_ok _ _ _ ?_
  unfold S_slide_Collector_Start
  simp only [onSome_some]
  refine LdI.of hs 1 rfl (off := 2) rfl (add_mk _ _ _) ?_
  refine cond_f rfl ?_
  refine StC.of hs 1 rfl (off := 2) rfl (add_mk _ _ _) fun w1 h1 => ?_
  have h1 : Sat (HeapH c.H .nilIface b :: CoR b cb mb 1 c.ro c.mv :: MkH b mb [] false :: F) w1 := h1
  refine LdP.of h1 1 rfl (off := 1) rfl (add_mk _ _ _) ?_
  refine (mstart_c (h1.pull 2 rfl).p1 g2).mono ?_
  rintro e w2 ⟨rfl, h2⟩
  exact ⟨_, rfl, rfl, h2.pull 2 rfl |>.p1⟩
theorem sstart_no (hs : Sat (CL c b cb mb F) w) (hp : c.ph ≠ 0) : Calls Try.prog 18 #[.pointer (some ⟨cb, 0, none⟩)] w (Ret (.int .i64 16) (Sat (CL c b cb mb F))) := by
  refine S_slide_Collector_Start_ok _ _ _ ?_
  unfold S_slide_Collector_Start
  simp only [onSome_some]
  refine LdI.of (show Sat (HeapH c.H (wvC c.ph mb cb) b :: CoR b cb mb c.ph c.ro c.mv :: MkH b mb c.st (c.ph == 1) :: F) w from hs) 1 rfl (off := 2) rfl (add_mk _ _ _) ?_
  exact cond_t (by simp; omega) ⟨rfl, hs⟩
/-- while it is sliding. -/
def midC (c : Cd) (k : Nat) : Cd := ⟨(slN k (c.H, c.mv)).1, [], 2, c.ro, (slN k (c.H, c.mv)).2⟩
theorem sl_wv (hp : c.ph = 2) : wvC c.ph mb cb = coW cb ∧ (c.ph == 1) = false := by
  unfold wvC
  rw [hp]
  exact ⟨rfl, rfl⟩
set_option maxHeartbeats 2000000 in
theorem sstep_c (hs : Sat (CL c b cb mb F) w) (hB : B + 2 < 4294967296) (h : Ci B c) (hk : Pk c) (h0 : c.ph ≠ 0) {n : Nat} (hn : 1 ≤ n) (hn2 : n ≤ 1048576) (hro : roB c < 2305843009213693952) (hmv : mvB c < 2305843009213693952) :
    Calls Try.prog 13 #[.pointer (some ⟨cb, 0, none⟩), .int .i64 (n : Int)] w (Ret (.tuple #[.bool (stepC n c).2, .int .i64 0]) (Sat (CL (stepC n c).1 b cb mb F))) := by
  have hro1 := ro_le c
  have hs1 : Sat (HeapH c.H (wvC c.ph mb cb) b :: CoR b cb mb c.ph c.ro c.mv :: MkH b mb c.st (c.ph == 1) :: F) w := hs
  refine S_slide_Collector_Step_ok _ _ _ _ ?_
  unfold S_slide_Collector_Step
  refine ⟨fun l n' w => if l = 0 then ∃ k : Nat, n' = n - k ∧ k < n ∧ k ≤ (openC c).H.m.high.length ∧ (c.ph = 1 → c.st = []) ∧ Sat (CL (midC (openC c) k) b cb mb F) w else n' = n ∧ c.ph = 1 ∧ c.st ≠ [] ∧ Sat (CL c b cb mb F) w, fun n' _ => n'.toNat, ?_, ?_, ?_, trivial⟩
  · simp only [onSome_some]
    refine LdI.of hs1 1 rfl (off := 2) rfl (add_mk _ _ _) ?_
    refine cond_f (by simp; omega) ?_
    refine cond_f (by simp; omega) ?_
    refine LdI.of hs1 1 rfl (off := 2) rfl (add_mk _ _ _) ?_
    by_cases hp : c.ph = 1
    · refine cond_f (by simp [hp]) ?_
      rw [hp] at hs1
      have hs2 : Sat (HeapH c.H (mkW mb) b :: CoR b cb mb 1 c.ro c.mv :: MkH b mb c.st true :: F) w := hs1
      refine LdP.of hs2 1 rfl (off := 1) rfl (add_mk _ _ _) ?_
      refine (mwaiting_c (hs2.pull 2 rfl).p1).mono ?_
      rintro e w1 ⟨rfl, rfl⟩
      refine ⟨_, rfl, ?_⟩
      by_cases hst : c.st = []
      · obtain ⟨q1, q2, q3⟩ := h.ph1 hp
        refine cond_f (by simp [hst]) ?_
        refine LdP.of hs2 1 rfl (off := 1) rfl (add_mk _ _ _) ?_
        refine (mstop_c (hs2.pull 2 rfl).p1).mono ?_
        intro e w1 hpost
        rw [if_pos rfl] at hpost
        obtain ⟨rfl, h1⟩ := hpost
        refine ⟨_, rfl, ?_⟩
        have h1 : Sat (HeapH c.H .nilIface b :: MkH b mb [] false :: CoR b cb mb 1 c.ro c.mv :: F) w1 := h1
        refine LdP.of h1 2 rfl (off := 0) rfl rfl ?_
        refine (harena_c h1).mono ?_
        rintro e w2 ⟨rfl, ba, bt, rfl, h2⟩
        refine ⟨_, rfl, ?_⟩
        refine (open2 (h2.pull 1 rfl)).mono ?_
        intro e w2 hpost
        rw [if_neg (by rw [q2]; decide)] at hpost
        obtain ⟨rfl, h3⟩ := hpost
        refine ⟨_, rfl, ?_⟩
        have h3 : Sat (Arena c.H.opened.m ba :: Row b (hrow ba bt c.H.opened.roots .nilIface) 88 :: Tbl c.H.opened.t bt :: MkH b mb [] false :: CoR b cb mb 1 c.ro c.mv :: F) w2 := h3
        have h4 : Sat (HeapH c.H.opened .nilIface b :: MkH b mb [] false :: CoR b cb mb 1 c.ro c.mv :: F) w2 := heap_shut (opened_wf2 h.wf q2) (ba := ba) (bt := bt) h3.p1
        refine LdP.of h4 2 rfl (off := 0) rfl rfl ?_
        refine (watch_c (v' := coW cb) rfl h4).mono ?_
        rintro e w3 ⟨rfl, h5⟩
        refine ⟨rfl, ?_⟩
        refine StC.of h5 2 rfl (off := 2) rfl (add_mk _ _ _) fun w4 h6 => ?_
        rw [if_pos trivial]
        refine ⟨0, by omega, by omega, by omega, fun _ => hst, ?_⟩
        have e1 : openC c = ⟨c.H.opened, [], 2, c.ro, c.mv⟩ := by unfold openC; rw [if_pos hp]
        rw [e1]
        exact Sat.p1 (Sat.pull h6 2 rfl)
      · refine cond_t ?_ ?_
        · have := List.length_pos_iff.2 hst
          simp; omega
        · rw [if_neg (by decide)]
          exact ⟨trivial, hp, hst, hs⟩
    · obtain ⟨q1, q2, q3⟩ := h.ph2 h0 hp
      refine cond_t (by simp [q1]) ?_
      rw [if_pos trivial]
      refine ⟨0, by omega, by omega, by omega, fun e => absurd e hp, ?_⟩
      have e1 : openC c = c := by unfold openC; rw [if_neg hp]
      rw [e1]
      unfold CL at hs ⊢
      rw [q1, q2] at hs
      exact hs
  · intro n3 w6 hI
    rw [if_pos rfl] at hI
    obtain ⟨k, rfl, hkn, hkl, hst, h1⟩ := hI
    obtain ⟨g1, g2, g3, g4, g5, g6⟩ := open_ok h h0 hst
    have hmv2 : (openC c).mv + (openC c).H.m.high.length ≤ mvB c := by
      rw [g6]
      unfold mvB openC
      rw [if_neg h0]
      by_cases e : c.ph = 1
      · rw [if_pos e, if_pos e]
        show c.mv + c.H.m.low.length ≤ _
        omega
      · rw [if_neg e, if_neg e]
        exact Nat.le_refl _
    have hstep : stepC n c = slC n (openC c) := by
      unfold stepC
      rw [if_neg (fun hh => hh.2 (hst hh.1))]
    have hm := many hB k (openC c).mv g4 g1.ci.gd
    have hmvk := slN_mv k ((openC c).H, (openC c).mv)
    unfold S_slide_Collector_Step_g0
    generalize hO : openC c = d at *
    have h1 : Sat (HeapH (slN k (d.H, d.mv)).1 (coW cb) b :: CoR b cb mb 2 d.ro (slN k (d.H, d.mv)).2 :: MkH b mb [] false :: F) w6 := h1
    refine (slide_c h1 hm.sl hm.gd hB (by omega) (by dsimp only at hmvk; omega)).mono ?_
    intro e w7 hpost
    have hhl : (slN k (d.H, d.mv)).1.m.high.length = d.H.m.high.length - k := by rw [hm.high, List.length_drop]
    by_cases hnil : (slN k (d.H, d.mv)).1.m.high = []
    · rw [if_pos hnil] at hpost
      obtain ⟨rfl, h2⟩ := hpost
      rw [hnil] at hhl
      simp only [List.length_nil] at hhl
      have ek : k = d.H.m.high.length := by omega
      refine ⟨_, rfl, cond_t rfl ⟨?_, ?_⟩⟩
      · rw [hstep]; unfold slC; rw [if_neg (by omega)]
      · rw [hstep]
        unfold slC
        rw [if_neg (by omega), ← ek]
        exact h2
    · rw [if_neg hnil] at hpost
      obtain ⟨rfl, h2⟩ := hpost
      have hpos : 0 < (slN k (d.H, d.mv)).1.m.high.length := List.length_pos_iff.2 hnil
      have e2 : slN (k + 1) (d.H, d.mv) = (sl1 (slN k (d.H, d.mv)).1, (slN k (d.H, d.mv)).2 + mv1 (slN k (d.H, d.mv)).1) := by rw [slN_add]; rfl
      have h3 : Sat (CL (midC d (k + 1)) b cb mb F) w7 := by
        unfold CL midC
        rw [e2]
        exact h2
      refine ⟨_, rfl, cond_f rfl ?_⟩
      have ew : IntKind.wrap .i64 ((n : Int) - (k : Int) - 1) = (n : Int) - ((k + 1 : Nat) : Int) := by rw [wrapI64 (by omega) (by omega)]; omega
      rw [ew]
      by_cases hlt : k + 1 < n
      · refine cond_t (by simp; omega) ⟨?_, by dsimp only; omega⟩
        dsimp only
        rw [if_pos rfl]
        exact ⟨k + 1, rfl, hlt, by omega, hst, h3⟩
      · have en : n = k + 1 := by omega
        refine cond_f (by simp; omega) ⟨?_, ?_⟩
        · rw [hstep]; unfold slC; rw [if_pos (by omega)]
        · rw [hstep]
          unfold slC
          rw [if_pos (by omega), en]
          exact h3
  · intro n3 w6 hI
    rw [if_neg (by decide)] at hI
    obtain ⟨rfl, hp, hst, h1⟩ := hI
    obtain ⟨q1, q2, q3⟩ := h.ph1 hp
    unfold S_slide_Collector_Step_g1
    simp only [onSome_some]
    have e1 : stepC n c = (⟨(units n (c.H, c.st)).1, (units n (c.H, c.st)).2, 1, c.ro, c.mv⟩, false) := by unfold stepC; rw [if_pos ⟨hp, hst⟩]
    rw [e1]
    unfold CL at h1
    rw [hp] at h1
    have h2 : Sat (HeapH c.H (mkW mb) b :: CoR b cb mb 1 c.ro c.mv :: MkH b mb c.st true :: F) w6 := h1
    refine LdP.of h2 1 rfl (off := 1) rfl (add_mk _ _ _) ?_
    refine (mstep_c (h2.pull 2 rfl).p1 hn (by omega) (hk hp) (inv_small q1)).mono ?_
    rintro e w7 ⟨rfl, h3⟩
    exact ⟨_, _, rfl, rfl, Sat.p1 (Sat.pull h3 2 rfl)⟩
theorem sstep_no (hs : Sat (CL c b cb mb F) w) (n : Int) (h0 : c.ph = 0 ∨ n < 1) : Calls Try.prog 13 #[.pointer (some ⟨cb, 0, none⟩), .int .i64 n] w (Ret (.tuple #[.bool false, .int .i64 (if c.ph = 0 then 16 else 1)]) (Sat (CL c b cb mb F))) := by
  have hs1 : Sat (HeapH c.H (wvC c.ph mb cb) b :: CoR b cb mb c.ph c.ro c.mv :: MkH b mb c.st (c.ph == 1) :: F) w := hs
  refine S_slide_Collector_Step_ok _ _ _ _ ?_
  unfold S_slide_Collector_Step
  refine ⟨fun _ _ _ => False, fun _ _ => 0, ?_, fun _ _ hh => hh.elim, fun _ _ hh => hh.elim, trivial⟩
  simp only [onSome_some]
  refine LdI.of hs1 1 rfl (off := 2) rfl (add_mk _ _ _) ?_
  by_cases hp : c.ph = 0
  · rw [if_pos hp]
    exact cond_t (by simp [hp]) ⟨rfl, hs⟩
  · rw [if_neg hp]
    refine cond_f (by simp; omega) ?_
    exact cond_t (by simpa using h0.resolve_left hp) ⟨rfl, hs⟩
theorem least_ex (P : Nat → World → Prop) : ∃ M : World → Nat, ∀ w, (∃ m, P m w) → P (M w) w ∧ ∀ k, P k w → M w ≤ k := by
  have key : ∀ w, ∃ m, (∃ m, P m w) → P m w ∧ ∀ k, P k w → m ≤ k := by
    intro w
    by_cases h : ∃ m, P m w
    · obtain ⟨m, hm⟩ := h
      induction m using Nat.strongRecOn with
      | _ m ih =>
        by_cases hl : ∃ k, k < m ∧ P k w
        · obtain ⟨k, hk, hp⟩ := hl
          exact ih k hk hp
        · exact ⟨m, fun _ => ⟨hm, fun k hk => Nat.le_of_not_lt fun hh => hl ⟨k, hh, hk⟩⟩⟩
    · exact ⟨0, fun hh => absurd hh h⟩
  exact ⟨fun w => (key w).choose, fun w => (key w).choose_spec⟩
theorem send_c (hs : Sat (CL c b cb mb F) w) (hB : B + 2 < 4294967296) (h : Ci B c) (hk : Pk c) (hro : roB c < 2305843009213693952) (hmv : mvB c < 2305843009213693952) :
    Calls Try.prog 52 #[.pointer (some ⟨cb, 0, none⟩)] w (Ret (.tuple #[]) (Sat (CL (endC c) b cb mb F))) := by
  refine S_slide_Collector_end_ok _ _ _ ?_
  unfold S_slide_Collector_end
  obtain ⟨M, hM⟩ := least_ex fun m w => ∃ d, Ci B d ∧ Pk d ∧ roB d < 2305843009213693952 ∧ mvB d < 2305843009213693952 ∧ endC d = endC c ∧ muC d = m ∧ Sat (CL d b cb mb F) w
  refine ⟨fun w => ∃ m d, Ci B d ∧ Pk d ∧ roB d < 2305843009213693952 ∧ mvB d < 2305843009213693952 ∧ endC d = endC c ∧ muC d = m ∧ Sat (CL d b cb mb F) w, M, ⟨_, c, h, hk, hro, hmv, rfl, rfl, hs⟩, ?_⟩
  intro w0 hI
  obtain ⟨⟨d, d1, d2, d3, d4, d5, d6, d7⟩, _⟩ := hM w0 hI
  unfold S_slide_Collector_end_l0
  simp only [onSome_some]
  refine LdI.of (show Sat (HeapH d.H (wvC d.ph mb cb) b :: CoR b cb mb d.ph d.ro d.mv :: MkH b mb d.st (d.ph == 1) :: F) w0 from d7) 1 rfl (off := 2) rfl (add_mk _ _ _) ?_
  by_cases hp : d.ph = 0
  · refine cond_f (by simp [hp]) ⟨rfl, ?_⟩
    rw [← d5]
    unfold endC
    rw [if_pos hp]
    exact d7
  · refine cond_t (by simp; omega) ?_
    refine (sstep_c d7 hB d1 d2 hp (n := 1048576) (by omega) (Nat.le_refl _) d3 d4).mono ?_
    rintro e w1 ⟨rfl, h1⟩
    refine ⟨_, _, rfl, cond_f rfl ?_⟩
    have hmu := mu_step (n := 1048576) (by omega) hB d1 hp
    have hci := (step_ok hB d1 hp 1048576).ci
    have hpk := pk_step d1 d2 1048576
    have hr := roB_step hp 1048576
    have hv := mvB_step hB d1 hp 1048576
    have he := end_step (n := 1048576) (by omega) hB d1 hp
    generalize (stepC 1048576 d).1 = d' at *
    have hw : ∃ m, ∃ d, Ci B d ∧ Pk d ∧ roB d < 2305843009213693952 ∧ mvB d < 2305843009213693952 ∧ endC d = endC c ∧ muC d = m ∧ Sat (CL d b cb mb F) w1 := ⟨_, d', hci, hpk, by omega, by omega, he.trans d5, rfl, h1⟩
    refine ⟨hw, ?_⟩
    have := (hM w1 hw).2 (muC d') ⟨d', hci, hpk, by omega, by omega, he.trans d5, rfl, h1⟩
    omega
theorem sfull_c (hs : Sat (CL c b cb mb F) w) (hB : B + 2 < 4294967296) (h : Ci B c) (hk : Pk c) (hro : roB c < 1152921504606846976) (hmv : mvB c < 1152921504606846976) :
    Calls Try.prog 15 #[.pointer (some ⟨cb, 0, none⟩)] w (Ret (.tuple #[.int .i64 (((fullC c).H.m.n - (fullC c).H.m.top : Nat) - (c.H.m.n - c.H.m.top : Nat) : Int), .int .i64 0]) (Sat (CL (fullC c) b cb mb F))) := by
  refine S_slide_Collector_Full_ok _ _ _ ?_
  unfold S_slide_Collector_Full
  simp only [onSome_some]
  have free : ∀ {d : Cd} {w : World} {K : Ending → World → Prop}, Sat (CL d b cb mb F) w → (∀ w', Sat (CL d b cb mb F) w' → K (.returned (.int .i64 ((d.H.m.n - d.H.m.top : Nat) : Int))) w') →
      LdP w ⟨cb, 0, none⟩ fun p0 => Calls Try.prog 24 #[.pointer p0] w fun e0 w0 => ∃ (r0 : Option Addr), e0 = .returned (.pointer r0) ∧ Calls Try.prog 42 #[.pointer r0] w0 K := by
    intro d w K h1 hK
    have h1 : Sat (HeapH d.H (wvC d.ph mb cb) b :: CoR b cb mb d.ph d.ro d.mv :: MkH b mb d.st (d.ph == 1) :: F) w := h1
    refine LdP.of h1 1 rfl (off := 0) rfl rfl ?_
    refine (harena_c h1).mono ?_
    rintro e w2 ⟨rfl, ba, bt, rfl, h2⟩
    refine ⟨_, rfl, ?_⟩
    refine (free2 (h2.pull 1 rfl)).mono ?_
    rintro e w3 ⟨rfl, h3⟩
    exact hK _ (heap_shut (sat_wf h1) (ba := ba) (bt := bt) (Sat.p1 h3))
  refine free hs fun w1 h1 => ⟨_, rfl, ?_⟩
  refine (send_c h1 hB h hk (by omega) (by omega)).mono ?_
  rintro e w2 ⟨rfl, h2⟩
  refine ⟨rfl, ?_⟩
  obtain ⟨e1, e2⟩ := end_ok hB h
  obtain ⟨v1, v2⟩ := mvB_end hB h
  refine (sstart_c h2 e1.ci e2).mono ?_
  rintro e w3 ⟨rfl, h3⟩
  refine ⟨_, rfl, cond_f rfl ?_⟩
  have s1 := start_ok e1.ci e2
  have sp := pk_start e1.ci
  have hob := objs_le s1.ci.wf
  have r1 : roB (startC (endC c)) = (endC c).ro + 1 := rfl
  have m1 : mvB (startC (endC c)) = (endC c).mv + ((startC (endC c)).H.m.low.length + (startC (endC c)).H.m.high.length) := rfl
  refine (send_c h3 hB s1.ci sp (by omega) (by omega)).mono ?_
  rintro e w4 ⟨rfl, h4⟩
  refine ⟨rfl, ?_⟩
  refine free h4 fun w5 h5 => ⟨_, rfl, ?_⟩
  have hf := (end_ok hB s1.ci).1.ci
  have b1 := hf.wf.am.most
  have b2 := h.wf.am.most
  have e3 : endC (startC (endC c)) = fullC c := rfl
  rw [e3] at b1 h5 ⊢
  rw [wrapI64 (by omega) (by omega)]
  exact ⟨rfl, h5⟩
end
end Go.Proofs.Ytdfdmboljidhnaa
