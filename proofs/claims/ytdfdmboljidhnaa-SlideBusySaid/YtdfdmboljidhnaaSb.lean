
/- Deeds done while a collector works; law11's pick and linked. -/
import Derived.Test.YtdfdmboljidhnaaSw
set_option maxRecDepth 100000
namespace Go.Proofs.Ytdfdmboljidhnaa
open Go Go.Lw Go.Wd Go.Am Go.Tb Go.Hm
section
variable {H : Hp} {hs : List Nat} {r : Rh} {om : List (R9 × Gq)} {w W : World} {S : Mem} {L : List HP}
theorem pick11_c (hS : Sat L w) (k : Nat) (hk : L[k]? = some (Ro W S)) {tp : Option Addr} {tc : Nat} (hT : CRs S 1 (words hs) tp hs.length tc) (i : Int) :
    Calls Try.prog 38 #[.slice tp hs.length tc, .int .i64 i] w fun e w' => e = .returned (.int .u64 (pickN hs i : Nat)) ∧ w = w' := by
  refine S_law11_pick_ok _ _ _ _ _ _ ?_
  unfold S_law11_pick pickN
  by_cases h0 : i < 0
  · exact cond_t (by simpa using h0) ⟨by rw [if_pos h0]; rfl, rfl⟩
  refine cond_f (by simpa using h0) ?_
  rw [if_neg h0]
  by_cases hl : hs.length = 0
  · have : hs = [] := List.eq_nil_of_length_eq_zero hl
    subst this
    exact cond_t (by rfl) ⟨by simp, rfl⟩
  refine cond_f (by simpa using hl) ⟨by omega, ?_⟩
  obtain ⟨j, rfl⟩ := Int.eq_ofNat_of_zero_le (Int.not_lt.1 h0)
  rw [tmod_nat, Int.toNat_natCast]
  have hlt : j % hs.length < hs.length := Nat.mod_lt _ (by omega)
  have hx : hs[j % hs.length]? = some (hs.getD (j % hs.length) 0) := by rw [List.getD_eq_getElem?_getD, List.getElem?_eq_getElem hlt]; rfl
  exact rd_word hT (hS.has k hk) hx rfl ⟨rfl, rfl⟩
/-- what may be linked. -/
def Lkd (H : Hp) (A : Nat) (hs : List Nat) (dd : Dd) : Prop := dd.d < 3 ∨ dd.d = 5 ∨ 7 < dd.d ∨ pickN hs dd.y = 0 ∨ (∃ j, A ≤ j ∧ hs[j]? = some (pickN hs dd.y)) ∨ pickN hs dd.y ∈ order H
theorem linked11_c (hm : H.WF) (hS : Sat L w) (k : Nat) (hk : L[k]? = some (Ro W S)) (hM : Mir S H hs r om) (hl : hs.length ≤ 1048576) {tp : Option Addr} {tc : Nat} (hT : CRs S 1 (words hs) tp hs.length tc) (A : Nat) (dd : Dd) :
    Calls Try.prog 37 #[r.agg, .slice tp hs.length tc, .int .i64 (A : Int), dd.agg] w fun e w' => ∃ v : Bool, e = .returned (.bool v) ∧ (v = true → Lkd H A hs dd) ∧ Sat L w' := by
  refine S_law11_linked_ok r.p r.l r.c r.a0 r.a1 r.a2 r.a3 r.a4 r.a5 r.a6 r.a7 r.a8 r.a9 r.a10 r.a11 r.a12 r.a13 r.a14 r.a15 _ _ _ _ dd.d dd.x dd.y dd.i dd.j dd.w w _ ?_
  unfold S_law11_linked
  refine NewC.ofRow hS fun b0 w1 h1 => ?_
  refine NewC.ofRow h1 fun b1 w2 h2 => ?_
  have h2 : Sat (Row b1 dd.cells 68 :: Row b0 r.cells 44 :: L) w2 := h2
  refine LdI.of h2 0 rfl (off := 0) rfl rfl ?_
  by_cases d3 : dd.d < 3
  · exact cond_t (by simpa using d3) ⟨true, rfl, fun _ => .inl d3, h2.drop.drop⟩
  refine cond_f (by simpa using d3) (LdI.of h2 0 rfl (off := 0) rfl rfl ?_)
  by_cases d5 : dd.d = 5
  · exact cond_t (by simpa using d5) ⟨true, rfl, fun _ => .inr (.inl d5), h2.drop.drop⟩
  refine cond_f (by simpa using d5) (LdI.of h2 0 rfl (off := 0) rfl rfl ?_)
  by_cases d7 : 7 < dd.d
  · exact cond_t (by simpa using d7) ⟨true, rfl, fun _ => .inr (.inr (.inl d7)), h2.drop.drop⟩
  refine cond_f (by simpa using d7) (LdI.of h2 0 rfl (off := 2) rfl (add_mk _ _ _) ?_)
  by_cases y0 : dd.y < 0
  · exact cond_t (by simpa using y0) ⟨true, rfl, fun _ => .inr (.inr (.inr (.inl (by unfold pickN; rw [if_pos y0])))), h2.drop.drop⟩
  refine cond_f (by simpa using y0) ?_
  by_cases hl0 : hs.length = 0
  · have : hs = [] := List.eq_nil_of_length_eq_zero hl0
    subst this
    exact cond_t (by rfl) ⟨true, rfl, fun _ => .inr (.inr (.inr (.inl (by unfold pickN; rw [if_neg y0]; rfl)))), h2.drop.drop⟩
  refine cond_f (by simpa using hl0) (LdI.of h2 0 rfl (off := 2) rfl (add_mk _ _ _) ⟨by omega, ?_⟩)
  obtain ⟨j, hj⟩ := Int.eq_ofNat_of_zero_le (Int.not_lt.1 y0)
  have hlt : j % hs.length < hs.length := Nat.mod_lt _ (by omega)
  have hx : hs[j % hs.length]? = some (hs.getD (j % hs.length) 0) := by rw [List.getD_eq_getElem?_getD, List.getElem?_eq_getElem hlt]; rfl
  have hpk : pickN hs dd.y = hs.getD (j % hs.length) 0 := by unfold pickN; rw [if_neg y0, hj, Int.toNat_natCast]
  unfold Lkd
  rw [hpk, hj, tmod_nat]
  generalize hs.getD (j % hs.length) 0 = x at hx hpk
  have h3 : Sat (Row b1 dd.cells 68 :: Row b0 r.cells 44 :: L) w2.drew := h2.drew
  generalize w2.drew = w3 at h3
  by_cases hA : A ≤ j % hs.length
  · exact cond_t (decide_eq_true (by omega)) ⟨true, rfl, fun _ => .inr (.inr (.inr (.inr (.inl ⟨_, hA, hx⟩)))), h3.drop.drop⟩
  refine cond_f (decide_eq_false (by omega)) ?_
  refine ldRh h3 1 rfl ?_
  refine rd_word hT (h3.has (k + 2) (by simpa using hk)) hx rfl ?_
  refine (reached9_c (r := r) hm h3 (k + 2) (by simpa using hk) hM hl x).mono ?_
  rintro e w4 ⟨rfl, h4⟩
  refine ⟨_, rfl, _, rfl, fun hv => .inr (.inr (.inr (.inr (.inr (by simpa using hv))))), h4.drop.drop⟩
end
section
variable {B A : Nat} {d : Cd} {hs : List Nat} {dd : Dd} {r : Rh} {om : List (R9 × Gq)} {w W : World} {S : Mem} {F : List HP} {b cb mb : Nat}
/-- a deed, whoever watches. -/
theorem busy_play (hS : Sat (CL d b cb mb (Ro W S :: F)) w) (h : Dz B A d hs) (hM : Mir S d.H hs r om) {tp : Option Addr} {tc : Nat} (hT : CRs S 1 (words hs) tp hs.length tc) (hw : dd.w < 18446744073709551616) (hy64 : -9223372036854775808 ≤ dd.y ∧ dd.y ≤ 9223372036854775807)
    (hlk : d.ph ≠ 1 → 3 ≤ dd.d → dd.d ≤ 7 → dd.d ≠ 5 → pickN hs dd.y = 0 ∨ sv d.H (pickN hs dd.y)) :
    Calls Try.prog 39 #[.pointer (some ⟨b, 0, none⟩), r.agg, .slice tp hs.length tc, dd.agg] w fun e w' =>
      ∃ (d' : Cd) (hs' : List Nat) (S' : Mem) (r' : Rh) (om' : List (R9 × Gq)) (tp' : Option Addr) (tc' : Nat), e = .returned (.tuple #[r'.agg, .slice tp' hs'.length tc', .bool true]) ∧ Ext S S' ∧ Mir S' d'.H hs' r' om' ∧ CRs S' 1 (words hs') tp' hs'.length tc' ∧ Dy B A d d' hs hs' ∧ Sat (CL d' b cb mb (Ro W S' :: F)) w' := by
  have hm := h.ci.wf
  have hll := live_le hm hM.nd hM.live
  have hcl := count_le hm.tab
  by_cases hp : d.ph = 1
  · have h1 : Sat (HeapH d.H (mkW mb) b :: CoR b cb mb 1 d.ro d.mv :: MkH b mb d.st true :: Ro W S :: F) w := by
      unfold CL at hS
      rw [hp] at hS
      exact hS
    have h2 : Sat (HeapH d.H (mkW mb) b :: (Wt.mark mb b).at_ d.st :: Ro W S :: CoR b cb mb 1 d.ro d.mv :: F) w := ((h1.pull 1 rfl).pull 3 rfl).pull 3 rfl |>.pull 3 rfl
    have hst : (Wt.mark mb b).inv d.H d.st := by
      have := h.pk hp
      have e : d.st.length ≤ pot (d.H, d.st) := Nat.le_add_right _ _
      show d.st.length ≤ 1048576
      omega
    refine (play_c (T := Wt.mark mb b) (s := d.st) h2 hst hM (by omega) hT hw hy64).mono ?_
    rintro e w1 ⟨S', r', om', tp', tc', rfl, hE, hM', hT', _, h3⟩
    have hdy := dz_play1 (mb := mb) (b := b) (dd := dd) h hp hM.live hw
    refine ⟨⟨_, _, 1, d.ro, d.mv⟩, _, S', r', om', tp', tc', rfl, hE, hM', hT', hdy, ?_⟩
    generalize playF (Wt.mark mb b) d.H d.st hs dd = P at h3
    have h3 : Sat (HeapH P.1 (mkW mb) b :: MkH b mb P.2.1 true :: Ro W S' :: CoR b cb mb 1 d.ro d.mv :: F) w1 := h3
    show Sat (HeapH P.1 (mkW mb) b :: CoR b cb mb 1 d.ro d.mv :: MkH b mb P.2.1 true :: Ro W S' :: F) w1
    exact Sat.p1 (Sat.pull h3 3 rfl)
  · obtain ⟨q1, q2, q3⟩ := h.ci.ph2 h.ne hp
    have h1 : Sat (HeapH d.H (coW cb) b :: CoR b cb mb 2 d.ro d.mv :: MkH b mb [] false :: Ro W S :: F) w := by
      unfold CL at hS
      rw [q1, q2] at hS
      exact hS
    have h2 : Sat (HeapH d.H (coW cb) b :: (Wt.slide d.ro d.mv cb mb b).at_ () :: Ro W S :: F) w := Sat.p1 (Sat.join ((Sat.pull h1 2 rfl).pull 2 rfl))
    refine (play_c (T := Wt.slide d.ro d.mv cb mb b) (s := ()) h2 trivial hM (by omega) hT hw hy64).mono ?_
    rintro e w1 ⟨S', r', om', tp', tc', rfl, hE, hM', hT', _, h3⟩
    have hdy := dz_play2 (ro := d.ro) (mv := d.mv) (cb := cb) (mb := mb) (b := b) (dd := dd) h q1 hM.live hw (hlk hp)
    refine ⟨⟨_, [], 2, d.ro, d.mv⟩, _, S', r', om', tp', tc', rfl, hE, hM', hT', hdy, ?_⟩
    generalize playF (Wt.slide d.ro d.mv cb mb b) d.H () hs dd = P at h3
    have h3 : Sat (HeapH P.1 (coW cb) b :: star (CoR b cb mb 2 d.ro d.mv) (MkH b mb [] false) :: Ro W S' :: F) w1 := h3
    show Sat (HeapH P.1 (coW cb) b :: CoR b cb mb 2 d.ro d.mv :: MkH b mb [] false :: Ro W S' :: F) w1
    exact Sat.pull (h3.p1.split) 2 rfl
end
end Go.Proofs.Ytdfdmboljidhnaa
