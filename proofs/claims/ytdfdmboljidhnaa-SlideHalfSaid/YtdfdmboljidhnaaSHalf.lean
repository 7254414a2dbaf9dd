
/- 'SlideHalf' answers true: a full collection asked for in the middle of one brings that to its end and does one more; what is left is what is reached. No conditions. -/
import Derived.Test.YtdfdmboljidhnaaSf
set_option maxRecDepth 100000
namespace Go.Proofs.Ytdfdmboljidhnaa
open Go Go.Lw Go.Wd Go.Am Go.Tb Go.Hm Go.ChangeShapes Go.WideShapes Go.ChangeAt Go.RowKit

set_option maxHeartbeats 4000000 in
theorem half_c (W : World) {p : Option Addr} {l c : Nat} {xs : List Value} (hx : ArgR W dks9 p l xs) (steps : Int) :
    Calls Try.prog 9 #[.slice p l c, .int .i64 steps] W (Ret (.bool true) (Go.RowKit.Below W.heap.size W)) := by
  have h0 : Sat [Ro W (Mem.of W)] W := Sat.ofBase W
  refine S_law11_SlideHalf_ok _ _ _ _ _ _ ?_
  unfold S_law11_SlideHalf
  refine (awake11_c h0).mono ?_
  rintro e w0 ⟨rfl, h1⟩
  refine ⟨_, rfl, cond_f rfl ?_⟩
  by_cases hl : l ≤ 300
  rotate_left
  · exact cond_t (by simp; omega) ⟨rfl, h1.roBelow 0 rfl (Ext.refl _)⟩
  refine cond_f (by simp; omega) ?_
  refine (made11_c h1 (Ext.refl _) hx hl).mono ?_
  rintro e w1 ⟨b, S, H0, hs, r, om, tp, tc, rfl, hE, hM, hT, hP0, hs3, hPd, h2⟩
  refine ⟨_, _, _, _, _, _, _, _, _, _, _, _, _, _, _, _, _, _, _, _, _, _, _, _, rfl, ?_⟩
  refine NewC.ofRow h2 fun b0 w2 h3 => ?_
  refine stRh (r := r) rfl h3 0 rfl fun w3 h4 => ?_
  refine cond_f rfl ?_
  have h5 : Sat (HeapH H0 .nilIface b :: [Ro W S, Row b0 r.cells 44]) w3 := (Sat.pull h4 2 rfl).pull 2 rfl
  have hm0 := sat_wf h5
  have hgn := hPd.gn
  have hB : 2 * hs.length + 2 < 4294967296 := by omega
  have c0 := hgn.ci hm0
  generalize hBB : 2 * hs.length = B at hB c0
  refine (snew_c h5).mono ?_
  rintro e w4 ⟨cb, mb, rfl, h6⟩
  refine ⟨_, rfl, ?_⟩
  refine (sstart_c h6 c0 rfl).mono ?_
  rintro e w5 ⟨rfl, h7⟩
  refine ⟨_, rfl, cond_f rfl ?_⟩
  clear h0 h1 h2 h3 h4 h5 h6
  have s1 := start_ok c0 rfl
  have k1 : Pk (startC ⟨H0, [], 0, 0, 0⟩) := pk_start c0
  have v1 : mvB (startC ⟨H0, [], 0, 0, 0⟩) ≤ 1048576 := by
    have := objs_le s1.ci.wf
    have e : mvB (startC ⟨H0, [], 0, 0, 0⟩) = 0 + ((startC ⟨H0, [], 0, 0, 0⟩).H.m.low.length + (startC ⟨H0, [], 0, 0, 0⟩).H.m.high.length) := rfl
    omega
  have r1 : roB (startC ⟨H0, [], 0, 0, 0⟩) = 1 := rfl
  have p1 : (startC ⟨H0, [], 0, 0, 0⟩).ph ≠ 0 := by show 1 ≠ 0; decide
  have i1 := s1.ci
  have l1 : Less H0 (startC ⟨H0, [], 0, 0, 0⟩).H := s1.less
  generalize startC ⟨H0, [], 0, 0, 0⟩ = d1 at h7 k1 v1 r1 p1 i1 l1
  clear s1
  intro k0 hk0
  obtain ⟨a0, ha0, hae0⟩ := bAnd_le steps 63 (by omega)
  have hae0 : bAnd .i64 steps 63 = (a0 : Int) := hae0
  have fin : ∀ (d : Cd) w, Ci B d → Pk d → roB d = 1 → mvB d ≤ 1048576 → Less H0 d.H → Sat (CL d b cb mb [Ro W S, Row b0 r.cells 44]) w → k0 w := by
    intro d w d1 d2 d3 d4 d5 d6
    refine hk0 _ ?_
    unfold S_law11_SlideHalf_j0
    refine (sfull_c d6 hB d1 d2 (by omega) (by omega)).mono ?_
    rintro e w6 ⟨rfl, h8⟩
    refine ⟨_, _, rfl, ?_⟩
    refine ldRh (r := r) h8 4 rfl ?_
    refine (live9_c (r := r) hm0 (Sat.pull h8 3 rfl) hM (by omega)).mono ?_
    rintro e w7 ⟨rfl, h9⟩
    refine ⟨_, _, rfl, ?_⟩
    have e1 := end_ok hB d1
    have hf := fl_of (H0 := H0) hB e1.1.ci e1.2 (d5.trans e1.1.less)
    have hro : (fullC d).ro = 2 := by
      have a1 := (mvB_end hB d1).2
      have a2 := end_ro (start_ok e1.1.ci e1.2).ci (by show 1 ≠ 0; decide)
      have a3 : (startC (endC d)).ro = (endC d).ro := rfl
      show (endC (startC (endC d))).ro = 2
      omega
    have hf : Fl B H0 (fullC d) := hf
    generalize fullC d = f at h8 h9 hf hro
    have h10 : Sat (CL f b cb mb [Ro W S, Row b0 r.cells 44]) w7.drew := (((Sat.pull h9 3 rfl).pull 3 rfl).pull 3 rfl).drew
    generalize w7.drew = w8 at h10
    refine ⟨fun w => ∃ (L : List HP) (i : Nat), L[i]? = some (Row b0 r.cells 44) ∧ Sat L w, ⟨_, 4, rfl, h10⟩, ?_⟩
    refine cond_t rfl ?_
    refine (srounds_c h10 1 rfl).mono ?_
    rintro e w9 ⟨rfl, rfl⟩
    rw [hro]
    refine ⟨_, rfl, ⟨_, 4, rfl, h10⟩, cond_t rfl ?_⟩
    refine (sphase_c h10 1 rfl).mono ?_
    rintro e w9 ⟨rfl, rfl⟩
    rw [hf.ph]
    refine ⟨_, rfl, ⟨_, 4, rfl, h10⟩, cond_t rfl ?_⟩
    refine (harena_c h10).mono ?_
    rintro e w9 ⟨rfl, ba, bt, rfl, h11⟩
    refine ⟨_, rfl, ⟨_, 4, rfl, h10⟩, ?_⟩
    refine (top2 (h11.pull 1 rfl)).mono ?_
    rintro e w9 ⟨rfl, rfl⟩
    refine ⟨_, rfl, ⟨_, 4, rfl, h10⟩, ?_⟩
    rw [hf.top]
    refine cond_t (by simp) ?_
    refine qRh (r := r) (b := b0) (T := 44) (fun w ⟨L, i, hi, h⟩ => ⟨_, h.pull i hi⟩) ?_
    have hwv : wvC f.ph mb cb = .nilIface := by unfold wvC; rw [if_pos hf.ph]
    have h12 : Sat (HeapH f.H (wvC f.ph mb cb) b :: Ro W S :: [CoR b cb mb f.ph f.ro f.mv, MkH b mb f.st (f.ph == 1), Row b0 r.cells 44]) w8 := (Sat.pull h10 3 rfl).p1
    refine (graph_c h12).mono ?_
    rintro e w9 ⟨gp, gc, np, nc, S2, gs, rfl, hE2, hR, hN, h13⟩
    refine ⟨_, _, _, _, _, _, rfl, ⟨_, 4, rfl, h13⟩, ?_⟩
    refine (differ_c (r := r) hf.less.graphR hf.less.graphN hm0 (Sat.p1 h13) (hM.mono hE2) (by omega) hR hN).mono ?_
    rintro e w10 ⟨rfl, S3, hE3, h14⟩
    refine ⟨_, rfl, cond_t rfl ?_⟩
    obtain ⟨_, o2, o3⟩ := hf.ci.ph0 hf.ph
    refine (check_c (Sat.p1 h14) o3 o2).mono ?_
    rintro e w11 ⟨rfl, h15⟩
    exact ⟨_, rfl, rfl, h15.roBelow 1 rfl (hE.trans (hE2.trans hE3))⟩
  refine ⟨fun ov i w => ∃ (q : Nat) (d : Cd), i = q ∧ q ≤ a0 ∧ ov = decide (d.ph = 0) ∧ Ci B d ∧ Pk d ∧ roB d = 1 ∧ mvB d ≤ 1048576 ∧ Less H0 d.H ∧ Sat (CL d b cb mb [Ro W S, Row b0 r.cells 44]) w, fun _ i _ => (a0 - i).toNat, ⟨0, d1, rfl, by omega, by simp [p1], i1, k1, r1, v1, l1, h7⟩, ?_⟩
  rintro ov i w6 ⟨q, d, rfl, hq, rfl, g1, g2, g3, g4, g5, g6⟩
  unfold S_law11_SlideHalf_l0
  rw [hae0]
  by_cases hlt : q < a0
  rotate_left
  · exact cond_f (by simp; omega) (fin d w6 g1 g2 g3 g4 g5 g6)
  refine cond_t (by simp; omega) ?_
  by_cases hp : d.ph = 0
  · exact cond_f (by simp [hp]) (fin d w6 g1 g2 g3 g4 g5 g6)
  refine cond_t (by simp [hp]) ?_
  refine (sstep_c g6 hB g1 g2 hp (n := 1) (by omega) (by omega) (by omega) (by omega)).mono ?_
  rintro e w7 ⟨rfl, h8⟩
  refine ⟨_, _, rfl, cond_f rfl ?_⟩
  rw [wrapI64 (by omega) (by omega)]
  have hst := step_ok hB g1 hp 1
  have hv := mvB_step hB g1 hp 1
  have hr := roB_step hp 1
  exact ⟨⟨q + 1, (stepC 1 d).1, by omega, by omega, step_done 1 hp, hst.ci, pk_step g1 g2 1, by omega, by omega, g5.trans hst.less, h8⟩, by dsimp only; omega⟩

set_option maxRecDepth 100000 in
theorem half_lifted (os : Os) (started : os.Started) (H : Type) (enc : TypeId × Value → H) :
    ReturnsInHanded {} Try.checked os 9 .any (Rows.slideHalfSpec.pre6 enc Try.prog Try.f9 Rows.slideHalfRow.domain false) (Rows.slideHalfSpec.post enc Try.prog Try.f9 false true false false) := by
  refine returnsInHanded_of_change (C := Try.checked) own started (by kernel_rfl) Try.func9
    (ChangeSpec.witness6 (enc := enc) (C := Try.checked) false ⟨#[], #[.slice none 0 0, .int .i64 0], []⟩ 8 (by kernel_rfl) (by kernel_rfl) (by kernel_rfl) (by kernel_rfl)) ?_
  intro W base args ds gs before hval hW hcnd _
  have hval : ∀ (j : Nat) t v, Try.f9.params[j]? = some t → args[j]? = some v → Value.okWide Try.prog W .any base t v := hval
  have hW' : DataW.Whole enc Try.prog Try.f9.params.toList Rows.slideHalfSpec.vars false W args.toList ds gs before := hW
  obtain ⟨p, q, hA, hV, _⟩ := hW'
  rw [Try.params9] at hA hval
  obtain ⟨v0, v1, d0, d1, p0, p1, rfl, rfl, rfl, h0, h1⟩ := trodAll_two hA
  obtain ⟨a0, l0, c0, rfl⟩ := okWide_slice Try.underlying39 (hval 0 39 v0 rfl rfl)
  obtain ⟨⟨xs0, hx0⟩, _⟩ := argRows (ks := dks9) Try.underlying39 Try.underlying68 (by kernel_rfl) (by kernel_rfl) (by kernel_rfl) h0
  obtain ⟨n1, rfl, rfl, rfl, wn1⟩ := open_int Try.underlying3 (hval 1 3 v1 rfl rfl) h1
  refine (half_c W hx0 n1).mono fun e W' ⟨he, hs⟩ => ?_
  exact ⟨_, he, law_post (tb := 4) laidOut (by decide +kernel) (by kernel_rfl) Try.underlying4 rfl hW ⟨rfl, rfl, rfl⟩ hs⟩

theorem half_holds : Rows.SlideHalfSaid :=
  OpenClaim.holds_of_wide 9 Try.f9 rfl rfl rfl rfl rfl rfl rfl ⟨rfl, rfl, rfl, rfl, rfl⟩ rfl rfl rfl rfl rfl (by kernel_rfl) Try.func9 (by kernel_rfl)
    (of_decide_eq_true (by kernel_rfl)) (by unfold Func.isWrapper; first | (rw [if_pos (by decide +kernel)]; kernel_rfl) | (rw [if_neg (by decide +kernel)]; exact ⟨rfl, rfl⟩))
    (fun os started H enc _ => half_lifted os started H enc)
