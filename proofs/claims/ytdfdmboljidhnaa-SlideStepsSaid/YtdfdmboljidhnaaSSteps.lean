
/- 'SlideSteps' answers true: in steps of whatever size, nothing else being done, a collection ends within twice as many units as there are objects, one more, and one for each step; what it leaves is what a full one leaves. No conditions. -/
import Derived.Test.YtdfdmboljidhnaaSAgain
set_option maxRecDepth 100000
namespace Go.Proofs.Ytdfdmboljidhnaa
open Go Go.Lw Go.Wd Go.Am Go.Tb Go.Hm Go.ChangeShapes Go.WideShapes Go.ChangeAt Go.RowKit

theorem cl_swap {A1 A2 A3 B1 B2 B3 : HP} {F : List HP} {w : World} (h : Sat (A1 :: A2 :: A3 :: B1 :: B2 :: B3 :: F) w) : Sat (B1 :: B2 :: B3 :: A1 :: A2 :: A3 :: F) w :=
  ((h.pull 5 rfl).pull 5 rfl).pull 5 rfl
theorem cl_two {c d : Cd} {b cb mb b' cb' mb' : Nat} {F : List HP} {w : World} (h : Sat (CL c b cb mb (CL d b' cb' mb' F)) w) : Sat (CL d b' cb' mb' (CL c b cb mb F)) w := cl_swap h
set_option maxHeartbeats 4000000 in
theorem steps_c (W : World) {p p1 : Option Addr} {l c l1 c1 : Nat} {xs : List Value} {zs : List Int} (hx : ArgR W dks9 p l xs) (hz : ArgI W .i64 p1 l1 zs) :
    Calls Try.prog 4 #[.slice p l c, .slice p1 l1 c1] W (Ret (.bool true) (Go.RowKit.Below W.heap.size W)) := by
  have h0 : Sat [Ro W (Mem.of W)] W := Sat.ofBase W
  refine S_law11_SlideSteps_ok _ _ _ _ _ _ _ _ ?_
  unfold S_law11_SlideSteps
  refine (awake11_c h0).mono ?_
  rintro e w0 ⟨rfl, h1⟩
  refine ⟨_, rfl, cond_f rfl ?_⟩
  by_cases hl : l ≤ 300
  rotate_left
  · exact cond_t (by simp; omega) ⟨rfl, h1.roBelow 0 rfl (Ext.refl _)⟩
  refine cond_f (by simp; omega) ?_
  refine (made11_c h1 (Ext.refl _) hx hl).mono ?_
  rintro e w1 ⟨b, S0, H0, hs, r, om, tp, tc, rfl, hE0, hM0, hT0, hP0, hs3, hPd, h2⟩
  refine ⟨_, _, _, _, _, _, _, _, _, _, _, _, _, _, _, _, _, _, _, _, _, _, _, _, rfl, ?_⟩
  refine NewC.ofRow h2 fun b0 w2 h3 => ?_
  refine stRh (r := r) rfl h3 0 rfl fun w3 h4 => ?_
  have h5 : Sat (Ro W S0 :: [HeapH H0 .nilIface b, Row b0 r.cells 44]) w3 := ((Sat.pull h4 2 rfl).pull 2 rfl).p1
  have hm0 := sat_wf h5.p1
  refine (made11_c h5 hE0 hx hl).mono ?_
  rintro e w4 ⟨b', S, H1, hs1, r', om', tp', tc', rfl, hE1, _, _, _, _, hPd1, h6⟩
  obtain ⟨rfl, rfl⟩ := hPd.same hPd1
  have hE := hE0.trans hE1
  have hM := hM0.mono hE1
  have hT := hT0.mono hE1
  clear hM0 hT0 hPd1
  refine ⟨_, _, _, _, _, _, _, _, _, _, _, _, _, _, _, _, _, _, _, _, _, _, _, _, rfl, ?_⟩
  refine NewC.ofRow h6 fun b1 w5 h7 => ?_
  refine stRh (r := r') rfl h7 0 rfl fun w6 h8 => ?_
  refine cond_f rfl (cond_f rfl ?_)
  have h8 : Sat (Row b1 r'.cells 44 :: HeapH H0 .nilIface b' :: Ro W S :: HeapH H0 .nilIface b :: Row b0 r.cells 44 :: []) w6 := h8
  have h9 : Sat (HeapH H0 .nilIface b :: HeapH H0 .nilIface b' :: [Ro W S, Row b0 r.cells 44]) w6 := Sat.pull h8.drop 2 rfl
  have hgn := hPd.gn
  have hB : 2 * hs.length + 2 < 4294967296 := by omega
  have c0 := hgn.ci hm0
  have hobj := hgn.pl.objs
  generalize hBB : 2 * hs.length = B at hB c0
  refine (snew_c h9).mono ?_
  rintro e w7 ⟨cb, mb, rfl, h10⟩
  refine ⟨_, rfl, ?_⟩
  have h11 : Sat (HeapH H0 .nilIface b' :: CL ⟨H0, [], 0, 0, 0⟩ b cb mb [Ro W S, Row b0 r.cells 44]) w7 := Sat.pull h10 3 rfl
  refine (snew_c h11).mono ?_
  rintro e w8 ⟨cb', mb', rfl, h12⟩
  refine ⟨_, rfl, ?_⟩
  refine (sfull_c h12 hB c0 pk_zero (by show 0 < _; decide) (by show 0 < _; decide)).mono ?_
  rintro e w9 ⟨rfl, h13⟩
  refine ⟨_, _, rfl, cond_f rfl ?_⟩
  have hfull : fullC ⟨H0, [], 0, 0, 0⟩ = endC (startC ⟨H0, [], 0, 0, 0⟩) := rfl
  rw [hfull] at h13
  clear hfull
  refine (sstart_c (cl_two h13) c0 rfl).mono ?_
  rintro e w10 ⟨rfl, h14⟩
  refine ⟨_, rfl, cond_f rfl ?_⟩
  clear h0 h1 h2 h3 h4 h5 h6 h7 h8 h9 h10 h11 h12 h13
  have s1 := start_ok c0 rfl
  have k1 : Pk (startC ⟨H0, [], 0, 0, 0⟩) := pk_start c0
  have v1 : mvB (startC ⟨H0, [], 0, 0, 0⟩) ≤ 1048576 := by
    have := objs_le s1.ci.wf
    have e : mvB (startC ⟨H0, [], 0, 0, 0⟩) = 0 + ((startC ⟨H0, [], 0, 0, 0⟩).H.m.low.length + (startC ⟨H0, [], 0, 0, 0⟩).H.m.high.length) := rfl
    omega
  have r1 : roB (startC ⟨H0, [], 0, 0, 0⟩) = 1 := rfl
  have p1 : (startC ⟨H0, [], 0, 0, 0⟩).ph ≠ 0 := by show 1 ≠ 0; decide
  have m1 : muC (startC ⟨H0, [], 0, 0, 0⟩) = 2 * hs.length + 2 := by
    have e1 := (began_ok hm0).2.2
    obtain ⟨e2, e3⟩ := (began_rw hm0).lens
    have e : muC (startC ⟨H0, [], 0, 0, 0⟩) = pot (began H0) + ((began H0).1.m.low.length + (began H0).1.m.high.length) + 2 := rfl
    omega
  have i1 := s1.ci
  have l1' : Less H0 (startC ⟨H0, [], 0, 0, 0⟩).H := s1.less
  generalize startC ⟨H0, [], 0, 0, 0⟩ = d1 at h14 k1 v1 r1 p1 i1 l1' m1
  clear s1
  have hendf := (end_ok hB i1).2
  generalize hf : endC d1 = f at h14 hendf
  intro k0 hk0
  have fin : ∀ (d : Cd) (S3 : Mem) w, Ext S S3 → d.ph = 0 → endC d = f → Sat (CL d b cb mb (CL f b' cb' mb' [Ro W S3, Row b0 r.cells 44])) w → k0 true w := by
    intro d S3 w hE3 hd0 hdf h1
    have hdf2 : d = f := by rw [← hdf]; unfold endC; rw [if_pos hd0]
    subst hdf2
    refine hk0 _ _ ?_
    unfold S_law11_SlideSteps_j1
    refine cond_f rfl ?_
    refine ttop h1 ⟨_, rfl, ?_⟩
    refine ttop (cl_two h1) ⟨_, rfl, ?_⟩
    refine cond_f (by simp) ?_
    refine (smoved_c h1 1 rfl).mono ?_
    rintro e w2 ⟨rfl, rfl⟩
    refine ⟨_, rfl, ?_⟩
    refine (smoved_c (cl_two h1) 1 rfl).mono ?_
    rintro e w2 ⟨rfl, rfl⟩
    refine ⟨_, rfl, cond_f (by simp) ?_⟩
    refine ⟨fun j w => ∃ g : Nat, j = g ∧ g ≤ hs.length ∧ Sat (CL d b cb mb (CL d b' cb' mb' [Ro W S3, Row b0 r.cells 44])) w, fun j _ => (hs.length - j).toNat, ⟨0, rfl, by omega, h1⟩, ?_⟩
    clear h1
    rintro j w2 ⟨g, rfl, hg, h1⟩
    unfold S_law11_SlideSteps_l1
    by_cases hgl : g < hs.length
    rotate_left
    · exact cond_f (by simp; omega) ⟨rfl, h1.roBelow 6 rfl (hE.trans hE3)⟩
    refine cond_t (by simp; omega) ?_
    have h2 : Sat (CL d b cb mb (CL d b' cb' mb' [Ro W S3, Row b0 r.cells 44])) w2.drew := h1.drew
    generalize w2.drew = w3 at h2
    have hxg : hs[g]? = some hs[g] := List.getElem?_eq_getElem hgl
    generalize hs[g] = x at hxg
    obtain ⟨a, ha, hra⟩ := (hT.mono hE3).reads g (.int .u64 (x : Int)) (by unfold words; rw [List.getElem?_map, hxg]; rfl)
    subst ha
    have ix : ∀ {K : Addr → Prop}, K (a.add (g * 1)) → IdxC (some a) hs.length (g : Int) 1 K := fun h => ⟨by omega, by omega, by rw [Int.toNat_natCast]; exact h⟩
    have rdx : ∀ w, Has S3 w → w.cell? (a.add (g * 1)) = some (.int .u64 (x : Int)) := fun w hw => by rw [Nat.mul_one]; exact hra w hw
    have hxl : (H0.look x).isSome = true := hM.live x (List.mem_of_getElem? hxg)
    have hxu : x < 18446744073709551616 := by
      obtain ⟨o, ho⟩ := Option.isSome_iff_exists.1 hxl
      exact look_lt hm0 ho
    refine ⟨fun w => Has S3 w, h2.has 6 rfl, ix ⟨x, fun w hw => LdI.at (rdx w hw) rfl, ?_⟩⟩
    refine tatC h2 hxu (h2.has 6 rfl) ⟨_, _, rfl, ?_⟩
    have h3 : Sat (CL d b cb mb (CL d b' cb' mb' [Ro W S3, Row b0 r.cells 44])) w3.drew := h2.drew
    generalize w3.drew = w4 at h3
    refine ⟨fun w => Has S3 w, h3.has 6 rfl, ix ⟨x, fun w hw => LdI.at (rdx w hw) rfl, ?_⟩⟩
    refine tatC (cl_two h3) hxu (h3.has 6 rfl) ⟨_, _, rfl, ?_⟩
    refine cond_f (by simp) (cond_f (by simp) ?_)
    rw [wrapI64 (by omega) (by omega)]
    exact ⟨⟨g + 1, by omega, by omega, h3⟩, by dsimp only; omega⟩
  refine ⟨fun dn i w => ∃ (q : Nat) (S3 : Mem) (d : Cd), i = q ∧ Ext S S3 ∧ dn = decide (d.ph = 0) ∧ Ci B d ∧ Pk d ∧ roB d = 1 ∧ mvB d ≤ 1048576 ∧ Less H0 d.H ∧ endC d = f ∧ muC d + q ≤ 2 * hs.length + 2 ∧ Sat (CL d b cb mb (CL f b' cb' mb' [Ro W S3, Row b0 r.cells 44])) w, fun _ i _ => (2 * hs.length + 3 - i).toNat, ⟨0, S, d1, rfl, Ext.refl _, by simp [p1], i1, k1, r1, v1, l1', hf, by omega, h14⟩, ?_⟩
  rintro dn i w6 ⟨q, S3, d, rfl, hE3, rfl, g1, g2, g3, g4, g5, g6, g7, h15⟩
  unfold S_law11_SlideSteps_l0
  rw [wrapI64 (n := 2 * (hs.length : Int)) (by omega) (by omega), wrapI64 (by omega) (by omega)]
  refine cond_t (by simp; omega) ?_
  by_cases hp : d.ph = 0
  · refine cond_f (by simp [hp]) ?_
    rw [decide_eq_true hp]
    exact fin d S3 w6 hE3 hp g6 h15
  refine cond_t (by simp [hp]) ?_
  intro k2 hk2
  have go : ∀ n : Nat, 1 ≤ n → n ≤ 8 → k2 (n : Int) w6 := by
    intro n hn1 hn8
    refine hk2 _ _ ?_
    unfold S_law11_SlideSteps_j0
    refine (sstep_c h15 hB g1 g2 hp (n := n) hn1 (by omega) (by omega) (by omega)).mono ?_
    rintro e w7 ⟨rfl, h16⟩
    refine ⟨_, _, rfl, ?_⟩
    have hst := step_ok hB g1 hp n
    have hv := mvB_step hB g1 hp n
    have hr := roB_step hp n
    have hmu := mu_step hn1 hB g1 hp
    have hes := end_step hn1 hB g1 hp
    have hpk := pk_step g1 g2 n
    have hless := g5.trans hst.less
    rw [step_done n hp]
    have hci := hst.ci
    generalize (stepC n d).1 = d' at h16 hv hr hmu hes hpk hless hci
    clear hst
    have h17 : Sat (CL d' b cb mb (CL f b' cb' mb' [Ro W S3, Row b0 r.cells 44])) w7.drew := h16.drew
    generalize w7.drew = w8 at h17
    refine ⟨fun w => ∃ (L : List HP) (i : Nat), L[i]? = some (Row b0 r.cells 44) ∧ Sat L w, ⟨_, 7, rfl, h17⟩, ?_⟩
    refine cond_f rfl ?_
    refine qRh (r := r) (b := b0) (T := 44) (fun w ⟨L, i, hi, h⟩ => ⟨_, h.pull i hi⟩) ?_
    refine (graph_c ((Sat.pull h17 6 rfl).p1)).mono ?_
    rintro e w9 ⟨gp, gc, np, nc, S4, gs, rfl, hE4, hR, hN, h18⟩
    refine ⟨_, _, _, _, _, _, rfl, ⟨_, 7, rfl, h18⟩, ?_⟩
    refine (differ_c (r := r) hless.graphR hless.graphN hm0 (Sat.p1 h18) (hM.mono (hE3.trans hE4)) (by omega) hR hN).mono ?_
    rintro e w10 ⟨rfl, S5, hE5, h19⟩
    refine ⟨_, rfl, cond_f rfl ?_⟩
    rw [wrapI64 (by omega) (by omega)]
    refine ⟨⟨q + 1, S5, d', by omega, hE3.trans (hE4.trans hE5), rfl, hci, hpk, by omega, by omega, hless, hes.trans g6, by omega, ?_⟩, by dsimp only; omega⟩
    have h20 : Sat (Ro W S5 :: HeapH d'.H (wvC d'.ph mb cb) b :: CoR b cb mb d'.ph d'.ro d'.mv :: MkH b mb d'.st (d'.ph == 1) :: CL f b' cb' mb' [Row b0 r.cells 44]) w10 := h19
    exact (((((((Sat.pull h20 6 rfl).pull 6 rfl).pull 6 rfl).pull 6 rfl).pull 6 rfl).pull 6 rfl))
  have one : k2 1 w6 := go 1 (by omega) (by omega)
  by_cases hl1 : 0 < l1
  rotate_left
  · exact cond_f (by simp; omega) one
  refine cond_t (by simp; omega) ?_
  obtain ⟨a, rfl⟩ := hz.some hl1
  have hzl := hz.len
  have hmod : Int.tmod (q : Int) (l1 : Int) = ((q % l1 : Nat) : Int) := by rw [Int.tmod_eq_emod_of_nonneg (by omega)]; omega
  have hml : q % l1 < l1 := Nat.mod_lt _ hl1
  rw [hmod]
  generalize q % l1 = g at hml
  have hzq : zs[g]? = some zs[g] := List.getElem?_eq_getElem (by omega)
  have hrd := hz.reads a rfl g (.int .i64 zs[g]) (by rw [List.getElem?_map, hzq]; rfl)
  refine ⟨by omega, by omega, by omega, ?_⟩
  rw [Int.toNat_natCast]
  refine LdI.at (((RdS.base (by rw [Nat.mul_one]; exact hrd)).mono (hE.trans hE3)) _ (h15.has 6 rfl)) ?_
  obtain ⟨x, hx7, hxe⟩ := bAnd_le zs[g] 7 (by omega)
  have hxe : bAnd .i64 zs[g] 7 = (x : Int) := hxe
  rw [hxe, show IntKind.wrap .i64 (1 + (x : Int)) = ((x + 1 : Nat) : Int) by rw [wrapI64 (by omega) (by omega)]; omega]
  exact go (x + 1) (by omega) (by omega)

set_option maxRecDepth 100000 in
theorem steps_lifted (os : Os) (started : os.Started) (H : Type) (enc : TypeId × Value → H) :
    ReturnsInHanded {} Try.checked os 4 .any (Rows.slideStepsSpec.pre6 enc Try.prog Try.f4 Rows.slideStepsRow.domain false) (Rows.slideStepsSpec.post enc Try.prog Try.f4 false true false false) := by
  refine returnsInHanded_of_change (C := Try.checked) own started (by kernel_rfl) Try.func4
    (ChangeSpec.witness6 (enc := enc) (C := Try.checked) false ⟨#[], #[.slice none 0 0, .slice none 0 0], []⟩ 8 (by kernel_rfl) (by kernel_rfl) (by kernel_rfl) (by kernel_rfl)) ?_
  intro W base args ds gs before hval hW hcnd _
  have hval : ∀ (j : Nat) t v, Try.f4.params[j]? = some t → args[j]? = some v → Value.okWide Try.prog W .any base t v := hval
  have hW' : DataW.Whole enc Try.prog Try.f4.params.toList Rows.slideStepsSpec.vars false W args.toList ds gs before := hW
  obtain ⟨p, q, hA, hV, _⟩ := hW'
  rw [Try.params4] at hA hval
  obtain ⟨v0, v1, d0, d1, p0, p1, rfl, rfl, rfl, h0, h1⟩ := trodAll_two hA
  obtain ⟨a0, l0, c0, rfl⟩ := okWide_slice Try.underlying39 (hval 0 39 v0 rfl rfl)
  obtain ⟨⟨xs0, hx0⟩, _⟩ := argRows (ks := dks9) Try.underlying39 Try.underlying68 (by kernel_rfl) (by kernel_rfl) (by kernel_rfl) h0
  obtain ⟨a1, l1, c1, rfl⟩ := okWide_slice Try.underlying40 (hval 1 40 v1 rfl rfl)
  obtain ⟨zs1, hz1⟩ := argInts Try.underlying40 Try.underlying3 (by kernel_rfl) h1
  refine (steps_c W hx0 hz1).mono fun e W' ⟨he, hs⟩ => ?_
  exact ⟨_, he, law_post (tb := 4) laidOut (by decide +kernel) (by kernel_rfl) Try.underlying4 rfl hW ⟨rfl, rfl, rfl⟩ hs⟩

theorem steps_holds : Rows.SlideStepsSaid :=
  OpenClaim.holds_of_wide 4 Try.f4 rfl rfl rfl rfl rfl rfl rfl ⟨rfl, rfl, rfl, rfl, rfl⟩ rfl rfl rfl rfl rfl (by kernel_rfl) Try.func4 (by kernel_rfl)
    (of_decide_eq_true (by kernel_rfl)) (by unfold Func.isWrapper; first | (rw [if_pos (by decide +kernel)]; kernel_rfl) | (rw [if_neg (by decide +kernel)]; exact ⟨rfl, rfl⟩))
    (fun os started H enc _ => steps_lifted os started H enc)
