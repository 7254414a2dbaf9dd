
/- 'SlideAgain' answers true: collected again and again, nothing being changed, nothing moves any more, nothing is freed; each collection is one more round. No conditions. -/
import Derived.Test.YtdfdmboljidhnaaSf
set_option maxRecDepth 100000
namespace Go.Proofs.Ytdfdmboljidhnaa
open Go Go.Lw Go.Wd Go.Am Go.Tb Go.Hm Go.ChangeShapes Go.WideShapes Go.ChangeAt Go.RowKit
section
variable {H : Hp} {v : Value} {b : Nat} {F : List HP} {w : World}
theorem tatC (hs : Sat (HeapH H v b :: F) w) {x : Nat} (hx : x < 18446744073709551616) {C : World → Prop} (hC : C w) {K : Ending → World → Prop} (hK : K (.returned (.tuple #[.int .i64 (atP H x : Nat), .int .i64 (atE H x : Nat)])) w) :
    Calls Try.prog 16 #[.pointer (some ⟨b, 0, none⟩)] w fun e w1 => ∃ (r : Option Addr), e = .returned (.pointer r) ∧ C w1 ∧ Calls Try.prog 17 #[.pointer r, .int .u64 (x : Int)] w1 K := by
  have hm := sat_wf hs
  refine (htable_c hs).mono ?_
  rintro e w1 ⟨rfl, ba, bt, rfl, h1⟩
  refine ⟨_, rfl, hC, ?_⟩
  refine (at_c (h1.pull 2 rfl) hx).mono ?_
  rintro e w2 ⟨rfl, rfl⟩
  unfold atP atE at hK
  cases hf : H.t.find x with
  | none =>
    rw [(look_none hm).2 hf] at hK
    exact hK
  | some i =>
    obtain ⟨o, g1, g2, g3, g4⟩ := look_find hm hf
    rw [g1, g4] at hK
    exact hK
end

set_option maxHeartbeats 4000000 in
theorem again_c (W : World) {p : Option Addr} {l c : Nat} {xs : List Value} (hx : ArgR W dks9 p l xs) (times : Int) :
    Calls Try.prog 5 #[.slice p l c, .int .i64 times] W (Ret (.bool true) (Go.RowKit.Below W.heap.size W)) := by
  have h0 : Sat [Ro W (Mem.of W)] W := Sat.ofBase W
  refine S_law11_SlideAgain_ok _ _ _ _ _ _ ?_
  unfold S_law11_SlideAgain
  refine (awake11_c h0).mono ?_
  rintro e w0 ⟨rfl, h1⟩
  refine ⟨_, rfl, cond_f rfl ?_⟩
  by_cases hl : l ≤ 300
  rotate_left
  · exact cond_t (by simp; omega) ⟨rfl, h1.roBelow 0 rfl (Ext.refl _)⟩
  refine cond_f (by simp; omega) ?_
  refine (made11_c h1 (Ext.refl _) hx hl).mono ?_
  rintro e w1 ⟨b, S, H0, hs, r, om, tp, tc, rfl, hE, hM, hT, hP0, hs3, hPd, h2⟩
  refine ⟨_, _, _, _, _, _, _, _, _, _, _, _, _, _, _, _, _, _, _, _, _, _, _, _, rfl, ?_⟩
  refine NewC.ofRow h2 fun b0 w2 h3 => ?_
  refine stRh (r := r) rfl h3 0 rfl fun w3 h4 => ?_
  refine cond_f rfl ?_
  have h5 : Sat (HeapH H0 .nilIface b :: [Ro W S, Row b0 r.cells 44]) w3 := (Sat.pull h4 2 rfl).pull 2 rfl
  have hm0 := sat_wf h5
  have hgn := hPd.gn
  have hB : 2 * hs.length + 2 < 4294967296 := by omega
  have c0 := hgn.ci hm0
  generalize hBB : 2 * hs.length = B at hB c0
  refine (snew_c h5).mono ?_
  rintro e w4 ⟨cb, mb, rfl, h6⟩
  refine ⟨_, rfl, ?_⟩
  refine (sfull_c h6 hB c0 pk_zero (by show 0 < _; decide) (by show 0 < _; decide)).mono ?_
  rintro e w5 ⟨rfl, h7⟩
  refine ⟨_, _, rfl, cond_f rfl ?_⟩
  clear h0 h1 h2 h3 h4 h5 h6
  have hf : Fl B H0 (fullC ⟨H0, [], 0, 0, 0⟩) := fl_of (c := ⟨H0, [], 0, 0, 0⟩) hB c0 rfl (Less.refl _)
  have hro : (fullC ⟨H0, [], 0, 0, 0⟩).ro = 1 := end_ro (start_ok c0 rfl).ci (by show 1 ≠ 0; decide)
  have hmv : (fullC ⟨H0, [], 0, 0, 0⟩).mv ≤ 1048576 := by
    have s1 := start_ok c0 rfl
    have a1 := (mvB_end hB s1.ci).1
    have a2 := objs_le s1.ci.wf
    have e : mvB (startC ⟨H0, [], 0, 0, 0⟩) = 0 + ((startC ⟨H0, [], 0, 0, 0⟩).H.m.low.length + (startC ⟨H0, [], 0, 0, 0⟩).H.m.high.length) := rfl
    have e2 : fullC ⟨H0, [], 0, 0, 0⟩ = endC (startC ⟨H0, [], 0, 0, 0⟩) := rfl
    rw [e2]
    omega
  generalize fullC ⟨H0, [], 0, 0, 0⟩ = f at h7 hf hro hmv
  refine (smoved_c h7 1 rfl).mono ?_
  rintro e w6 ⟨rfl, rfl⟩
  refine ⟨_, rfl, ?_⟩
  refine ttop h7 ⟨_, rfl, ?_⟩
  obtain ⟨a0, ha0, hae0⟩ := bAnd_le times 3 (by omega)
  have hae0 : bAnd .i64 times 3 = (a0 : Int) := hae0
  refine ⟨fun i w => ∃ (q : Nat) (d : Cd), i = q ∧ q ≤ a0 + 1 ∧ Fl B H0 d ∧ d.ro = 1 + q ∧ d.mv = f.mv ∧ d.H.m.top = f.H.m.top ∧ Sat (CL d b cb mb [Ro W S, Row b0 r.cells 44]) w, fun i _ => (a0 + 1 - i).toNat, ⟨0, f, rfl, by omega, hf, hro, rfl, rfl, h7⟩, ?_⟩
  clear h7
  rintro i w6 ⟨q, d, rfl, hq, hd, d2, d3, d4, h8⟩
  unfold S_law11_SlideAgain_l1
  rw [hae0, show IntKind.wrap .i64 (1 + (a0 : Int)) = ((a0 + 1 : Nat) : Int) by rw [wrapI64 (by omega) (by omega)]; omega]
  by_cases hlt : q < a0 + 1
  · refine cond_t (by simp; omega) ?_
    have hed : endC d = d := by unfold endC; rw [if_pos hd.ph]
    have hfd : fullC d = endC (startC d) := by unfold fullC; rw [hed]
    have hpk : Pk d := pk0 (by rw [hd.ph]; decide)
    have v1 : mvB d = d.mv := by unfold mvB; rw [if_pos hd.ph, Nat.add_zero]
    have v2 : roB d = d.ro := by unfold roB; rw [if_pos hd.ph, Nat.add_zero]
    refine (sfull_c h8 hB hd.ci hpk (by omega) (by omega)).mono ?_
    rintro e w7 ⟨rfl, h9⟩
    have hf2 : Fl B H0 (fullC d) := by rw [hfd]; exact fl_of hB hd.ci hd.ph hd.less
    have hr2 : (fullC d).ro = d.ro + 1 := by rw [hfd]; exact end_ro (start_ok hd.ci hd.ph).ci (by show 1 ≠ 0; decide)
    obtain ⟨q1, q2⟩ := full_quiet hB hd.ci hd.ph fun x hx => (hd.less.reach x).2 ((hd.live x).1 hx)
    rw [← hfd] at q1 q2
    have hn1 := hf2.less.n
    have hn2 := hd.less.n
    have hzero : (((fullC d).H.m.n - (fullC d).H.m.top : Nat) - (d.H.m.n - d.H.m.top : Nat) : Int) = 0 := by rw [hn1, hn2, q2]; omega
    rw [hzero]
    generalize fullC d = d' at h9 hf2 hr2 q1 q2
    refine ⟨_, _, rfl, cond_f rfl (cond_f rfl ?_)⟩
    refine (smoved_c h9 1 rfl).mono ?_
    rintro e w8 ⟨rfl, rfl⟩
    refine ⟨_, rfl, ?_⟩
    rw [q1, d3]
    refine cond_f (by simp) ?_
    refine (srounds_c h9 1 rfl).mono ?_
    rintro e w8 ⟨rfl, rfl⟩
    refine ⟨_, rfl, ?_⟩
    rw [hr2, d2, wrapI64 (n := 2 + (q : Int)) (by omega) (by omega)]
    refine cond_f (by simp; omega) ?_
    refine ttop h9 ⟨_, rfl, ?_⟩
    rw [q2, d4]
    refine cond_f (by simp) ?_
    rw [wrapI64 (by omega) (by omega)]
    exact ⟨⟨q + 1, d', by omega, by omega, hf2, by omega, by omega, by omega, h9⟩, by dsimp only; omega⟩
  · refine cond_f (by simp; omega) ?_
    refine ⟨fun j w => ∃ g : Nat, j = g ∧ g ≤ hs.length ∧ Sat (CL d b cb mb [Ro W S, Row b0 r.cells 44]) w, fun j _ => (hs.length - j).toNat, ⟨0, rfl, by omega, h8⟩, ?_⟩
    clear h8
    rintro j w7 ⟨g, rfl, hg, h9⟩
    unfold S_law11_SlideAgain_l0
    have h10 : Sat (HeapH d.H (wvC d.ph mb cb) b :: CoR b cb mb d.ph d.ro d.mv :: MkH b mb d.st (d.ph == 1) :: [Ro W S, Row b0 r.cells 44]) w7.drew := Sat.drew h9
    generalize w7.drew = w8 at h10
    clear h9
    by_cases hgl : g < hs.length
    rotate_left
    · refine cond_f (by simp; omega) ?_
      refine ⟨fun w => ∃ (L : List HP) (i : Nat), L[i]? = some (Row b0 r.cells 44) ∧ Sat L w, ⟨_, 4, rfl, h10⟩, ?_⟩
      refine qRh (r := r) (b := b0) (T := 44) (fun w ⟨L, i, hi, h⟩ => ⟨_, h.pull i hi⟩) ?_
      have h12 : Sat (HeapH d.H (wvC d.ph mb cb) b :: Ro W S :: [CoR b cb mb d.ph d.ro d.mv, MkH b mb d.st (d.ph == 1), Row b0 r.cells 44]) w8 := (Sat.pull h10 3 rfl).p1
      refine (graph_c h12).mono ?_
      rintro e w9 ⟨gp, gc, np, nc, S2, gs, rfl, hE2, hR, hN, h13⟩
      refine ⟨_, _, _, _, _, _, rfl, ⟨_, 4, rfl, h13⟩, ?_⟩
      refine (differ_c (r := r) hd.less.graphR hd.less.graphN hm0 (Sat.p1 h13) (hM.mono hE2) (by omega) hR hN).mono ?_
      rintro e w10 ⟨rfl, S3, hE3, h14⟩
      exact ⟨_, rfl, rfl, h14.roBelow 0 rfl (hE.trans (hE2.trans hE3))⟩
    refine cond_t (by simp; omega) ?_
    have hxg : hs[g]? = some hs[g] := List.getElem?_eq_getElem hgl
    generalize hs[g] = x at hxg
    obtain ⟨a, ha, hra⟩ := hT.reads g (.int .u64 (x : Int)) (by unfold words; rw [List.getElem?_map, hxg]; rfl)
    subst ha
    have ix : ∀ {K : Addr → Prop}, K (a.add (g * 1)) → IdxC (some a) hs.length (g : Int) 1 K := fun h => ⟨by omega, by omega, by rw [Int.toNat_natCast]; exact h⟩
    have rdx : ∀ w, Has S w → w.cell? (a.add (g * 1)) = some (.int .u64 (x : Int)) := fun w hw => by rw [Nat.mul_one]; exact hra w hw
    have hxl : (H0.look x).isSome = true := hM.live x (List.mem_of_getElem? hxg)
    have hxu : x < 18446744073709551616 := by
      obtain ⟨o, ho⟩ := Option.isSome_iff_exists.1 hxl
      exact look_lt hm0 ho
    refine ⟨fun w => Has S w, h10.has 3 rfl, ix ⟨x, fun w hw => LdI.at (rdx w hw) rfl, ?_⟩⟩
    refine tatC h10 hxu (h10.has 3 rfl) ⟨_, _, rfl, ?_⟩
    have h11 := h10.drew
    generalize w8.drew = w9 at h11
    refine ⟨fun w => ∃ (L : List HP) (i : Nat), L[i]? = some (Row b0 r.cells 44) ∧ Has S w ∧ Sat L w, ⟨_, 4, rfl, h11.has 3 rfl, h11⟩, ?_⟩
    refine qRh (r := r) (b := b0) (T := 44) (fun w ⟨L, i, hi, _, h⟩ => ⟨_, h.pull i hi⟩) ?_
    refine ix ⟨x, fun w ⟨L, i, hi, hw, h⟩ => LdI.at (rdx w hw) rfl, ?_⟩
    refine (reached9_c (r := r) hm0 h11 3 rfl hM (by omega) x).mono ?_
    rintro e w10 ⟨rfl, h12⟩
    refine ⟨_, rfl, ?_⟩
    have heq : (((atE d.H x : Nat) : Int) == 0) = decide (x ∈ order H0) := by
      unfold atE
      have e1 := hd.live x
      rw [← order_iff hm0] at e1
      by_cases hx : x ∈ order H0
      · rw [if_pos (e1.2 hx)]; simp [hx]
      · rw [if_neg (fun h => hx (e1.1 h))]; simp [hx]
    rw [heq]
    refine cond_f (by simp) ?_
    rw [wrapI64 (by omega) (by omega)]
    exact ⟨⟨g + 1, by omega, by omega, h12⟩, by dsimp only; omega⟩

set_option maxRecDepth 100000 in
theorem again_lifted (os : Os) (started : os.Started) (H : Type) (enc : TypeId × Value → H) :
    ReturnsInHanded {} Try.checked os 5 .any (Rows.slideAgainSpec.pre6 enc Try.prog Try.f5 Rows.slideAgainRow.domain false) (Rows.slideAgainSpec.post enc Try.prog Try.f5 false true false false) := by
  refine returnsInHanded_of_change (C := Try.checked) own started (by kernel_rfl) Try.func5
    (ChangeSpec.witness6 (enc := enc) (C := Try.checked) false ⟨#[], #[.slice none 0 0, .int .i64 0], []⟩ 8 (by kernel_rfl) (by kernel_rfl) (by kernel_rfl) (by kernel_rfl)) ?_
  intro W base args ds gs before hval hW hcnd _
  have hval : ∀ (j : Nat) t v, Try.f5.params[j]? = some t → args[j]? = some v → Value.okWide Try.prog W .any base t v := hval
  have hW' : DataW.Whole enc Try.prog Try.f5.params.toList Rows.slideAgainSpec.vars false W args.toList ds gs before := hW
  obtain ⟨p, q, hA, hV, _⟩ := hW'
  rw [Try.params5] at hA hval
  obtain ⟨v0, v1, d0, d1, p0, p1, rfl, rfl, rfl, h0, h1⟩ := trodAll_two hA
  obtain ⟨a0, l0, c0, rfl⟩ := okWide_slice Try.underlying39 (hval 0 39 v0 rfl rfl)
  obtain ⟨⟨xs0, hx0⟩, _⟩ := argRows (ks := dks9) Try.underlying39 Try.underlying68 (by kernel_rfl) (by kernel_rfl) (by kernel_rfl) h0
  obtain ⟨n1, rfl, rfl, rfl, wn1⟩ := open_int Try.underlying3 (hval 1 3 v1 rfl rfl) h1
  refine (again_c W hx0 n1).mono fun e W' ⟨he, hs⟩ => ?_
  exact ⟨_, he, law_post (tb := 4) laidOut (by decide +kernel) (by kernel_rfl) Try.underlying4 rfl hW ⟨rfl, rfl, rfl⟩ hs⟩

theorem again_holds : Rows.SlideAgainSaid :=
  OpenClaim.holds_of_wide 5 Try.f5 rfl rfl rfl rfl rfl rfl rfl ⟨rfl, rfl, rfl, rfl, rfl⟩ rfl rfl rfl rfl rfl (by kernel_rfl) Try.func5 (by kernel_rfl)
    (of_decide_eq_true (by kernel_rfl)) (by unfold Func.isWrapper; first | (rw [if_pos (by decide +kernel)]; kernel_rfl) | (rw [if_neg (by decide +kernel)]; exact ⟨rfl, rfl⟩))
    (fun os started H enc _ => again_lifted os started H enc)
