
/- 'SlideBusy' answers true: while others make objects, set words, and link what is reached or new, in steps of whatever size, collection behind collection: the graph is at every moment as it would be without; all that is reached stays. No conditions. -/
import Derived.Test.YtdfdmboljidhnaaSb
set_option maxRecDepth 100000
namespace Go.Hm
open Go Go.Lw Go.Wd Go.Am Go.Tb Go.Proofs.Ytdfdmboljidhnaa
theorem filter_idx {P : Nat → Bool} : ∀ {l : List Nat} {j x : Nat}, (l.filter P)[j]? = some x → ∃ k, j ≤ k ∧ l[k]? = some x
  | [], j, x, h => by simp at h
  | a :: l, j, x, h => by
    rw [List.filter_cons] at h
    split at h
    · cases j with
      | zero => exact ⟨0, by omega, by simpa using h⟩
      | succ j =>
        simp only [List.getElem?_cons_succ] at h
        obtain ⟨k, h1, h2⟩ := filter_idx h
        exact ⟨k + 1, by omega, by simpa using h2⟩
    · obtain ⟨k, h1, h2⟩ := filter_idx h
      exact ⟨k + 1, by omega, by simpa using h2⟩
theorem filter_in (P : Nat → Bool) (hs : List Nat) : (hs.filter fun x => decide (x ∈ hs.filter P)) = hs.filter P := by
  apply List.filter_congr
  intro x hx
  rw [Bool.eq_iff_iff, decide_eq_true_eq, List.mem_filter]
  exact ⟨fun h => h.2, fun h => ⟨hx, h⟩⟩
/-- what a check asks for. -/
theorem rcl_of {B : Nat} {d : Cd} (h : Ci B d) : (∀ y ∈ d.H.roots, d.H.may y = true) ∧ (∀ x ∈ order d.H, ∀ y ∈ refsOf d.H x, d.H.may y = true) := by
  have hm : ∀ {y : Nat}, y = 0 ∨ sv d.H y → d.H.may y = true := fun a => by
    unfold Hp.may
    rcases a with rfl | a
    · rfl
    · rw [sv_live a]; simp
  rcases h.ph with a | a | a
  · exact ⟨a.2.2.2.roots, fun x _ => a.2.2.2.refs x⟩
  · exact ⟨a.2.2.2.roots, fun x _ => a.2.2.2.refs x⟩
  · exact ⟨fun y hy => hm (a.2.2.roots y hy), fun x hx y hy => hm (a.2.2.refs x (a.2.2.reach ((order_iff h.wf).1 hx)) y hy)⟩
end Go.Hm
namespace Go.Proofs.Ytdfdmboljidhnaa
open Go Go.Lw Go.Wd Go.Am Go.Tb Go.Hm Go.ChangeShapes Go.WideShapes Go.ChangeAt Go.RowKit
section
variable {B A : Nat} {d : Cd} {hs : List Nat} {dd : Dd} {r : Rh} {om : List (R9 × Gq)} {w W : World} {S : Mem} {b cb mb b0 b1 : Nat}
theorem busy_blk (hS : Sat (Row b1 dd.cells 68 :: CL d b cb mb [Ro W S, Row b0 r.cells 44]) w) (h : Dz B A d hs) (hM : Mir S d.H hs r om) {tp : Option Addr} {tc : Nat} (hT : CRs S 1 (words hs) tp hs.length tc) (hw : dd.w < 18446744073709551616) (hy64 : -9223372036854775808 ≤ dd.y ∧ dd.y ≤ 9223372036854775807)
    (hlk : d.ph ≠ 1 → 3 ≤ dd.d → dd.d ≤ 7 → dd.d ≠ 5 → pickN hs dd.y = 0 ∨ sv d.H (pickN hs dd.y)) {K : Option Addr → Nat → Nat → World → Prop} {R0 : World → Prop}
    (hK : ∀ (d' : Cd) (hs' : List Nat) (S' : Mem) (r' : Rh) (om' : List (R9 × Gq)) (tp' : Option Addr) (tc' : Nat) (w' : World), Ext S S' → Mir S' d'.H hs' r' om' → CRs S' 1 (words hs') tp' hs'.length tc' → Dy B A d d' hs hs' → Sat (CL d' b cb mb [Ro W S', Row b0 r'.cells 44]) w' → K tp' hs'.length tc' w') :
    Ld_tidemarkref9_Heap w (⟨b0, 0, none⟩) fun s4p s4l s4c n83 n84 n85 n86 n87 n88 n89 n90 n91 n92 n93 n94 n95 n96 n97 n98 =>
  LdI .i64 w (⟨b1, 0, none⟩) fun n99 =>
  LdI .i64 w (Addr.add (⟨b1, 0, none⟩) 1) fun n100 =>
  LdI .i64 w (Addr.add (⟨b1, 0, none⟩) 2) fun n101 =>
  LdI .i64 w (Addr.add (⟨b1, 0, none⟩) 3) fun n102 =>
  LdI .i64 w (Addr.add (⟨b1, 0, none⟩) 4) fun n103 =>
  LdI .u64 w (Addr.add (⟨b1, 0, none⟩) 5) fun n104 =>
  Calls Try.prog 39 #[.pointer (some ⟨b, 0, none⟩), .agg #[.slice s4p s4l s4c, .int .u64 n83, .int .u64 n84, .int .u64 n85, .int .u64 n86, .int .u64 n87, .int .u64 n88, .int .u64 n89, .int .u64 n90, .int .u64 n91, .int .u64 n92, .int .u64 n93, .int .u64 n94, .int .u64 n95, .int .u64 n96, .int .u64 n97, .int .u64 n98], (.slice tp hs.length tc), .agg #[.int .i64 n99, .int .i64 n100, .int .i64 n101, .int .i64 n102, .int .i64 n103, .int .u64 n104]] w fun e8 w22 =>
  ∃ (r43p : Option Addr), ∃ (r43l : Nat), ∃ (r43c : Nat), ∃ (r44 : Int), ∃ (r45 : Int), ∃ (r46 : Int), ∃ (r47 : Int), ∃ (r48 : Int), ∃ (r49 : Int), ∃ (r50 : Int), ∃ (r51 : Int), ∃ (r52 : Int), ∃ (r53 : Int), ∃ (r54 : Int), ∃ (r55 : Int), ∃ (r56 : Int), ∃ (r57 : Int), ∃ (r58 : Int), ∃ (r59 : Int), ∃ (r60p : Option Addr), ∃ (r60l : Nat), ∃ (r60c : Nat), ∃ (r61 : Bool), e8 = .returned (.tuple #[.agg #[.slice r43p r43l r43c, .int .u64 r44, .int .u64 r45, .int .u64 r46, .int .u64 r47, .int .u64 r48, .int .u64 r49, .int .u64 r50, .int .u64 r51, .int .u64 r52, .int .u64 r53, .int .u64 r54, .int .u64 r55, .int .u64 r56, .int .u64 r57, .int .u64 r58, .int .u64 r59], .slice r60p r60l r60c, .bool r61]) ∧
  NewC (.cells #[.slice none 0 0, .int .u64 0, .int .u64 0, .int .u64 0, .int .u64 0, .int .u64 0, .int .u64 0, .int .u64 0, .int .u64 0, .int .u64 0, .int .u64 0, .int .u64 0, .int .u64 0, .int .u64 0, .int .u64 0, .int .u64 0, .int .u64 0] 44 (0, 0)) w22 fun b2 w23 =>
  St_tidemarkref9_Heap w23 (⟨b2, 0, none⟩) r43p r43l r43c r44 r45 r46 r47 r48 r49 r50 r51 r52 r53 r54 r55 r56 r57 r58 r59 fun w24 =>
  cond (!r61)
  (R0 w24)
  (Ld_tidemarkref9_Heap w24 (⟨b2, 0, none⟩) fun s5p s5l s5c n105 n106 n107 n108 n109 n110 n111 n112 n113 n114 n115 n116 n117 n118 n119 n120 =>
  St_tidemarkref9_Heap w24 (⟨b0, 0, none⟩) s5p s5l s5c n105 n106 n107 n108 n109 n110 n111 n112 n113 n114 n115 n116 n117 n118 n119 n120 fun w25 =>
  K r60p r60l r60c w25) := by
  refine ldRh (r := r) hS 5 rfl ?_
  refine LdI.of hS 0 rfl (off := 0) rfl rfl (LdI.of hS 0 rfl (off := 1) rfl (add_mk _ _ _) (LdI.of hS 0 rfl (off := 2) rfl (add_mk _ _ _) (LdI.of hS 0 rfl (off := 3) rfl (add_mk _ _ _) (LdI.of hS 0 rfl (off := 4) rfl (add_mk _ _ _) (LdI.of hS 0 rfl (off := 5) rfl (add_mk _ _ _) ?_)))))
  have h1 : Sat (CL d b cb mb (Ro W S :: [Row b0 r.cells 44])) w := Sat.drop hS
  refine (busy_play (r := r) h1 h hM hT hw hy64 hlk).mono ?_
  rintro e w1 ⟨d', hs', S', r', om', tp', tc', rfl, hE, hM', hT', hD, h2⟩
  refine ⟨_, _, _, _, _, _, _, _, _, _, _, _, _, _, _, _, _, _, _, _, _, _, _, rfl, ?_⟩
  refine NewC.ofRow h2 fun b2 w2 h3 => ?_
  refine stRh (r := r') rfl h3 0 rfl fun w3 h4 => ?_
  refine cond_f rfl ?_
  refine ldRh (r := r') h4 0 rfl (stRh (r := r') rfl h4 5 rfl fun w4 h5 => ?_)
  exact hK d' hs' S' r' om' tp' tc' w4 hE hM' hT' hD (Sat.drop h5)
end

set_option maxHeartbeats 8000000 in
theorem busy_c (W : World) {p p1 p2 : Option Addr} {l c l1 c1 l2 c2 : Nat} {xs ys : List Value} {zs : List Int} (hx : ArgR W dks9 p l xs) (hy : ArgR W dks9 p1 l1 ys) (hz : ArgI W .i64 p2 l2 zs) :
    Calls Try.prog 7 #[.slice p l c, .slice p1 l1 c1, .slice p2 l2 c2] W (Ret (.bool true) (Go.RowKit.Below W.heap.size W)) := by
  have h0 : Sat [Ro W (Mem.of W)] W := Sat.ofBase W
  refine S_law11_SlideBusy_ok _ _ _ _ _ _ _ _ _ _ _ ?_
  unfold S_law11_SlideBusy
  refine (awake11_c h0).mono ?_
  rintro e w0 ⟨rfl, h1⟩
  refine ⟨_, rfl, cond_f rfl ?_⟩
  by_cases hl : l ≤ 300
  rotate_left
  · exact cond_t (by simp; omega) ⟨rfl, h1.roBelow 0 rfl (Ext.refl _)⟩
  refine cond_f (by simp; omega) ?_
  by_cases hl1 : l1 ≤ 300
  rotate_left
  · exact cond_t (by simp; omega) ⟨rfl, h1.roBelow 0 rfl (Ext.refl _)⟩
  refine cond_f (by simp; omega) ?_
  refine (made11_c h1 (Ext.refl _) hx hl).mono ?_
  rintro e w1 ⟨b, S0, H0, hs0, r0, om0, tp0, tc0, rfl, hE0, hM0, hT0, hP0, hs3, hPd, h2⟩
  refine ⟨_, _, _, _, _, _, _, _, _, _, _, _, _, _, _, _, _, _, _, _, _, _, _, _, rfl, ?_⟩
  refine NewC.ofRow h2 fun b0 w2 h3 => ?_
  refine stRh (r := r0) rfl h3 0 rfl fun w3 h4 => ?_
  refine cond_f rfl ?_
  have h5 : Sat (HeapH H0 .nilIface b :: [Ro W S0, Row b0 r0.cells 44]) w3 := (Sat.pull h4 2 rfl).pull 2 rfl
  have hm0 := sat_wf h5
  have c0 : Ci 600 ⟨H0, [], 0, 0, 0⟩ := ci_mono (hPd.gn.ci hm0) (by omega)
  refine (snew_c h5).mono ?_
  rintro e w4 ⟨cb, mb, rfl, h6⟩
  refine ⟨_, rfl, ?_⟩
  refine ⟨fun tp tl tc a i w => ∃ (q A : Nat) (S1 : Mem) (d : Cd) (hs : List Nat) (r : Rh) (om : List (R9 × Gq)), i = q ∧ a = A ∧ q ≤ l1 ∧ tl = hs.length ∧ Ext (Mem.of W) S1 ∧ Mir S1 d.H hs r om ∧ CRs S1 1 (words hs) tp hs.length tc ∧ Ci (600 + 2 * q) d ∧ Pk d ∧
      (d.ph ≠ 0 → ∀ j x, A ≤ j → hs[j]? = some x → svC d x) ∧ roB d ≤ q ∧ mvB d ≤ 1048577 * q ∧ hs.length ≤ 300 + q ∧ Sat (CL d b cb mb [Ro W S1, Row b0 r.cells 44]) w, fun _ _ _ _ i _ => (l1 - i).toNat,
    ⟨0, 0, S0, ⟨H0, [], 0, 0, 0⟩, hs0, r0, om0, rfl, rfl, by omega, rfl, hE0, hM0, hT0, c0, pk_zero, fun h => absurd rfl h, Nat.le_refl 0, Nat.le_refl 0, by omega, h6⟩, ?_⟩
  clear h0 h1 h2 h3 h4 h5 h6 c0 hPd hM0 hT0 hP0
  rintro tp tl tc a i w5 ⟨q, A, S1, d, hs, r, om, rfl, rfl, hq, rfl, hE, hM, hT, hci, hpk, hnew, hro, hmv, hhl, h7⟩
  have hB : 600 + 2 * q + 2 < 4294967296 := by omega
  have hB2 : 600 + 2 * (q + 1) + 2 < 4294967296 := by omega
  have hwf := hci.wf
  unfold S_law11_SlideBusy_l0
  by_cases hql : q < l1
  rotate_left
  · as_aux_lemma =>
    refine cond_f (by simp; omega) ?_
    refine (sfull_c h7 hB hci hpk (by omega) (by omega)).mono ?_
    rintro e w6 ⟨rfl, h8⟩
    refine ⟨_, _, rfl, ?_⟩
    obtain ⟨e1, e2⟩ := end_ok hB hci
    have hf : Fl (600 + 2 * q) d.H (fullC d) := fl_of hB e1.ci e2 e1.less
    generalize fullC d = f at h8 hf
    refine ldRh (r := r) h8 4 rfl ?_
    refine (live9_c (r := r) hwf (Sat.pull h8 3 rfl) hM (by omega)).mono ?_
    rintro e w7 ⟨rfl, h9⟩
    refine ⟨_, _, rfl, ?_⟩
    have h10 : Sat (CL f b cb mb [Ro W S1, Row b0 r.cells 44]) w7.drew := (((Sat.pull h9 3 rfl).pull 3 rfl).pull 3 rfl).drew
    generalize w7.drew = w8 at h10
    obtain ⟨_, o2, o3⟩ := hf.ci.ph0 hf.ph
    refine ⟨fun w => ∃ (L : List HP) (i : Nat), L[i]? = some (Row b0 r.cells 44) ∧ Sat L w, ⟨_, 4, rfl, h10⟩, ?_⟩
    refine cond_t rfl ?_
    refine qRh (r := r) (b := b0) (T := 44) (fun w ⟨L, i, hi, h⟩ => ⟨_, h.pull i hi⟩) ?_
    refine (graph_c (Sat.pull h10 3 rfl).p1).mono ?_
    rintro e w9 ⟨gp, gc, np, nc, S2, gs, rfl, hE2, hR, hN, h13⟩
    refine ⟨_, _, _, _, _, _, rfl, ⟨_, 4, rfl, h13⟩, ?_⟩
    refine (differ_c (r := r) hf.less.graphR hf.less.graphN hwf (Sat.p1 h13) (hM.mono hE2) (by omega) hR hN).mono ?_
    rintro e w10 ⟨rfl, S3, hE3, h14⟩
    refine ⟨_, rfl, cond_t rfl ?_⟩
    refine ttop (Sat.p1 h14) ⟨_, rfl, ?_⟩
    rw [hf.top]
    refine cond_t (by simp) ?_
    refine (check_c (Sat.p1 h14) o3 o2).mono ?_
    rintro e w11 ⟨rfl, h15⟩
    exact ⟨_, rfl, rfl, h15.roBelow 1 rfl (hE.trans (hE2.trans hE3))⟩
  refine cond_t (by simp; omega) ?_
  intro k0 hk0
  -- with a collection under way: a deed, a step
  have mid : ∀ (A : Nat) (S2 : Mem) (d2 : Cd) (hs2 : List Nat) (r2 : Rh) (om2 : List (R9 × Gq)) (tp2 : Option Addr) (tc2 : Nat) w, Ext (Mem.of W) S2 → Mir S2 d2.H hs2 r2 om2 → CRs S2 1 (words hs2) tp2 hs2.length tc2 → Dz (600 + 2 * q) A d2 hs2 → roB d2 ≤ q + 1 → mvB d2 ≤ 1048577 * q + 1048576 → hs2.length ≤ 300 + q →
      Sat (CL d2 b cb mb [Ro W S2, Row b0 r2.cells 44]) w → k0 tp2 hs2.length tc2 (A : Int) w := by
    intro A S2 d2 hs2 r2 om2 tp2 tc2 w hE2 hM2 hT2 hD2 hro2 hmv2 hhl2 h8
    refine hk0 _ _ _ _ _ ?_
    unfold S_law11_SlideBusy_j2
    obtain ⟨a, dd, rfl, hzw, hy64, hcell⟩ := deed_rd hy hql
    have rd : ∀ (j : Nat) v, dd.cells[j]? = some v → ∀ w, Has S2 w → w.cell? ((a.add (q * 6)).add j) = some v := fun j v hj w hw => ((RdS.base (hcell j v hj)).mono hE2) w hw
    have rd0 : ∀ w, Has S2 w → w.cell? (a.add (q * 6)) = some (.int .i64 dd.d) := fun w hw => by simpa [Addr.add] using rd 0 _ rfl w hw
    have hw8 := h8.has 3 rfl
    refine ⟨by omega, by omega, ?_⟩
    rw [Int.toNat_natCast]
    refine LdI.at (rd0 w hw8) (LdI.at (rd 1 _ rfl w hw8) (LdI.at (rd 2 _ rfl w hw8) (LdI.at (rd 3 _ rfl w hw8) (LdI.at (rd 4 _ rfl w hw8) (LdI.at (rd 5 _ rfl w hw8) ?_)))))
    refine NewC.ofRow h8 fun b1 w9 h9 => ?_
    refine StC.of h9 0 rfl (off := 0) rfl rfl fun w10 h10 => ?_
    refine StC.of h10 0 rfl (off := 1) rfl (add_mk _ _ _) fun w11 h11 => ?_
    refine StC.of h11 0 rfl (off := 2) rfl (add_mk _ _ _) fun w12 h12 => ?_
    refine StC.of h12 0 rfl (off := 3) rfl (add_mk _ _ _) fun w13 h13 => ?_
    refine StC.of h13 0 rfl (off := 4) rfl (add_mk _ _ _) fun w14 h14 => ?_
    refine StC.of h14 0 rfl (off := 5) rfl (add_mk _ _ _) fun w15 h15 => ?_
    have h16 : Sat (Row b1 dd.cells 68 :: CL d2 b cb mb [Ro W S2, Row b0 r2.cells 44]) w15.drew := Sat.drew h15
    generalize w15.drew = w16 at h16
    clear h8 h9 h10 h11 h12 h13 h14 h15
    intro k1 hk1
    -- behind the deed
    have aft : ∀ (S3 : Mem) (d3 : Cd) (hs3 : List Nat) (r3 : Rh) (om3 : List (R9 × Gq)) (tp3 : Option Addr) (tc3 : Nat) w, Ext S2 S3 → Mir S3 d3.H hs3 r3 om3 → CRs S3 1 (words hs3) tp3 hs3.length tc3 → Dz (600 + 2 * (q + 1)) A d3 hs3 → roB d3 ≤ q + 1 → mvB d3 ≤ 1048577 * (q + 1) → hs3.length ≤ 300 + (q + 1) →
        Sat (CL d3 b cb mb [Ro W S3, Row b0 r3.cells 44]) w → k1 tp3 hs3.length tc3 w := by
      clear h16
      intro S3 d3 hs3 r3 om3 tp3 tc3 w hE3 hM3 hT3 hD3 hro3 hmv3 hhl3 h17
      refine hk1 _ _ _ _ ?_
      unfold S_law11_SlideBusy_j1
      intro k2 hk2
      have go : ∀ n : Nat, 1 ≤ n → n ≤ 8 → k2 (n : Int) w := by
        intro n hn1 hn8
        refine hk2 _ _ ?_
        unfold S_law11_SlideBusy_j0
        refine (sstep_c h17 hB2 hD3.ci hD3.pk hD3.ne (n := n) hn1 (by omega) (by omega) (by omega)).mono ?_
        rintro e w18 ⟨rfl, h18⟩
        refine ⟨_, _, rfl, ?_⟩
        have hst := step_ok hB2 hD3.ci hD3.ne n
        have hv := mvB_step hB2 hD3.ci hD3.ne n
        have hr := roB_step (c := d3) hD3.ne n
        have hpk4 := pk_step hD3.ci hD3.pk n
        have hsv := fun x (hx : svC d3 x) (hp : (stepC n d3).1.ph ≠ 0) => svC_step hB2 hD3.ci hD3.ne hx hp
        have hless := hst.less
        have hci4 := hst.ci
        generalize (stepC n d3).1 = d4 at h18 hv hr hpk4 hsv hless hci4
        clear hst
        have h19 : Sat (CL d4 b cb mb [Ro W S3, Row b0 r3.cells 44]) w18.drew := h18.drew
        generalize w18.drew = w19 at h19
        refine ⟨fun w => ∃ (L : List HP) (i : Nat), L[i]? = some (Row b0 r3.cells 44) ∧ Sat L w, ⟨_, 4, rfl, h19⟩, ?_⟩
        refine cond_f rfl ?_
        refine qRh (r := r3) (b := b0) (T := 44) (fun w ⟨L, i, hi, h⟩ => ⟨_, h.pull i hi⟩) ?_
        refine (graph_c (Sat.pull h19 3 rfl).p1).mono ?_
        rintro e w20 ⟨gp, gc, np, nc, S4, gs, rfl, hE4, hR, hN, h20⟩
        refine ⟨_, _, _, _, _, _, rfl, ⟨_, 4, rfl, h20⟩, ?_⟩
        refine (differ_c (r := r3) hless.graphR hless.graphN hD3.ci.wf (Sat.p1 h20) (hM3.mono hE4) (by omega) hR hN).mono ?_
        rintro e w21 ⟨rfl, S5, hE5, h21⟩
        refine ⟨_, rfl, cond_f rfl ?_⟩
        obtain ⟨cr1, cr2⟩ := rcl_of hci4
        refine (check2_c (Sat.p1 h21) cr1 cr2).mono ?_
        rintro e w22 ⟨rfl, h22⟩
        refine ⟨_, rfl, cond_f rfl ?_⟩
        refine ldRh (r := r3) h22 4 rfl ?_
        refine (gone11_c (r := r3) hD3.ci.wf h22 (hM3.mono (hE4.trans hE5)) hless (by omega)).mono ?_
        rintro e w23 ⟨S6, p6, l6, c6, om6, rfl, hE6, hM6, h23⟩
        refine ⟨_, _, _, _, _, _, _, _, _, _, _, _, _, _, _, _, _, _, _, rfl, ?_⟩
        generalize r3.withL p6 l6 c6 = r6 at hM6
        refine stRh (r := r6) rfl h23 4 rfl fun w24 h24 => ?_
        refine ldRh (r := r6) h24 4 rfl ?_
        have hfl6 : (hs3.filter fun x => (d4.H.look x).isSome).length ≤ hs3.length := List.length_filter_le _ _
        have hu3 : ∀ x ∈ hs3, x < 18446744073709551616 := fun x hx => by
          obtain ⟨o, ho⟩ := Option.isSome_iff_exists.1 (hM3.live x hx)
          exact look_lt hD3.ci.wf ho
        refine (alive11_c (r := r6) (hs := hs3) (Sat.p1 h24) hM6 (by omega) (by omega) (hT3.mono ((hE4.trans hE5).trans hE6)) hu3).mono ?_
        rintro e w25 ⟨S7, p7, c7, rfl, hE7, hT7, h25⟩
        rw [filter_in] at hT7 ⊢
        refine ⟨_, _, _, rfl, ?_⟩
        have hmin : iMin (A : Int) ((hs3.filter fun x => (d4.H.look x).isSome).length : Nat) = ((min A (hs3.filter fun x => (d4.H.look x).isSome).length : Nat) : Int) := by
          unfold iMin
          split <;> omega
        rw [hmin, wrapI64 (by omega) (by omega)]
        refine ⟨⟨q + 1, _, S7, d4, _, r6, om6, by omega, rfl, by omega, rfl, hE2.trans (hE3.trans ((hE4.trans hE5).trans (hE6.trans hE7))), hM6.mono hE7, hT7, hci4, hpk4, fun hp j x hj hx => ?_, by omega, by omega, by omega, ?_⟩, by dsimp only; omega⟩
        · have hlt := get_lt hx
          obtain ⟨k, hk1, hk2⟩ := filter_idx hx
          exact hsv x (hD3.new k x (by omega) hk2) hp
        · have h26 : Sat (Ro W S7 :: HeapH d4.H (wvC d4.ph mb cb) b :: CoR b cb mb d4.ph d4.ro d4.mv :: MkH b mb d4.st (d4.ph == 1) :: [Row b0 r6.cells 44]) w25 := h25
          exact (((Sat.pull h26 3 rfl).pull 3 rfl).pull 3 rfl)
      have one : k2 1 w := go 1 (by omega) (by omega)
      by_cases hl2 : 0 < l2
      rotate_left
      · exact cond_f (by simp; omega) one
      refine cond_t (by simp; omega) ?_
      obtain ⟨a2, rfl⟩ := hz.some hl2
      have hzl := hz.len
      have hmod : Int.tmod (q : Int) (l2 : Int) = ((q % l2 : Nat) : Int) := by rw [Int.tmod_eq_emod_of_nonneg (by omega)]; omega
      have hml : q % l2 < l2 := Nat.mod_lt _ hl2
      rw [hmod]
      generalize q % l2 = g at hml
      have hzq : zs[g]? = some zs[g] := List.getElem?_eq_getElem (by omega)
      have hrd := hz.reads a2 rfl g (.int .i64 zs[g]) (by rw [List.getElem?_map, hzq]; rfl)
      refine ⟨by omega, by omega, by omega, ?_⟩
      rw [Int.toNat_natCast]
      refine LdI.at (((RdS.base (by rw [Nat.mul_one]; exact hrd)).mono (hE2.trans hE3)) _ (h17.has 3 rfl)) ?_
      obtain ⟨x, hx7, hxe⟩ := bAnd_le zs[g] 7 (by omega)
      have hxe : bAnd .i64 zs[g] 7 = (x : Int) := hxe
      rw [hxe, show IntKind.wrap .i64 (1 + (x : Int)) = ((x + 1 : Nat) : Int) by rw [wrapI64 (by omega) (by omega)]; omega]
      exact go (x + 1) (by omega) (by omega)
    -- the deed
    have blk : ∀ (d' : Cd) (hs' : List Nat) (S' : Mem) (r' : Rh) (om' : List (R9 × Gq)) (tp' : Option Addr) (tc' : Nat) (w' : World), Ext S2 S' → Mir S' d'.H hs' r' om' → CRs S' 1 (words hs') tp' hs'.length tc' → Dy (600 + 2 * q) A d2 d' hs2 hs' → Sat (CL d' b cb mb [Ro W S', Row b0 r'.cells 44]) w' → k1 tp' hs'.length tc' w' := by
      intro d' hs' S' r' om' tp' tc' w' g1 g2 g3 g4 g5
      have e1 := g4.mv; have e2 := g4.ro; have e3 := g4.len
      exact aft S' d' hs' r' om' tp' tc' w' g1 g2 g3 g4.dz (by omega) (by omega) (by omega) g5
    have skip : ∀ w, Sat (Row b1 dd.cells 68 :: CL d2 b cb mb [Ro W S2, Row b0 r2.cells 44]) w → k1 tp2 hs2.length tc2 w := fun w hw =>
      aft S2 d2 hs2 r2 om2 tp2 tc2 w (Ext.refl _) hM2 hT2 (Dy.same hD2).dz (by omega) (by omega) (by omega) (Sat.drop hw)
    have hlkd : Lkd d2.H A hs2 dd → d2.ph ≠ 1 → 3 ≤ dd.d → dd.d ≤ 7 → dd.d ≠ 5 → pickN hs2 dd.y = 0 ∨ sv d2.H (pickN hs2 dd.y) := by
      intro hv hp a1 a2 a3
      obtain ⟨_, _, q3⟩ := hD2.ci.ph2 hD2.ne hp
      rcases hv with v | v | v | v | ⟨j, v1, v2⟩ | v
      · omega
      · exact absurd v a3
      · omega
      · exact .inl v
      · have := hD2.new j _ v1 v2
        unfold svC at this
        rw [if_neg hp] at this
        exact .inr this
      · exact .inr (q3.reach ((order_iff hD2.ci.wf).1 v))
    refine ⟨fun w => ∃ (L : List HP) (i j : Nat), L[i]? = some (Row b0 r2.cells 44) ∧ L[j]? = some (Row b1 dd.cells 68) ∧ Sat L w, ⟨_, 5, 0, rfl, rfl, h16⟩, ?_⟩
    refine qRh (r := r2) (b := b0) (T := 44) (fun w ⟨L, i, j, hi, hj, h⟩ => ⟨_, h.pull i hi⟩) ?_
    refine ⟨dd.d, dd.x, dd.y, dd.i, dd.j, (dd.w : Int), fun w ⟨L, i, j, hi, hj, h⟩ => LdI.of h j hj (off := 0) rfl rfl (LdI.of h j hj (off := 1) rfl (add_mk _ _ _) (LdI.of h j hj (off := 2) rfl (add_mk _ _ _) (LdI.of h j hj (off := 3) rfl (add_mk _ _ _) (LdI.of h j hj (off := 4) rfl (add_mk _ _ _) (LdI.of h j hj (off := 5) rfl (add_mk _ _ _) rfl))))), ?_⟩
    refine (linked11_c (r := r2) hD2.ci.wf h16 4 rfl hM2 (by omega) hT2 A dd).mono ?_
    rintro e w17 ⟨v, rfl, hv, h17⟩
    refine ⟨_, rfl, ⟨_, 5, 0, rfl, rfl, h17⟩, ?_⟩
    cases v with
    | false => exact cond_f rfl (skip w17 h17)
    | true =>
      have hlk := hlkd (hv rfl)
      refine cond_t rfl ?_
      refine LdIQ.row (fun w ⟨L, i, j, hi, hj, h⟩ => ⟨_, h.pull j hj⟩) (off := 0) rfl rfl ?_
      by_cases d2' : dd.d ≤ 2
      · exact cond_t (by simpa using d2') (busy_blk (R0 := fun w => Ret (.bool true) (Go.RowKit.Below W.heap.size W) (.returned (.bool false)) w) h17 hD2 hM2 hT2 hzw hy64 hlk blk)
      refine cond_f (by simpa using d2') ?_
      refine LdIQ.row (fun w ⟨L, i, j, hi, hj, h⟩ => ⟨_, h.pull j hj⟩) (off := 0) rfl rfl ?_
      by_cases d6 : 6 ≤ dd.d
      · exact cond_t (decide_eq_true d6) (busy_blk (R0 := fun w => Ret (.bool true) (Go.RowKit.Below W.heap.size W) (.returned (.bool false)) w) h17 hD2 hM2 hT2 hzw hy64 hlk blk)
      refine cond_f (decide_eq_false d6) ?_
      refine qRh (r := r2) (b := b0) (T := 44) (fun w ⟨L, i, j, hi, hj, h⟩ => ⟨_, h.pull i hi⟩) ?_
      refine LdIQ.row (fun w ⟨L, i, j, hi, hj, h⟩ => ⟨_, h.pull j hj⟩) (off := 1) rfl (add_mk _ _ _) ?_
      refine (pick11_c h17 4 rfl hT2 dd.x).mono ?_
      rintro e w18 ⟨rfl, rfl⟩
      refine ⟨_, rfl, ⟨_, 5, 0, rfl, rfl, h17⟩, ?_⟩
      refine (reached9_c (r := r2) hD2.ci.wf h17 4 rfl hM2 (by omega) _).mono ?_
      rintro e w18 ⟨rfl, h18⟩
      refine ⟨_, rfl, ⟨_, 5, 0, rfl, rfl, h18⟩, ?_⟩
      cases hdec : decide (pickN hs2 dd.x ∈ order d2.H) with
      | true => exact cond_t rfl (busy_blk (R0 := fun w => Ret (.bool true) (Go.RowKit.Below W.heap.size W) (.returned (.bool false)) w) h18 hD2 hM2 hT2 hzw hy64 hlk blk)
      | false =>
        refine cond_f rfl ?_
        refine LdIQ.row (fun w ⟨L, i, j, hi, hj, h⟩ => ⟨_, h.pull j hj⟩) (off := 0) rfl rfl ?_
        by_cases d8 : dd.d = 8
        · exact cond_t (by simpa using d8) (busy_blk (R0 := fun w => Ret (.bool true) (Go.RowKit.Below W.heap.size W) (.returned (.bool false)) w) h18 hD2 hM2 hT2 hzw hy64 hlk blk)
        · exact cond_f (by simpa using d8) (skip w18 h18)
  -- the head: a collection begins
  refine (sphase_c h7 1 rfl).mono ?_
  rintro e w6 ⟨rfl, rfl⟩
  refine ⟨_, rfl, ?_⟩
  by_cases hp : d.ph = 0
  rotate_left
  · refine cond_f (by simp; omega) ?_
    exact mid A S1 d hs r om tp tc w5 hE hM hT ⟨hci, hpk, hp, hnew hp⟩ (by omega) (by omega) hhl h7
  refine cond_t (by simp [hp]) ?_
  refine ldRh (r := r) h7 4 rfl ?_
  refine (kept9_c (r := r) hwf (Sat.pull h7 3 rfl) hM (by omega)).mono ?_
  rintro e w7 ⟨S2, p2', l2', c2', om2, rfl, hE2, hM2, h8⟩
  refine ⟨_, _, _, _, _, _, _, _, _, _, _, _, _, _, _, _, _, _, _, rfl, ?_⟩
  generalize r.withL p2' l2' c2' = r2 at hM2
  refine stRh (r := r2) rfl h8 4 rfl fun w8 h9 => ?_
  refine ldRh (r := r2) h9 4 rfl ?_
  have hfl2 : (hs.filter fun x => decide (x ∈ order d.H)).length ≤ hs.length := List.length_filter_le _ _
  have hu2 : ∀ x ∈ hs, x < 18446744073709551616 := fun x hx => by
    obtain ⟨o, ho⟩ := Option.isSome_iff_exists.1 (hM.live x hx)
    exact look_lt hwf ho
  refine (alive11_c (r := r2) (hs := hs) h9 hM2 (by omega) (by omega) (hT.mono hE2) hu2).mono ?_
  rintro e w9 ⟨S3, p3, c3, rfl, hE3, hT3, h10⟩
  rw [filter_in] at hT3 ⊢
  refine ⟨_, _, _, rfl, ?_⟩
  have h11 : Sat (CL d b cb mb [Ro W S3, Row b0 r2.cells 44]) w9 := by
    have h26 : Sat (Ro W S3 :: HeapH d.H (wvC d.ph mb cb) b :: CoR b cb mb d.ph d.ro d.mv :: MkH b mb d.st (d.ph == 1) :: [Row b0 r2.cells 44]) w9 := h10
    exact (((Sat.pull h26 3 rfl).pull 3 rfl).pull 3 rfl)
  refine (sstart_c h11 hci hp).mono ?_
  rintro e w10 ⟨rfl, h12⟩
  refine ⟨_, rfl, cond_f rfl ?_⟩
  have s1 := start_ok hci hp
  have sp := pk_start hci
  have hob := objs_le s1.ci.wf
  have e1 : mvB (startC d) = d.mv + ((startC d).H.m.low.length + (startC d).H.m.high.length) := rfl
  have e2 : roB (startC d) = d.ro + 1 := rfl
  have e3 := mv_le d
  have e4 := ro_le d
  have hM4 : Mir S3 (startC d).H (hs.filter fun x => decide (x ∈ order d.H)) r2 om2 := (hM2.mono hE3).sm (sk_sm (began_ok hwf).2.1)
  exact mid (hs.filter fun x => decide (x ∈ order d.H)).length S3 (startC d) _ r2 om2 p3 c3 w10 (hE.trans (hE2.trans hE3)) hM4 hT3 ⟨s1.ci, sp, by show 1 ≠ 0; decide, fun j x hj hx => absurd (get_lt hx) (by omega)⟩ (by omega) (by omega) (by omega) h12

set_option maxRecDepth 100000 in
theorem busy_lifted (os : Os) (started : os.Started) (H : Type) (enc : TypeId × Value → H) :
    ReturnsInHanded {} Try.checked os 7 .any (Rows.slideBusySpec.pre6 enc Try.prog Try.f7 Rows.slideBusyRow.domain false) (Rows.slideBusySpec.post enc Try.prog Try.f7 false true false false) := by
  refine returnsInHanded_of_change (C := Try.checked) own started (by kernel_rfl) Try.func7
    (ChangeSpec.witness6 (enc := enc) (C := Try.checked) false ⟨#[], #[.slice none 0 0, .slice none 0 0, .slice none 0 0], []⟩ 8 (by kernel_rfl) (by kernel_rfl) (by kernel_rfl) (by kernel_rfl)) ?_
  intro W base args ds gs before hval hW hcnd _
  have hval : ∀ (j : Nat) t v, Try.f7.params[j]? = some t → args[j]? = some v → Value.okWide Try.prog W .any base t v := hval
  have hW' : DataW.Whole enc Try.prog Try.f7.params.toList Rows.slideBusySpec.vars false W args.toList ds gs before := hW
  obtain ⟨p, q, hA, hV, _⟩ := hW'
  rw [Try.params7] at hA hval
  obtain ⟨v0, v1, v2, d0, d1, d2, p0, p1, p2, rfl, rfl, rfl, h0, h1, h2⟩ := trodAll_three hA
  obtain ⟨a0, l0, c0, rfl⟩ := okWide_slice Try.underlying39 (hval 0 39 v0 rfl rfl)
  obtain ⟨⟨xs0, hx0⟩, _⟩ := argRows (ks := dks9) Try.underlying39 Try.underlying68 (by kernel_rfl) (by kernel_rfl) (by kernel_rfl) h0
  obtain ⟨a1, l1, c1, rfl⟩ := okWide_slice Try.underlying39 (hval 1 39 v1 rfl rfl)
  obtain ⟨⟨xs1, hx1⟩, _⟩ := argRows (ks := dks9) Try.underlying39 Try.underlying68 (by kernel_rfl) (by kernel_rfl) (by kernel_rfl) h1
  obtain ⟨a2, l2, c2, rfl⟩ := okWide_slice Try.underlying40 (hval 2 40 v2 rfl rfl)
  obtain ⟨zs2, hz2⟩ := argInts Try.underlying40 Try.underlying3 (by kernel_rfl) h2
  refine (busy_c W hx0 hx1 hz2).mono fun e W' ⟨he, hs⟩ => ?_
  exact ⟨_, he, law_post (tb := 4) laidOut (by decide +kernel) (by kernel_rfl) Try.underlying4 rfl hW ⟨rfl, rfl, rfl⟩ hs⟩

theorem busy_holds : Rows.SlideBusySaid :=
  OpenClaim.holds_of_wide 7 Try.f7 rfl rfl rfl rfl rfl rfl rfl ⟨rfl, rfl, rfl, rfl, rfl⟩ rfl rfl rfl rfl rfl (by kernel_rfl) Try.func7 (by kernel_rfl)
    (of_decide_eq_true (by kernel_rfl)) (by unfold Func.isWrapper; first | (rw [if_pos (by decide +kernel)]; kernel_rfl) | (rw [if_neg (by decide +kernel)]; exact ⟨rfl, rfl⟩))
    (fun os started H enc _ => busy_lifted os started H enc)
