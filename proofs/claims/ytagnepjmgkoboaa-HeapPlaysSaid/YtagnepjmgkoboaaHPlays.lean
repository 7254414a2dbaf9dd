
/- 'HeapPlays' answers true: whatever is made, linked and set, each answer, the graph and what is reached are what the document's heap says. No conditions. -/
import Derived.Test.YtagnepjmgkoboaaCl
import Derived.Test.YtagnepjmgkoboaaDf
set_option maxRecDepth 100000
namespace Go.Proofs.Ytagnepjmgkoboaa
open Go Go.Lw Go.Wd Go.Am Go.Tb Go.Hm Go.ChangeShapes Go.WideShapes Go.ChangeAt Go.RowKit

set_option maxHeartbeats 4000000 in
theorem plays_c (W : World) (n0 n1 : Int) {p : Option Addr} {l c : Nat} {xs : List Value} (hx : ArgR W dks9 p l xs) :
    Calls Try.prog 8 #[.int .i64 n0, .int .i64 n1, .slice p l c] W (Ret (.bool true) (Go.RowKit.Below W.heap.size W)) := by
  have hlm := hx.max
  simp only [maxLen] at hlm
  have h0 : Sat [Ro W (Mem.of W)] W := Sat.ofBase W
  refine S_law9_HeapPlays_ok _ _ _ _ _ _ _ ?_
  unfold S_law9_HeapPlays
  refine (awake_c h0).mono ?_
  rintro e w0 ⟨rfl, h1⟩
  refine ⟨_, rfl, cond_f rfl ?_⟩
  obtain ⟨a0, ha0, hae0⟩ := bAnd_le n0 4095 (by omega)
  have hae0 : bAnd .i64 n0 4095 = (a0 : Int) := hae0
  obtain ⟨a1, ha1, hae1⟩ := bAnd_le n1 255 (by omega)
  have hae1 : bAnd .i64 n1 255 = (a1 : Int) := hae1
  rw [hae0, hae1, show IntKind.wrap .i64 (1 + (a0 : Int)) = ((a0 + 1 : Nat) : Int) by rw [wrapI64 (by omega) (by omega)]; omega, show IntKind.wrap .i64 (1 + (a1 : Int)) = ((a1 + 1 : Nat) : Int) by rw [wrapI64 (by omega) (by omega)]; omega]
  generalize hn : a0 + 1 = n
  generalize hk : a1 + 1 = k
  refine (fresh_c (n := n) (k := k) (by omega) (by omega) (by omega) (by omega) h1).mono ?_
  rintro e w1 ⟨b, rfl, h2⟩
  refine ⟨_, rfl, cond_f rfl ?_⟩
  refine NewC.ofRow h2 fun b0 w2 h3 => ?_
  have h4 : Sat [HeapH (Hp.new n k) .nilIface b, Ro W (Mem.of W), Row b0 Rh.zero.cells 42] w2 := (Sat.pull h3 2 rfl).pull 2 rfl
  clear h0 h1 h2 h3
  refine ⟨fun tp tl tc i w => ∃ (q : Nat) (S1 : Mem) (H : Hp) (hs : List Nat) (r : Rh) (om : List (R9 × Gq)), i = q ∧ q ≤ l ∧ Ext (Mem.of W) S1 ∧ Mir S1 H hs r om ∧ CRs S1 1 (words hs) tp hs.length tc ∧ tl = hs.length ∧ Pl n k H hs ∧ H.Closed ∧
      Sat [HeapH H .nilIface b, Ro W S1, Row b0 r.cells 42] w,
    fun _ _ _ i _ => (l - i).toNat, ⟨0, Mem.of W, Hp.new n k, [], Rh.zero, [], rfl, by omega, Ext.refl _, mir_new _ _ _, crs_nil _ _ _, rfl, Pl.new _ _, closed_new _ _, h4⟩, ?_⟩
  clear h4
  rintro tp tl tc i w3 ⟨q, S1, H, hs, r, om, rfl, hq, hE, hM, hT, rfl, hP, hcl0, h5⟩
  have hm := sat_wf h5
  have hcl := count_le hm.tab
  have hcn := hP.cnt
  have htn := hP.tn
  have hmost := hm.tab.most
  unfold S_law9_HeapPlays_l0
  by_cases hql : q < l
  rotate_left
  · refine cond_f (by simp; omega) ?_
    refine (hlive_c h5).mono ?_
    rintro e w4 ⟨rfl, h6⟩
    refine ⟨_, _, rfl, ?_⟩
    refine ldRh (r := r) h6 2 rfl ?_
    refine (live9_c (r := r) hm (Sat.p1 h6) hM (by omega)).mono ?_
    rintro e w5 ⟨rfl, h7⟩
    refine ⟨_, _, rfl, ?_⟩
    have h8 : Sat [HeapH H .nilIface b, Ro W S1, Row b0 r.cells 42] w5.drew := (Sat.p1 h7).drew
    generalize w5.drew = w6 at h8
    clear h5 h6 h7
    refine ⟨fun w => ∃ (L : List HP) (i : Nat), L[i]? = some (Row b0 r.cells 42) ∧ Sat L w, ⟨_, 2, rfl, h8⟩, ?_⟩
    refine qRh (r := r) (b := b0) (T := 42) (fun w ⟨L, i, hi, h⟩ => ⟨_, h.pull i hi⟩) ?_
    refine (graph_c h8).mono ?_
    rintro e w7 ⟨gp, gc, np, nc, S2, gs, rfl, hE2, hR, hN, h9⟩
    refine ⟨_, _, _, _, _, _, rfl, ⟨_, 2, rfl, h9⟩, ?_⟩
    refine (differ_c (r := r) rfl rfl hm (Sat.p1 h9) (hM.mono hE2) (by omega) hR hN).mono ?_
    rintro e w8 ⟨rfl, S3, hE3, h10⟩
    refine ⟨_, rfl, ⟨_, 2, rfl, h10⟩, cond_t rfl (cond_t (by simp) (cond_t (by simp) ?_))⟩
    have h11 : Sat (HeapH H .nilIface b :: [Ro W S3, Row b0 r.cells 42]) w8 := Sat.p1 h10
    refine (check_c h11 hcl0 hP.op).mono ?_
    rintro e w9 ⟨rfl, h12⟩
    refine ⟨_, rfl, ⟨_, 2, rfl, h12⟩, cond_t rfl ?_⟩
    refine ⟨_, _, _, fun w ⟨L, i, hi, h⟩ => LdS.of h i hi (off := 0) rfl rfl rfl, ?_⟩
    refine (htable_c h12).mono ?_
    rintro e w10 ⟨rfl, ba, bt, rfl, h13⟩
    refine ⟨_, rfl, ⟨_, 2, rfl, h12⟩, ?_⟩
    refine (count_c (h13.pull 2 rfl)).mono ?_
    rintro e w10 ⟨rfl, rfl⟩
    refine ⟨_, rfl, ⟨_, 2, rfl, h12⟩, ?_, h12.roBelow 1 rfl (hE.trans (hE2.trans hE3))⟩
    rw [hM.len, hcn]
    simp
  refine cond_t (by simp; omega) ?_
  intro k0 hk0
  obtain ⟨a, d, rfl, hz, hy64, hcell⟩ := deed_rd hx hql
  have rd : ∀ j v, d.cells[j]? = some v → ∀ w, Has S1 w → w.cell? ((a.add (q * 6)).add j) = some v := fun j v hj w hw => ((RdS.base (hcell j v hj)).mono hE) w hw
  have rd0 : ∀ w, Has S1 w → w.cell? (a.add (q * 6)) = some (.int .i64 d.d) := fun w hw => by simpa [Addr.add] using rd 0 _ rfl w hw
  have h6 := h5.drew
  generalize w3.drew = w5 at h6
  have after : ∀ (S' : Mem) (r' : Rh) (om' : List (R9 × Gq)) (tp' : Option Addr) (tc' b2 : Nat) (w' : World), Ext S1 S' → Mir S' (playH H hs d).1 (playH H hs d).2 r' om' → CRs S' 1 (words (playH H hs d).2) tp' (playH H hs d).2.length tc' →
      Sat [Row b2 r'.cells 42, HeapH (playH H hs d).1 .nilIface b, Ro W S', Row b0 r.cells 42] w' →
      Ld_tidemarkref9_Heap w' ⟨b2, 0, none⟩ fun p l c n0 n1 n2 n3 n4 n5 n6 n7 n8 n9 n10 n11 n12 n13 n14 n15 => St_tidemarkref9_Heap w' ⟨b0, 0, none⟩ p l c n0 n1 n2 n3 n4 n5 n6 n7 n8 n9 n10 n11 n12 n13 n14 n15 fun w9 =>
        k0 tp' (playH H hs d).2.length tc' w9 := by
    intro S' r' om' tp' tc' b2 w' e1 hM' hT' h
    refine ldRh h 0 rfl (stRh (r := r') rfl h 3 rfl fun w2 h2 => ?_)
    refine hk0 _ _ _ _ ?_
    unfold S_law9_HeapPlays_j0
    rw [wrapI64 (by omega) (by omega)]
    exact ⟨⟨q + 1, S', (playH H hs d).1, (playH H hs d).2, r', om', by omega, by omega, hE.trans e1, hM', hT', rfl, hP.play hm.tab d, closed_play hm hcl0 hcn d, Sat.drop h2⟩, by first | omega | (dsimp only; omega)⟩
  refine ⟨fun w => ∃ (L : List HP) (i : Nat), L[i]? = some (Row b0 r.cells 42) ∧ Has S1 w ∧ Sat L w, ⟨_, 2, rfl, h6.has 1 rfl, h6⟩, ?_⟩
  refine qRh (r := r) (b := b0) (T := 42) (fun w ⟨L, i, hi, _, h⟩ => ⟨_, h.pull i hi⟩) ?_
  refine ⟨by omega, by omega, ?_⟩
  rw [Int.toNat_natCast]
  refine ⟨d.d, d.x, d.y, d.i, d.j, (d.w : Int), fun w ⟨L, i, hi, hw, h⟩ => LdI.at (rd0 w hw) (LdI.at (rd 1 _ rfl w hw) (LdI.at (rd 2 _ rfl w hw) (LdI.at (rd 3 _ rfl w hw) (LdI.at (rd 4 _ rfl w hw) (LdI.at (rd 5 _ rfl w hw) rfl))))), ?_⟩
  refine ⟨?_, ?_⟩
  · refine (plain_play (r := r) h6 hM (by omega) hcn hT hz hy64).mono ?_
    rintro e w7 ⟨S', r', om', tp', tc', rfl, e1, hM', hT', h8⟩
    refine ⟨_, _, _, _, _, _, _, _, _, _, _, _, _, _, _, _, _, _, _, _, _, _, _, rfl, ?_⟩
    refine NewC.ofRow h8 fun b2 w8 h9 => ?_
    refine stRh (r := r') rfl h9 0 rfl fun w9 h10 => ?_
    exact cond_f rfl (after S' r' om' tp' tc' b2 w9 e1 hM' hT' h10)
  · refine NewC.ofRow h6 fun b2 w7 h8 => ⟨⟨_, 3, rfl, h8.has 2 rfl, h8⟩, ?_⟩
    have h9 : Sat (HeapH H .nilIface b :: Ro W S1 :: [Row b2 Rh.zero.cells 42, Row b0 r.cells 42]) w7 := (Sat.pull h8 2 rfl).pull 2 rfl
    refine (plain_play (r := r) h9 hM (by omega) hcn hT hz hy64).mono ?_
    rintro e w8 ⟨S', r', om', tp', tc', rfl, e1, hM', hT', h10⟩
    refine ⟨_, _, _, _, _, _, _, _, _, _, _, _, _, _, _, _, _, _, _, _, _, _, _, rfl, ?_⟩
    refine stRh (r := r') rfl h10 2 rfl fun w9 h11 => ?_
    exact cond_f rfl (after S' r' om' tp' tc' b2 w9 e1 hM' hT' (Sat.pull h11 2 rfl))

set_option maxRecDepth 100000 in
theorem plays_lifted (os : Os) (started : os.Started) (H : Type) (enc : TypeId × Value → H) :
    ReturnsInHanded {} Try.checked os 8 .any (Rows.heapPlaysSpec.pre6 enc Try.prog Try.f8 Rows.heapPlaysRow.domain false) (Rows.heapPlaysSpec.post enc Try.prog Try.f8 false true false false) := by
  refine returnsInHanded_of_change (C := Try.checked) own started (by kernel_rfl) Try.func8
    (ChangeSpec.witness6 (enc := enc) (C := Try.checked) false ⟨#[], #[.int .i64 0, .int .i64 0, .slice none 0 0], []⟩ 8 (by kernel_rfl) (by kernel_rfl) (by kernel_rfl) (by kernel_rfl)) ?_
  intro W base args ds gs before hval hW hcnd _
  have hval : ∀ (j : Nat) t v, Try.f8.params[j]? = some t → args[j]? = some v → Value.okWide Try.prog W .any base t v := hval
  have hW' : DataW.Whole enc Try.prog Try.f8.params.toList Rows.heapPlaysSpec.vars false W args.toList ds gs before := hW
  obtain ⟨p, q, hA, hV, _⟩ := hW'
  rw [Try.params8] at hA hval
  obtain ⟨v0, v1, v2, d0, d1, d2, p0, p1, p2, rfl, rfl, rfl, h0, h1, h2⟩ := trodAll_three hA
  obtain ⟨n0, rfl, rfl, rfl, wn0⟩ := open_int Try.underlying3 (hval 0 3 v0 rfl rfl) h0
  obtain ⟨n1, rfl, rfl, rfl, wn1⟩ := open_int Try.underlying3 (hval 1 3 v1 rfl rfl) h1
  obtain ⟨a2, l2, c2, rfl⟩ := okWide_slice Try.underlying35 (hval 2 35 v2 rfl rfl)
  obtain ⟨⟨xs2, hx2⟩, _⟩ := argRows (ks := dks9) Try.underlying35 Try.underlying47 (by kernel_rfl) (by kernel_rfl) (by kernel_rfl) h2
  refine (plays_c W n0 n1 hx2).mono fun e W' ⟨he, hs⟩ => ?_
  exact ⟨_, he, law_post (tb := 4) laidOut (by decide +kernel) (by kernel_rfl) Try.underlying4 rfl hW ⟨rfl, rfl, rfl⟩ hs⟩

theorem plays_holds : Rows.HeapPlaysSaid :=
  OpenClaim.holds_of_wide 8 Try.f8 rfl rfl rfl rfl rfl rfl rfl ⟨rfl, rfl, rfl, rfl, rfl⟩ rfl rfl rfl rfl rfl (by kernel_rfl) Try.func8 (by kernel_rfl)
    (of_decide_eq_true (by kernel_rfl)) (by unfold Func.isWrapper; first | (rw [if_pos (by decide +kernel)]; kernel_rfl) | (rw [if_neg (by decide +kernel)]; exact ⟨rfl, rfl⟩))
    (fun os started H enc _ => plays_lifted os started H enc)
