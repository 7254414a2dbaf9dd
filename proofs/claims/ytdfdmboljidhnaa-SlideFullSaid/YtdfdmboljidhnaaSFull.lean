
/- 'SlideFull' answers true: after a full collection just what is reached is live, in the order in which it was made, from place 0 on; the graph is as it was; what is not reached is stale; so much room is made as is told. No conditions. -/
import Derived.Test.YtdfdmboljidhnaaKp
set_option maxRecDepth 100000
namespace Go.Hm
open Go Go.Lw Go.Wd Go.Am Go.Tb
theorem sub_filter {l hs : List Nat} {P : Nat → Bool} (h : l.Sublist hs) (nd : hs.Nodup) (hp : ∀ x ∈ hs, x ∈ l ↔ P x = true) : l = hs.filter P := by
  have h1 : l.filter P = l := List.filter_eq_self.2 fun x hx => (hp x (h.subset hx)).1 hx
  have h2 := h.filter P
  rw [h1] at h2
  refine h2.eq_of_length_le ?_
  refine List.Nodup.length_le_of_subset (nd.filter _) fun x hx => ?_
  obtain ⟨a, b⟩ := List.mem_filter.1 hx
  exact (hp x a).2 b
end Go.Hm
namespace Go.Proofs.Ytdfdmboljidhnaa
open Go Go.Lw Go.Wd Go.Am Go.Tb Go.Hm Go.ChangeShapes Go.WideShapes Go.ChangeAt Go.RowKit
section
variable {H : Hp} {v : Value} {b : Nat} {F : List HP} {w : World}
theorem row_get (hm : H.WF) (ho : H.m.op = false) {q x : Nat} (hx : (rowH H)[q]? = some x) : ∃ o, H.m.low[q]? = some o ∧ H.look x = some o ∧ H.place x = osz (H.m.low.take q) := by
  rw [row_low hm ho, List.getElem?_map] at hx
  obtain ⟨o, h1, h2⟩ := Option.map_eq_some_iff.1 hx
  obtain ⟨g1, g2⟩ := obj_look hm (low_find h1)
  rw [h2] at g1 g2
  exact ⟨o, h1, g1, g2⟩
theorem row_len (hm : H.WF) (ho : H.m.op = false) : (rowH H).length = H.m.low.length := by rw [row_low hm ho, List.length_map]
/-- order: do the live objects stand one behind the other? -/
theorem order11_c {B : Nat} (hS : Sat (HeapH H v b :: F) w) (hop : H.m.op = false) (hg : Gd B H) {p : Option Addr} {c : Nat} (hr : ∀ w, Sat (HeapH H v b :: F) w → Reads w p (words (rowH H))) (hp : 0 < (rowH H).length → ∃ a, p = some a) :
    Calls Try.prog 44 #[.pointer (some ⟨b, 0, none⟩), .slice p (rowH H).length c] w (Ret (.bool true) (Sat (HeapH H v b :: F))) := by
  have hm := sat_wf hS
  have hrl := row_len hm hop
  have hnx : ∀ k, H.m.next k = k := fun k => by simp [Am.next, hop]
  have htop : H.m.top = osz H.m.low := by simp [Am.top, hop]
  have hhigh := (hm.am.shut hop).2
  have hcnt := hg.cnt
  rw [hhigh] at hcnt
  have hle := hm.am.top
  have hmm := hm.am.most
  have hge := osz_ge H.m.low
  refine S_law11_order_ok _ _ _ _ _ _ ?_
  unfold S_law11_order
  refine (harena_c hS).mono ?_
  rintro e w1 ⟨rfl, ba, bt, rfl, h1⟩
  refine ⟨_, rfl, ?_⟩
  refine (first2 (h1.pull 1 rfl)).mono ?_
  rintro e w1 ⟨rfl, rfl⟩
  rw [hnx]
  refine ⟨_, rfl, ?_⟩
  intro k0 hk0
  have go : k0 w := by
    refine hk0 _ ?_
    unfold S_law11_order_j0
    refine ⟨fun a i w => ∃ q : Nat, i = q ∧ a = (osz (H.m.low.take q) : Nat) ∧ q ≤ (rowH H).length ∧ Sat (HeapH H v b :: F) w, fun _ i _ => ((rowH H).length - i).toNat, ⟨0, rfl, rfl, by omega, hS⟩, ?_⟩
    rintro a i w2 ⟨q, rfl, rfl, hq, h2⟩
    unfold S_law11_order_l0
    by_cases hql : q < (rowH H).length
    · refine cond_t (by simp; omega) ?_
      have h3 : Sat (HeapH H v b :: F) w2.drew := h2.drew
      generalize w2.drew = w3 at h3
      have hx : (rowH H)[q]? = some (rowH H)[q] := List.getElem?_eq_getElem hql
      generalize (rowH H)[q] = x at hx
      obtain ⟨o, g1, g2, g3⟩ := row_get hm hop hx
      obtain ⟨a, rfl⟩ := hp (by omega)
      refine ⟨fun w => Sat (HeapH H v b :: F) w, h3, ?_⟩
      refine ⟨by omega, by omega, ?_⟩
      rw [Int.toNat_natCast]
      refine ⟨(x : Int), fun w hw => LdI.at (hr w hw _ rfl (q * 1) _ (by rw [Nat.mul_one]; unfold words; rw [List.getElem?_map, hx]; rfl)) rfl, ?_⟩
      refine tatC h3 (look_lt hm g2) h3 ⟨_, _, rfl, ?_⟩
      have e1 : atE H x = 0 := by unfold atE; rw [g2]; rfl
      have e2 : atP H x = osz (H.m.low.take q) := by unfold atP; rw [g2]; exact g3
      rw [e1, e2]
      refine cond_f rfl (cond_f (by simp) ?_)
      refine (harena_c h3).mono ?_
      rintro e w4 ⟨rfl, ba, bt, rfl, h4⟩
      refine ⟨_, rfl, ?_⟩
      refine (next2 (h4.pull 1 rfl) _).mono ?_
      rw [findI_nat, low_find g1]
      rintro e w4 ⟨rfl, h5⟩
      refine ⟨_, _, rfl, cond_f rfl ?_⟩
      rw [hnx, Int.toNat_natCast, wrapI64 (by omega) (by omega)]
      have hsu := osz_take_succ g1
      exact ⟨⟨q + 1, by omega, by omega, by omega, heap_shut hm (ba := ba) (bt := bt) (Sat.p1 h5)⟩, by dsimp only; omega⟩
    · refine cond_f (by simp; omega) ?_
      have hqe : q = H.m.low.length := by omega
      subst hqe
      rw [List.take_length]
      refine ttop h2 ⟨_, rfl, ?_⟩
      rw [htop]
      refine cond_t (by simp) ?_
      refine (htable_c h2).mono ?_
      rintro e w3 ⟨rfl, ba, bt, rfl, h3⟩
      refine ⟨_, rfl, ?_⟩
      refine (count_c (h3.pull 2 rfl)).mono ?_
      rintro e w3 ⟨rfl, rfl⟩
      refine ⟨_, rfl, ?_, h2⟩
      have : (((H.t.count : Nat) : Int) == (((rowH H).length : Nat) : Int)) = true := by
        rw [hcnt, hrl]; simp
      rw [this]
  by_cases hz : (rowH H).length > 0
  · exact cond_t (decide_eq_true (by omega)) (cond_f rfl go)
  · exact cond_f (decide_eq_false (by omega)) go
end

set_option maxHeartbeats 4000000 in
theorem full_c (W : World) {p : Option Addr} {l c : Nat} {xs : List Value} (hx : ArgR W dks9 p l xs) :
    Calls Try.prog 8 #[.slice p l c] W (Ret (.bool true) (Go.RowKit.Below W.heap.size W)) := by
  have h0 : Sat [Ro W (Mem.of W)] W := Sat.ofBase W
  refine S_law11_SlideFull_ok _ _ _ _ _ ?_
  unfold S_law11_SlideFull
  refine (awake11_c h0).mono ?_
  rintro e w0 ⟨rfl, h1⟩
  refine ⟨_, rfl, cond_f rfl ?_⟩
  by_cases hl : l ≤ 300
  rotate_left
  · exact cond_t (by simp; omega) ⟨rfl, h1.roBelow 0 rfl (Ext.refl _)⟩
  refine cond_f (by simp; omega) ?_
  refine (made11_c h1 (Ext.refl _) hx hl).mono ?_
  rintro e w1 ⟨b, S0, H0, hs, r, om, tp, tc, rfl, hE0, hM0, hT0, hP0, hs3, hPd, h2⟩
  refine ⟨_, _, _, _, _, _, _, _, _, _, _, _, _, _, _, _, _, _, _, _, _, _, _, _, rfl, ?_⟩
  refine NewC.ofRow h2 fun b0 w2 h3 => ?_
  refine stRh (r := r) rfl h3 0 rfl fun w3 h4 => ?_
  refine cond_f rfl ?_
  have h5 : Sat (HeapH H0 .nilIface b :: [Ro W S0, Row b0 r.cells 44]) w3 := (Sat.pull h4 2 rfl).pull 2 rfl
  have hm0 := sat_wf h5
  have hgn := hPd.gn
  have hB : 2 * hs.length + 2 < 4294967296 := by omega
  have c0 := hgn.ci hm0
  have hrow0 := hgn.row
  generalize hBB : 2 * hs.length = B at hB c0
  refine (harena_c h5).mono ?_
  rintro e w4 ⟨rfl, ba, bt, rfl, h6⟩
  refine ⟨_, rfl, ?_⟩
  refine (free2 (h6.pull 1 rfl)).mono ?_
  rintro e w4 ⟨rfl, h7⟩
  refine ⟨_, rfl, ?_⟩
  have h8 : Sat (HeapH H0 .nilIface b :: [Ro W S0, Row b0 r.cells 44]) w4 := heap_shut hm0 (ba := ba) (bt := bt) (Sat.p1 h7)
  refine (snew_c h8).mono ?_
  rintro e w5 ⟨cb, mb, rfl, h9⟩
  refine ⟨_, rfl, ?_⟩
  refine (sfull_c h9 hB c0 pk_zero (by show 0 < _; decide) (by show 0 < _; decide)).mono ?_
  rintro e w6 ⟨rfl, h10⟩
  refine ⟨_, _, rfl, ?_⟩
  have hf : Fl B H0 (fullC ⟨H0, [], 0, 0, 0⟩) := fl_of (c := ⟨H0, [], 0, 0, 0⟩) hB c0 rfl (Less.refl _)
  have hro : (fullC ⟨H0, [], 0, 0, 0⟩).ro = 1 := end_ro (start_ok c0 rfl).ci (by show 1 ≠ 0; decide)
  have hrow : (rowH (fullC ⟨H0, [], 0, 0, 0⟩).H).Sublist hs := by
    rw [← hrow0]
    exact ((start_ok c0 rfl).trans (end_ok hB (start_ok c0 rfl).ci).1).row
  have hn0 : (⟨H0, [], 0, 0, 0⟩ : Cd).H = H0 := rfl
  rw [hn0]
  generalize fullC ⟨H0, [], 0, 0, 0⟩ = f at h10 hf hro hrow
  clear hn0 h0 h1 h2 h3 h4 h5 h6 h7 h8 h9
  obtain ⟨_, o2, o3⟩ := hf.ci.ph0 hf.ph
  have hwf := hf.ci.wf
  have hrf : rowH f.H = hs.filter fun x => decide (x ∈ order H0) := sub_filter hrow hM0.nd fun x _ => by
    rw [mem_row hwf o2, hf.live, ← order_iff hm0]; simp
  refine ldRh (r := r) h10 4 rfl ?_
  refine (kept9_c (r := r) hm0 (Sat.pull h10 3 rfl) hM0 (by omega)).mono ?_
  rintro e w7 ⟨S, p', l', c', om', rfl, hE1, hMk, h11⟩
  have hE := hE0.trans hE1
  have hM := hM0.mono hE1
  have hT := hT0.mono hE1
  clear hM0 hT0
  refine ⟨_, _, _, _, _, _, _, _, _, _, _, _, _, _, _, _, _, _, _, rfl, ?_⟩
  generalize r.withL p' l' c' = rk at hMk
  refine NewC.ofRow h11 fun b1 w8 h12 => ?_
  refine stRh (r := rk) rfl h12 0 rfl fun w9 h13 => ?_
  have h14 : Sat (CL f b cb mb [Ro W S, Row b1 rk.cells 44, Row b0 r.cells 44]) w9 := by
    have a : Sat (Row b1 rk.cells 44 :: Ro W S :: HeapH f.H (wvC f.ph mb cb) b :: CoR b cb mb f.ph f.ro f.mv :: MkH b mb f.st (f.ph == 1) :: [Row b0 r.cells 44]) w9 := h13
    exact (((a.p1.pull 4 rfl).pull 4 rfl).pull 4 rfl)
  refine ⟨fun op ol oc i w => ∃ q : Nat, i = q ∧ q ≤ hs.length ∧ ol = ((hs.take q).filter fun x => decide (x ∈ order H0)).length ∧
      Sat (Own 24 1 op ol oc (words ((hs.take q).filter fun x => decide (x ∈ order H0))) :: CL f b cb mb [Ro W S, Row b1 rk.cells 44, Row b0 r.cells 44]) w, fun _ _ _ i _ => (hs.length - i).toNat, ⟨0, rfl, by omega, rfl, h14.ownNil _ _⟩, ?_⟩
  clear h10 h11 h12 h13 h14
  rintro op ol oc i w10 ⟨q, rfl, hq, rfl, h15⟩
  unfold S_law11_SlideFull_l0
  have hfl : ((hs.take q).filter fun x => decide (x ∈ order H0)).length ≤ hs.length := by
    refine Nat.le_trans (List.length_filter_le _ _) ?_
    rw [List.length_take]; omega
  by_cases hql : q < hs.length
  · as_aux_lemma =>
    refine cond_t (by simp; omega) ?_
    intro k0 hk0
    have h16 : Sat (Own 24 1 op ((hs.take q).filter fun x => decide (x ∈ order H0)).length oc (words ((hs.take q).filter fun x => decide (x ∈ order H0))) :: CL f b cb mb [Ro W S, Row b1 rk.cells 44, Row b0 r.cells 44]) w10.drew := h15.drew
    generalize w10.drew = w11 at h16
    have hqx : hs[q]? = some hs[q] := List.getElem?_eq_getElem hql
    generalize hs[q] = x at hqx
    have hxh := List.mem_of_getElem? hqx
    have hxu : x < 18446744073709551616 := by
      obtain ⟨o, ho⟩ := Option.isSome_iff_exists.1 (hM.live x hxh)
      exact look_lt hm0 ho
    have hft : (hs.take (q + 1)).filter (fun x => decide (x ∈ order H0)) = (hs.take q).filter (fun x => decide (x ∈ order H0)) ++ (if x ∈ order H0 then [x] else []) := by
      rw [List.take_add_one, hqx, Option.toList_some, List.filter_append]
      congr 1
      by_cases e : x ∈ order H0
      · rw [if_pos e]; simp [e]
      · rw [if_neg e]; simp [e]
    have fin : ∀ (p' : Option Addr) (c' : Nat) w', Sat (Own 24 1 p' ((hs.take (q + 1)).filter fun x => decide (x ∈ order H0)).length c' (words ((hs.take (q + 1)).filter fun x => decide (x ∈ order H0))) :: CL f b cb mb [Ro W S, Row b1 rk.cells 44, Row b0 r.cells 44]) w' → k0 p' ((hs.take (q + 1)).filter fun x => decide (x ∈ order H0)).length c' w' := by
      intro p' c' w' h'
      refine hk0 _ _ _ _ ?_
      unfold S_law11_SlideFull_j0
      rw [wrapI64 (by omega) (by omega)]
      exact ⟨⟨q + 1, by omega, by omega, rfl, h'⟩, by dsimp only; omega⟩
    refine ldRh h16 5 rfl ?_
    refine rd_word hT (h16.has 4 rfl) hqx rfl ?_
    have hkl : (hs.filter fun x => decide (x ∈ order H0)).length ≤ hs.length := List.length_filter_le _ _
    refine (at9_c (r := rk) h16 4 rfl hMk (by omega) x).mono ?_
    rintro e w12 ⟨rfl, h17⟩
    refine ⟨_, rfl, ?_⟩
    have h18 : Sat (Own 24 1 op ((hs.take q).filter fun x => decide (x ∈ order H0)).length oc (words ((hs.take q).filter fun x => decide (x ∈ order H0))) :: CL f b cb mb [Ro W S, Row b1 rk.cells 44, Row b0 r.cells 44]) w12.drew := h17.drew
    generalize w12.drew = w13 at h18
    obtain ⟨a, ha, hra⟩ := hT.reads q (.int .u64 (x : Int)) (by unfold words; rw [List.getElem?_map, hqx]; rfl)
    have ix : ∀ {K : Addr → Prop}, K (a.add (q * 1)) → IdxC tp hs.length (q : Int) 1 K := fun h => by
      rw [ha]
      exact ⟨by omega, by omega, by rw [Int.toNat_natCast]; exact h⟩
    have rdx : ∀ w, Has S w → w.cell? (a.add (q * 1)) = some (.int .u64 (x : Int)) := fun w hw => by rw [Nat.mul_one]; exact hra w hw
    refine ⟨fun w => Has S w, h18.has 4 rfl, ix ⟨x, fun w hw => LdI.at (rdx w hw) rfl, ?_⟩⟩
    refine tatC (h18.pull 1 rfl) hxu (h18.has 4 rfl) ⟨_, _, rfl, ?_⟩
    have hlv := hf.live x
    rw [← order_iff hm0] at hlv
    by_cases hin : x ∈ order H0
    · rw [if_pos hin] at hft
      have hk : x ∈ hs.filter fun x => decide (x ∈ order H0) := List.mem_filter.2 ⟨hxh, by simpa using hin⟩
      have hn : ¬ numI (hs.filter fun x => decide (x ∈ order H0)) x < 0 := fun hh => numI_neg.1 hh hk
      have e1 : atE f.H x = 0 := by unfold atE; rw [if_pos (hlv.2 hin)]
      have e2 : decide (numI (hs.filter fun x => decide (x ∈ order H0)) x ≥ 0) = true := by simp; omega
      rw [e1, e2]
      refine cond_f rfl (cond_t rfl ?_)
      refine rd_word hT (h18.has 4 rfl) hqx rfl ?_
      refine RunS.one eok_u64 h18 0 rfl (by rfl) (by rfl) (by omega) (by simp only [maxLen]; omega) fun p' c' w14 h19 => ?_
      have hln : ((hs.take (q + 1)).filter fun x => decide (x ∈ order H0)).length = ((hs.take q).filter fun x => decide (x ∈ order H0)).length + 1 := by rw [hft]; simp
      have := fin p' c' w14 (by rw [hln, hft, words_snoc]; exact h19)
      rw [hln] at this
      exact this
    · rw [if_neg hin, List.append_nil] at hft
      have hk : x ∉ hs.filter fun x => decide (x ∈ order H0) := fun hh => hin (by simpa using (List.mem_filter.1 hh).2)
      have hn := numI_none hk
      have e1 : atE f.H x = 6 := by unfold atE; rw [if_neg (fun h => hin (hlv.1 h))]
      rw [hn, e1]
      refine cond_f rfl (cond_f rfl ?_)
      have := fin op oc w13 (by rw [hft]; exact h18)
      rw [hft] at this
      exact this
  · as_aux_lemma =>
    refine cond_f (by simp; omega) ?_
    have htk : hs.take q = hs := List.take_of_length_le (by omega)
    rw [htk, ← hrf] at h15 hfl ⊢
    refine ldRh (r := r) h15 6 rfl ?_
    refine (live9_c (r := r) hm0 (Sat.pull h15 4 rfl) hM (by omega)).mono ?_
    rintro e w11 ⟨rfl, h16⟩
    refine ⟨_, _, rfl, ?_⟩
    have h17 : Sat (HeapH f.H (wvC f.ph mb cb) b :: CoR b cb mb f.ph f.ro f.mv :: MkH b mb f.st (f.ph == 1) :: Own 24 1 op (rowH f.H).length oc (words (rowH f.H)) :: [Ro W S, Row b1 rk.cells 44, Row b0 r.cells 44]) w11.drew := ((((Sat.p1 h16).pull 4 rfl).pull 4 rfl).pull 4 rfl |>.drew)
    generalize w11.drew = w12 at h17
    have hn1 := hf.less.n
    have b1' := hwf.am.most
    refine ⟨fun w => ∃ (L : List HP) (i : Nat), L[i]? = some (Row b0 r.cells 44) ∧ Sat L w, ⟨_, 6, rfl, h17⟩, ?_⟩
    refine cond_t rfl ?_
    refine (harena_c h17).mono ?_
    rintro e w13 ⟨rfl, ba, bt, rfl, h18⟩
    refine ⟨_, rfl, ⟨_, 6, rfl, h17⟩, ?_⟩
    refine (free2 (h18.pull 1 rfl)).mono ?_
    rintro e w13 ⟨rfl, h19⟩
    have h20 : Sat (HeapH f.H (wvC f.ph mb cb) b :: CoR b cb mb f.ph f.ro f.mv :: MkH b mb f.st (f.ph == 1) :: Own 24 1 op (rowH f.H).length oc (words (rowH f.H)) :: [Ro W S, Row b1 rk.cells 44, Row b0 r.cells 44]) w13 := heap_shut hwf (ba := ba) (bt := bt) (Sat.p1 h19)
    have hmost0 := hm0.am.most
    refine ⟨_, rfl, ⟨_, 6, rfl, h20⟩, ?_⟩
    rw [wrapI64 (by omega) (by omega)]
    refine cond_t (by simp) ?_
    refine (harena_c h20).mono ?_
    rintro e w14 ⟨rfl, ba, bt, rfl, h21⟩
    refine ⟨_, rfl, ⟨_, 6, rfl, h20⟩, ?_⟩
    refine (top2 (h21.pull 1 rfl)).mono ?_
    rintro e w14 ⟨rfl, rfl⟩
    refine ⟨_, rfl, ⟨_, 6, rfl, h20⟩, ?_⟩
    rw [hf.top]
    refine cond_t (by simp) ?_
    refine (order11_c h20 o2 hf.ci.gd (fun w hw => hw.reads 3 rfl) (fun hh => by obtain ⟨g, hg⟩ := h20.own_some 3 rfl hh; exact ⟨_, hg⟩)).mono ?_
    rintro e w14 ⟨rfl, h22⟩
    refine ⟨_, rfl, ⟨_, 6, rfl, h22⟩, cond_t rfl ?_⟩
    refine qRh (r := r) (b := b0) (T := 44) (fun w ⟨L, i, hi, h⟩ => ⟨_, h.pull i hi⟩) ?_
    refine (graph_c (Sat.pull h22 4 rfl).p1).mono ?_
    rintro e w15 ⟨gp, gc, np, nc, S2, gs, rfl, hE2, hR, hN, h23⟩
    refine ⟨_, _, _, _, _, _, rfl, ⟨_, 6, rfl, h23⟩, ?_⟩
    refine (differ_c (r := r) hf.less.graphR hf.less.graphN hm0 (Sat.p1 h23) (hM.mono hE2) (by omega) hR hN).mono ?_
    rintro e w16 ⟨rfl, S3, hE3, h24⟩
    refine ⟨_, rfl, cond_t rfl ?_⟩
    refine (check_c (Sat.p1 h24) o3 o2).mono ?_
    rintro e w17 ⟨rfl, h25⟩
    refine ⟨_, rfl, cond_t rfl ?_⟩
    refine (srounds_c h25 2 rfl).mono ?_
    rintro e w18 ⟨rfl, rfl⟩
    rw [hro]
    refine ⟨_, rfl, cond_t rfl ?_⟩
    refine (sphase_c h25 2 rfl).mono ?_
    rintro e w18 ⟨rfl, rfl⟩
    rw [hf.ph]
    exact ⟨_, rfl, rfl, h25.roBelow 1 rfl (hE.trans (hE2.trans hE3))⟩

set_option maxRecDepth 100000 in
theorem full_lifted (os : Os) (started : os.Started) (H : Type) (enc : TypeId × Value → H) :
    ReturnsInHanded {} Try.checked os 8 .any (Rows.slideFullSpec.pre6 enc Try.prog Try.f8 Rows.slideFullRow.domain false) (Rows.slideFullSpec.post enc Try.prog Try.f8 false true false false) := by
  refine returnsInHanded_of_change (C := Try.checked) own started (by kernel_rfl) Try.func8
    (ChangeSpec.witness6 (enc := enc) (C := Try.checked) false ⟨#[], #[.slice none 0 0], []⟩ 8 (by kernel_rfl) (by kernel_rfl) (by kernel_rfl) (by kernel_rfl)) ?_
  intro W base args ds gs before hval hW hcnd _
  have hval : ∀ (j : Nat) t v, Try.f8.params[j]? = some t → args[j]? = some v → Value.okWide Try.prog W .any base t v := hval
  have hW' : DataW.Whole enc Try.prog Try.f8.params.toList Rows.slideFullSpec.vars false W args.toList ds gs before := hW
  obtain ⟨p, q, hA, hV, _⟩ := hW'
  rw [Try.params8] at hA hval
  obtain ⟨v0, d0, rfl, rfl, h0⟩ := trodAll_one hA
  obtain ⟨a0, l0, c0, rfl⟩ := okWide_slice Try.underlying39 (hval 0 39 v0 rfl rfl)
  obtain ⟨⟨xs0, hx0⟩, _⟩ := argRows (ks := dks9) Try.underlying39 Try.underlying68 (by kernel_rfl) (by kernel_rfl) (by kernel_rfl) h0
  refine (full_c W hx0).mono fun e W' ⟨he, hs⟩ => ?_
  exact ⟨_, he, law_post (tb := 4) laidOut (by decide +kernel) (by kernel_rfl) Try.underlying4 rfl hW ⟨rfl, rfl, rfl⟩ hs⟩

theorem full_holds : Rows.SlideFullSaid :=
  OpenClaim.holds_of_wide 8 Try.f8 rfl rfl rfl rfl rfl rfl rfl ⟨rfl, rfl, rfl, rfl, rfl⟩ rfl rfl rfl rfl rfl (by kernel_rfl) Try.func8 (by kernel_rfl)
    (of_decide_eq_true (by kernel_rfl)) (by unfold Func.isWrapper; first | (rw [if_pos (by decide +kernel)]; kernel_rfl) | (rw [if_neg (by decide +kernel)]; exact ⟨rfl, rfl⟩))
    (fun os started H enc _ => full_lifted os started H enc)
