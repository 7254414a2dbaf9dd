
/- What ref9's Kept, and law11's gone and alive come to: objects, and handles, that are picked out of a row. -/
import Derived.Test.YtdfdmboljidhnaaSAgain
set_option maxRecDepth 100000
namespace Go.Hm
open Go Go.Lw Go.Wd Go.Am Go.Tb Go.Proofs.Ytdfdmboljidhnaa
def flt (P : Nat → Bool) (om : List (R9 × Gq)) : List (R9 × Gq) := om.filter fun y => P y.1.h
theorem flt_take {P : Nat → Bool} {om : List (R9 × Gq)} {q : Nat} {y : R9 × Gq} (h : om[q]? = some y) : flt P (om.take (q + 1)) = flt P (om.take q) ++ (if P y.1.h = true then [y] else []) := by
  unfold flt
  rw [List.take_add_one, h, Option.toList_some, List.filter_append]
  congr 1
  by_cases e : P y.1.h = true
  · rw [if_pos e]; simp [e]
  · rw [if_neg e]; simp [e]
theorem flt_le (P : Nat → Bool) (om : List (R9 × Gq)) (q : Nat) : (flt P (om.take q)).length ≤ om.length := by
  unfold flt
  refine Nat.le_trans (List.length_filter_le _ _) ?_
  rw [List.length_take]; omega
theorem flt_same {S : Mem} {H : Hp} {hs : List Nat} {om : List (R9 × Gq)} {p : Option Addr} {l c : Nat} (h : R9s S (hs.map (rob H)) om p l c) (P : Nat → Bool) : (flt P om).map (·.1) = (hs.filter P).map (rob H) := by
  have h1 := h.same
  unfold flt
  have e1 : (om.filter fun y => P y.1.h).map (·.1) = (om.map (·.1)).filter fun x => P x.h := by rw [List.filter_map]; rfl
  rw [e1, h1, List.filter_map]
  congr 1
  apply List.filter_congr
  intro x _
  simp only [Function.comp, rob_h]
theorem flt_R9s {S S' : Mem} {H : Hp} {hs : List Nat} {om : List (R9 × Gq)} {p p' : Option Addr} {l c c' : Nat} (h : R9s S (hs.map (rob H)) om p l c) (hE : Ext S S') (P : Nat → Bool) (hC : CRs S' 4 (rcells (flt P om)) p' (flt P om).length c') : R9s S' ((hs.filter P).map (rob H)) (flt P om) p' (flt P om).length c' :=
  ⟨flt_same h P, fun x hx => (h.parts x (List.mem_filter.1 hx).1).mono hE, hC⟩
end Go.Hm
namespace Go.Proofs.Ytdfdmboljidhnaa
open Go Go.Lw Go.Wd Go.Am Go.Tb Go.Hm
section
variable {H : Hp} {hs : List Nat} {r : Rh} {om : List (R9 × Gq)} {w W : World} {S : Mem} {L : List HP}
/-- Kept: what is reached alone. -/
theorem kept9_c (hm : H.WF) (hS : Sat (Ro W S :: L) w) (hM : Mir S H hs r om) (hl : hs.length ≤ 1048575) : Calls Try.prog 35 #[r.agg] w fun e w' =>
    ∃ S' p l c om', e = .returned ((r.withL p l c).agg) ∧ Ext S S' ∧ Mir S' H (hs.filter fun x => decide (x ∈ order H)) (r.withL p l c) om' ∧ Sat (Ro W S' :: L) w' := by
  have hlen := hM.len
  have hol := hM.omlen
  have horl := order_len hm
  have hmost := hm.tab.most
  refine S_ref9_Kept_ok r.p r.l r.c r.a0 r.a1 r.a2 r.a3 r.a4 r.a5 r.a6 r.a7 r.a8 r.a9 r.a10 r.a11 r.a12 r.a13 r.a14 r.a15 w _ ?_
  unfold S_ref9_Kept
  refine NewC.ofRow hS fun b0 w1 h1 => ?_
  refine NewC.ofRow h1 fun b1 w2 h2 => ?_
  have h2 : Sat (Row b1 Rh.zero.cells 44 :: Row b0 r.cells 44 :: Ro W S :: L) w2 := h2
  refine ldRh h2 1 rfl ?_
  refine (order9_c (r := r) hm h2 2 rfl hM (by omega)).mono ?_
  rintro e w3 ⟨p, c, rfl, h3⟩
  refine ⟨_, _, _, rfl, ?_⟩
  refine ⟨fun op ol oc i w => ∃ q : Nat, i = q ∧ q ≤ hs.length ∧ ol = (flt (fun x => decide (x ∈ order H)) (om.take q)).length ∧
      Sat (Own 133 4 op ol oc (rcells (flt (fun x => decide (x ∈ order H)) (om.take q))) :: Own 24 1 p (order H).length c (words (order H)) :: Row b1 Rh.zero.cells 44 :: Row b0 r.cells 44 :: Ro W S :: L) w, fun _ _ _ i _ => (hs.length - i).toNat, ⟨0, rfl, by omega, rfl, h3.ownNil _ _⟩, ?_⟩
  clear h1 h2 h3 hS
  rintro op ol oc i w4 ⟨q, rfl, hq, rfl, h4⟩
  unfold S_ref9_Kept_l0
  refine LdS.of h4 3 rfl (off := 0) rfl rfl ?_
  have hfl := flt_le (fun x => decide (x ∈ order H)) om q
  by_cases hql : q < hs.length
  · refine cond_t (by simp; omega) ?_
    intro k0 hk0
    have hqx : hs[q]? = some hs[q] := List.getElem?_eq_getElem hql
    generalize hs[q] = x at hqx
    refine LdS.of h4 3 rfl (off := 0) rfl rfl ?_
    refine rd_ob hM (h4.has 4 rfl) hqx rfl fun a y hy1 hy2 hy3 hc => ?_
    refine LdI.cell (hc w4 (h4.has 4 rfl)).1 ?_
    have hyh : y.1.h = x := by rw [hy2, rob_h]
    have hft := flt_take (P := fun x => decide (x ∈ order H)) hy1
    rw [hyh] at hft
    have fin : ∀ (p' : Option Addr) (c' : Nat) w', Sat (Own 133 4 p' (flt (fun x => decide (x ∈ order H)) (om.take (q + 1))).length c' (rcells (flt (fun x => decide (x ∈ order H)) (om.take (q + 1)))) :: Own 24 1 p (order H).length c (words (order H)) :: Row b1 Rh.zero.cells 44 :: Row b0 r.cells 44 :: Ro W S :: L) w' → k0 p' (flt (fun x => decide (x ∈ order H)) (om.take (q + 1))).length c' w' := by
      intro p' c' w' h'
      refine hk0 _ _ _ _ ?_
      unfold S_ref9_Kept_j0
      rw [wrapI64 (by omega) (by omega)]
      exact ⟨⟨q + 1, by omega, by omega, rfl, h'⟩, by dsimp only; omega⟩
    refine (number9_c h4 (fun w hw => hw.reads 1 rfl) (fun hh => by obtain ⟨g, hg⟩ := h4.own_some 1 rfl hh; exact ⟨_, hg⟩) (by omega) x).mono ?_
    rintro e w5 ⟨rfl, h5⟩
    refine ⟨_, rfl, ?_⟩
    by_cases hin : x ∈ order H
    · rw [if_pos (by simpa using hin)] at hft
      have hn : ¬ numI (order H) x < 0 := fun hh => numI_neg.1 hh hin
      refine cond_t (by simp; omega) ?_
      refine LdS.of h5 3 rfl (off := 0) rfl rfl ?_
      refine rd_ob hM (h5.has 4 rfl) hqx rfl fun a2 y2 hz1 hz2 hz3 hc2 => ?_
      rw [hy1] at hz1
      cases hz1
      obtain ⟨c0, c1, c2, c3⟩ := hc2 w5 (h5.has 4 rfl)
      refine LdI.cell c0 (LdI.cell c1 (LdS.cell c2 (LdS.cell c3 ?_)))
      refine RunS.one eok_ob9 h5 0 rfl (by rfl) (by rfl) (by omega) (by simp only [maxLen]; omega) fun p' c' w6 h6 => ?_
      have hsn : rcells (flt (fun x => decide (x ∈ order H)) (om.take (q + 1))) = rcells (flt (fun x => decide (x ∈ order H)) (om.take q)) ++ [.int .u64 (x : Int), .int .i64 ((rob H x).tag : Int), .slice y.2.pr (rob H x).refs.length y.2.cr, .slice y.2.pw (rob H x).words.length y.2.cw] := by
        rw [hft, rcells_snoc]
        congr 1
        unfold rcell
        rw [hy2, rob_h]
      have hln : (flt (fun x => decide (x ∈ order H)) (om.take (q + 1))).length = (flt (fun x => decide (x ∈ order H)) (om.take q)).length + 1 := by rw [hft]; simp
      have := fin p' c' w6 (by rw [hsn, hln]; exact h6)
      rw [hln] at this
      exact this
    · rw [if_neg (by simpa using hin), List.append_nil] at hft
      have hn := numI_none hin
      rw [hn]
      refine cond_f rfl ?_
      have := fin op oc w5 (by rw [hft]; exact h5)
      rw [hft] at this
      exact this
  · refine cond_f (by simp; omega) ?_
    have htk : om.take q = om := List.take_of_length_le (by omega)
    rw [htk] at h4 hfl ⊢
    refine StC.of h4 3 rfl (off := 0) rfl rfl fun w5 h5 => ?_
    have h5 : Sat (Own 133 4 op (flt (fun x => decide (x ∈ order H)) om).length oc (rcells (flt (fun x => decide (x ∈ order H)) om)) :: Own 24 1 p (order H).length c (words (order H)) :: Row b1 Rh.zero.cells 44 :: Row b0 (r.withL op (flt (fun x => decide (x ∈ order H)) om).length oc).cells 44 :: Ro W S :: L) w5 := h5
    refine cpRh (r := r.withL op (flt (fun x => decide (x ∈ order H)) om).length oc) rfl h5 3 rfl 2 rfl fun w6 h6 => ?_
    have h7 : Sat (Own 133 4 op (flt (fun x => decide (x ∈ order H)) om).length oc (rcells (flt (fun x => decide (x ∈ order H)) om)) :: Ro W S :: Own 24 1 p (order H).length c (words (order H)) :: Row b1 _ 44 :: Row b0 _ 44 :: L) w6 := (Sat.pull h6 4 rfl).p1
    obtain ⟨S', hE, hC, h8⟩ := Sat.freezeCRs h7 (by omega) (rcells_one _)
    refine ⟨S', op, (flt (fun x => decide (x ∈ order H)) om).length, oc, flt (fun x => decide (x ∈ order H)) om, rfl, hE, ⟨hM.nd.filter _, fun x hx => hM.live x (List.mem_filter.1 hx).1, fun y hy hh => ?_, hM.roots, flt_R9s hM.objs hE _ hC⟩, ((Sat.p1 h8).drop.p1.drop).p1.drop⟩
    have hr : Hm.Reach H y := by
      rcases hh with a | ⟨x, hx, a⟩
      · exact .root a hy
      · exact .step ((order_iff hm).1 (by simpa using (List.mem_filter.1 hx).2)) a hy
    have ho := (order_iff hm).2 hr
    exact List.mem_filter.2 ⟨hM.ord ho, by simpa using ho⟩
/-- alive: handles that the document still has. -/
theorem alive11_c {H' : Hp} {hs' : List Nat} {om' : List (R9 × Gq)} (hS : Sat (Ro W S :: L) w) (hM : Mir S H' hs' r om') (hl' : hs'.length ≤ 1048576) (hl : hs.length ≤ 1048575) {tp : Option Addr} {tc : Nat} (hT : CRs S 1 (words hs) tp hs.length tc) (hu : ∀ x ∈ hs, x < 18446744073709551616) : Calls Try.prog 36 #[r.agg, .slice tp hs.length tc] w fun e w' =>
    ∃ S' p c, e = .returned (.slice p (hs.filter fun x => decide (x ∈ hs')).length c) ∧ Ext S S' ∧ CRs S' 1 (words (hs.filter fun x => decide (x ∈ hs'))) p (hs.filter fun x => decide (x ∈ hs')).length c ∧ Sat (Ro W S' :: L) w' := by
  refine S_law11_alive_ok r.p r.l r.c r.a0 r.a1 r.a2 r.a3 r.a4 r.a5 r.a6 r.a7 r.a8 r.a9 r.a10 r.a11 r.a12 r.a13 r.a14 r.a15 _ _ _ w _ ?_
  unfold S_law11_alive
  refine NewC.ofRow hS fun b0 w1 h1 => ?_
  have h1 : Sat (Row b0 r.cells 44 :: Ro W S :: L) w1 := h1
  refine ⟨fun op ol oc i w => ∃ q : Nat, i = q ∧ q ≤ hs.length ∧ ol = ((hs.take q).filter fun x => decide (x ∈ hs')).length ∧
      Sat (Own 24 1 op ol oc (words ((hs.take q).filter fun x => decide (x ∈ hs'))) :: Row b0 r.cells 44 :: Ro W S :: L) w, fun _ _ _ i _ => (hs.length - i).toNat, ⟨0, rfl, by omega, rfl, h1.ownNil _ _⟩, ?_⟩
  clear h1 hS
  rintro op ol oc i w4 ⟨q, rfl, hq, rfl, h4⟩
  unfold S_law11_alive_l0
  have hfl : ((hs.take q).filter fun x => decide (x ∈ hs')).length ≤ hs.length := by
    refine Nat.le_trans (List.length_filter_le _ _) ?_
    rw [List.length_take]; omega
  by_cases hql : q < hs.length
  · refine cond_t (by simp; omega) ?_
    intro k0 hk0
    have h5 : Sat (Own 24 1 op _ oc _ :: Row b0 r.cells 44 :: Ro W S :: L) w4.drew := h4.drew
    generalize w4.drew = w5 at h5
    have hqx : hs[q]? = some hs[q] := List.getElem?_eq_getElem hql
    generalize hs[q] = x at hqx
    have hft : (hs.take (q + 1)).filter (fun x => decide (x ∈ hs')) = (hs.take q).filter (fun x => decide (x ∈ hs')) ++ (if x ∈ hs' then [x] else []) := by
      rw [List.take_add_one, hqx, Option.toList_some, List.filter_append]
      congr 1
      by_cases e : x ∈ hs'
      · rw [if_pos e]; simp [e]
      · rw [if_neg e]; simp [e]
    have fin : ∀ (p' : Option Addr) (c' : Nat) w', Sat (Own 24 1 p' ((hs.take (q + 1)).filter fun x => decide (x ∈ hs')).length c' (words ((hs.take (q + 1)).filter fun x => decide (x ∈ hs'))) :: Row b0 r.cells 44 :: Ro W S :: L) w' → k0 p' ((hs.take (q + 1)).filter fun x => decide (x ∈ hs')).length c' w' := by
      intro p' c' w' h'
      refine hk0 _ _ _ _ ?_
      unfold S_law11_alive_j0
      rw [wrapI64 (by omega) (by omega)]
      exact ⟨⟨q + 1, by omega, by omega, rfl, h'⟩, by dsimp only; omega⟩
    refine ldRh h5 1 rfl ?_
    refine rd_word hT (h5.has 2 rfl) hqx rfl ?_
    refine (at9_c (r := r) h5 2 rfl hM hl' x).mono ?_
    rintro e w6 ⟨rfl, h6⟩
    refine ⟨_, rfl, ?_⟩
    by_cases hin : x ∈ hs'
    · rw [if_pos hin] at hft
      have hn : ¬ numI hs' x < 0 := fun hh => numI_neg.1 hh hin
      refine cond_t (by simp; omega) ?_
      refine rd_word hT (h6.has 2 rfl) hqx rfl ?_
      refine RunS.one eok_u64 h6 0 rfl (by rfl) (by rfl) (by omega) (by simp only [maxLen]; omega) fun p' c' w7 h7 => ?_
      have hln : ((hs.take (q + 1)).filter fun x => decide (x ∈ hs')).length = ((hs.take q).filter fun x => decide (x ∈ hs')).length + 1 := by rw [hft]; simp
      have := fin p' c' w7 (by rw [hln, hft, words_snoc]; exact h7)
      rw [hln] at this
      exact this
    · rw [if_neg hin, List.append_nil] at hft
      have hn := numI_none hin
      rw [hn]
      refine cond_f rfl ?_
      have := fin op oc w6 (by rw [hft]; exact h6)
      rw [hft] at this
      exact this
  · refine cond_f (by simp; omega) ?_
    have htk : hs.take q = hs := List.take_of_length_le (by omega)
    rw [htk] at h4 hfl ⊢
    obtain ⟨S', hE, hC, h8⟩ := Sat.freezeCRs (Sat.pull h4 2 rfl).p1 (by omega) (words_one _)
    exact ⟨S', op, oc, rfl, hE, hC, (Sat.p1 h8).drop⟩
/-- gone: the document's heap without objects that are not live any more. -/
theorem gone11_c {H2 : Hp} {v : Value} {b : Nat} (hm : H.WF) (hS : Sat (HeapH H2 v b :: Ro W S :: L) w) (hM : Mir S H hs r om) (hle : Less H H2) (hl : hs.length ≤ 1048575) : Calls Try.prog 40 #[.pointer (some ⟨b, 0, none⟩), r.agg] w fun e w' =>
    ∃ S' p l c om', e = .returned ((r.withL p l c).agg) ∧ Ext S S' ∧ Mir S' H2 (hs.filter fun x => (H2.look x).isSome) (r.withL p l c) om' ∧ Sat (HeapH H2 v b :: Ro W S' :: L) w' := by
  have hlen := hM.len
  have hol := hM.omlen
  refine S_law11_gone_ok (some ⟨b, 0, none⟩) r.p r.l r.c r.a0 r.a1 r.a2 r.a3 r.a4 r.a5 r.a6 r.a7 r.a8 r.a9 r.a10 r.a11 r.a12 r.a13 r.a14 r.a15 w _ ?_
  unfold S_law11_gone
  refine NewC.ofRow hS fun b0 w1 h1 => ?_
  refine NewC.ofRow h1 fun b1 w2 h2 => ?_
  have h2 : Sat (Row b1 Rh.zero.cells 44 :: Row b0 r.cells 44 :: HeapH H2 v b :: Ro W S :: L) w2 := h2
  have h3 : Sat (HeapH H2 v b :: Row b1 Rh.zero.cells 44 :: Row b0 r.cells 44 :: Ro W S :: L) w2 := h2.pull 2 rfl
  refine ⟨fun op ol oc i w => ∃ q : Nat, i = q ∧ q ≤ hs.length ∧ ol = (flt (fun x => (H2.look x).isSome) (om.take q)).length ∧
      Sat (Own 133 4 op ol oc (rcells (flt (fun x => (H2.look x).isSome) (om.take q))) :: HeapH H2 v b :: Row b1 Rh.zero.cells 44 :: Row b0 r.cells 44 :: Ro W S :: L) w, fun _ _ _ i _ => (hs.length - i).toNat, ⟨0, rfl, by omega, rfl, h3.ownNil _ _⟩, ?_⟩
  clear h1 h2 h3 hS
  rintro op ol oc i w4 ⟨q, rfl, hq, rfl, h4⟩
  unfold S_law11_gone_l0
  refine LdS.of h4 3 rfl (off := 0) rfl rfl ?_
  have hfl := flt_le (fun x => (H2.look x).isSome) om q
  by_cases hql : q < hs.length
  · refine cond_t (by simp; omega) ?_
    intro k0 hk0
    have hqx : hs[q]? = some hs[q] := List.getElem?_eq_getElem hql
    generalize hs[q] = x at hqx
    have hxu : x < 18446744073709551616 := by
      obtain ⟨o, ho⟩ := Option.isSome_iff_exists.1 (hM.live x (List.mem_of_getElem? hqx))
      exact look_lt hm ho
    have h5 : Sat (Own 133 4 op _ oc _ :: HeapH H2 v b :: Row b1 Rh.zero.cells 44 :: Row b0 r.cells 44 :: Ro W S :: L) w4.drew := h4.drew
    generalize w4.drew = w5 at h5
    refine ⟨fun w => ∃ (L : List HP) (i j : Nat), L[i]? = some (Row b0 r.cells 44) ∧ L[j]? = some (Ro W S) ∧ Sat L w, ⟨_, 3, 4, rfl, rfl, h5⟩, ?_⟩
    refine ⟨_, _, _, fun w ⟨L, i, j, hi, hj, h⟩ => LdS.of h i hi (off := 0) rfl rfl rfl, ?_⟩
    refine rd_ob hM (h5.has 4 rfl) hqx rfl fun a y hy1 hy2 hy3 hc => ?_
    refine ⟨(x : Int), fun w ⟨L, i, j, hi, hj, h⟩ => LdI.cell (hc w (h.has j hj)).1 rfl, ?_⟩
    have hyh : y.1.h = x := by rw [hy2, rob_h]
    have hft := flt_take (P := fun x => (H2.look x).isSome) hy1
    rw [hyh] at hft
    have fin : ∀ (p' : Option Addr) (c' : Nat) w', Sat (Own 133 4 p' (flt (fun x => (H2.look x).isSome) (om.take (q + 1))).length c' (rcells (flt (fun x => (H2.look x).isSome) (om.take (q + 1)))) :: HeapH H2 v b :: Row b1 Rh.zero.cells 44 :: Row b0 r.cells 44 :: Ro W S :: L) w' → k0 p' (flt (fun x => (H2.look x).isSome) (om.take (q + 1))).length c' w' := by
      intro p' c' w' h'
      refine hk0 _ _ _ _ ?_
      unfold S_law11_gone_j0
      rw [wrapI64 (by omega) (by omega)]
      exact ⟨⟨q + 1, by omega, by omega, rfl, h'⟩, by dsimp only; omega⟩
    refine tatC (h5.pull 1 rfl) hxu ⟨_, 3, 4, rfl, rfl, h5⟩ ⟨_, _, rfl, ?_⟩
    unfold atE
    by_cases hin : (H2.look x).isSome = true
    · rw [if_pos hin] at hft
      rw [if_pos hin]
      refine cond_t rfl ?_
      refine LdS.of h5 3 rfl (off := 0) rfl rfl ?_
      refine rd_ob hM (h5.has 4 rfl) hqx rfl fun a2 y2 hz1 hz2 hz3 hc2 => ?_
      rw [hy1] at hz1
      cases hz1
      obtain ⟨c0, c1, c2, c3⟩ := hc2 w5 (h5.has 4 rfl)
      refine LdI.cell c0 (LdI.cell c1 (LdS.cell c2 (LdS.cell c3 ?_)))
      refine RunS.one eok_ob9 h5 0 rfl (by rfl) (by rfl) (by omega) (by simp only [maxLen]; omega) fun p' c' w6 h6 => ?_
      have hsn : rcells (flt (fun x => (H2.look x).isSome) (om.take (q + 1))) = rcells (flt (fun x => (H2.look x).isSome) (om.take q)) ++ [.int .u64 (x : Int), .int .i64 ((rob H x).tag : Int), .slice y.2.pr (rob H x).refs.length y.2.cr, .slice y.2.pw (rob H x).words.length y.2.cw] := by
        rw [hft, rcells_snoc]
        congr 1
        unfold rcell
        rw [hy2, rob_h]
      have hln : (flt (fun x => (H2.look x).isSome) (om.take (q + 1))).length = (flt (fun x => (H2.look x).isSome) (om.take q)).length + 1 := by rw [hft]; simp
      have := fin p' c' w6 (by rw [hsn, hln]; exact h6)
      rw [hln] at this
      exact this
    · rw [if_neg hin, List.append_nil] at hft
      rw [if_neg hin]
      refine cond_f rfl ?_
      have := fin op oc w5 (by rw [hft]; exact h5)
      rw [hft] at this
      exact this
  · refine cond_f (by simp; omega) ?_
    have htk : om.take q = om := List.take_of_length_le (by omega)
    rw [htk] at h4 hfl ⊢
    refine StC.of h4 3 rfl (off := 0) rfl rfl fun w5 h5 => ?_
    have h5 : Sat (Own 133 4 op (flt (fun x => (H2.look x).isSome) om).length oc (rcells (flt (fun x => (H2.look x).isSome) om)) :: HeapH H2 v b :: Row b1 Rh.zero.cells 44 :: Row b0 (r.withL op (flt (fun x => (H2.look x).isSome) om).length oc).cells 44 :: Ro W S :: L) w5 := h5
    refine cpRh (r := r.withL op (flt (fun x => (H2.look x).isSome) om).length oc) rfl h5 3 rfl 2 rfl fun w6 h6 => ?_
    have h7 : Sat (Own 133 4 op (flt (fun x => (H2.look x).isSome) om).length oc (rcells (flt (fun x => (H2.look x).isSome) om)) :: Ro W S :: HeapH H2 v b :: Row b1 _ 44 :: Row b0 _ 44 :: L) w6 := (Sat.pull h6 4 rfl).p1
    obtain ⟨S', hE, hC, h8⟩ := Sat.freezeCRs h7 (by omega) (rcells_one _)
    have hobj := flt_R9s hM.objs hE _ hC
    have hsame : (hs.filter fun x => (H2.look x).isSome).map (rob H) = (hs.filter fun x => (H2.look x).isSome).map (rob H2) := by
      apply List.map_congr_left
      intro x hx
      exact (hle.rob (List.mem_filter.1 hx).2).symm
    rw [hsame] at hobj
    refine ⟨S', op, (flt (fun x => (H2.look x).isSome) om).length, oc, flt (fun x => (H2.look x).isSome) om, rfl, hE, ⟨hM.nd.filter _, fun x hx => (List.mem_filter.1 hx).2, fun y hy hh => ?_, by rw [hle.roots]; exact hM.roots, hobj⟩, ?_⟩
    · have hin : y ∈ hs := by
        rcases hh with a | ⟨x, hx, a⟩
        · exact hM.cls y (hle.live hy) (.inl (by rw [← hle.roots]; exact a))
        · rw [← rob_refs, hle.rob (List.mem_filter.1 hx).2, rob_refs] at a
          exact hM.cls y (hle.live hy) (.inr ⟨x, (List.mem_filter.1 hx).1, a⟩)
      exact List.mem_filter.2 ⟨hin, hy⟩
    · -- [Ro, HeapH, b1, b0, L]
      have h9 := ((Sat.pull h8 2 rfl).drop.pull 2 rfl).drop
      exact Sat.p1 h9
end
end Go.Proofs.Ytdfdmboljidhnaa
