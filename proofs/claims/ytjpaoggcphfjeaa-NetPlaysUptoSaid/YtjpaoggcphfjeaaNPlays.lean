/- 'NetPlays' answers true: whatever is done, each answer and all that waits are what the document's own net says. For arguments of at most so much bulk. -/
import Derived.Test.YtjpaoggcphfjeaaNSame
namespace Go.Proofs.Ytjpaoggcphfjeaa
open Go Go.Lw Go.Tb Go.Wd Go.Vd Go.ChangeShapes Go.WideShapes Go.ChangeAt Go.RowKit

theorem stPk {L : List HP} {w : World} {b T : Nat} {c0 c1 c2 c3 c4 c5 c6 c7 c8 c9 c10 c11 c12 c13 c14 c15 c16 c17 : Value} {id : Int} {m : Mg} {K : World → Prop} (hs : Sat L w) (i : Nat) (hi : L[i]? = some (Row b [c0, c1, c2, c3, c4, c5, c6, c7, c8, c9, c10, c11, c12, c13, c14, c15, c16, c17] T)) (h : ∀ w', Sat (L.set i (Row b (.int .i64 id :: m.cells) T)) w' → K w') : St_net_Packet w ⟨b, 0, none⟩ id m.kind m.from_ m.to m.view m.op m.commit m.base m.normal m.nonce m.lp m.ll m.lc m.ip m.il m.ic m.ec m.en m.et m.re m.rn m.dp m.dl m.dc K := by
  unfold St_net_Packet
  simp only [add_mk, Nat.zero_add]
  refine StC.of hs i hi (off := 0) rfl rfl fun w1 h1 => ?_
  simp only [List.set_cons_succ, List.set_cons_zero] at h1
  refine StC.of h1 i (get_set_self hi) (off := 1) rfl rfl fun w2 h2 => ?_
  rw [set_set_self] at h2
  simp only [List.set_cons_succ, List.set_cons_zero] at h2
  refine StC.of h2 i (get_set_self hi) (off := 2) rfl rfl fun w3 h3 => ?_
  rw [set_set_self] at h3
  simp only [List.set_cons_succ, List.set_cons_zero] at h3
  refine StC.of h3 i (get_set_self hi) (off := 3) rfl rfl fun w4 h4 => ?_
  rw [set_set_self] at h4
  simp only [List.set_cons_succ, List.set_cons_zero] at h4
  refine StC.of h4 i (get_set_self hi) (off := 4) rfl rfl fun w5 h5 => ?_
  rw [set_set_self] at h5
  simp only [List.set_cons_succ, List.set_cons_zero] at h5
  refine StC.of h5 i (get_set_self hi) (off := 5) rfl rfl fun w6 h6 => ?_
  rw [set_set_self] at h6
  simp only [List.set_cons_succ, List.set_cons_zero] at h6
  refine StC.of h6 i (get_set_self hi) (off := 6) rfl rfl fun w7 h7 => ?_
  rw [set_set_self] at h7
  simp only [List.set_cons_succ, List.set_cons_zero] at h7
  refine StC.of h7 i (get_set_self hi) (off := 7) rfl rfl fun w8 h8 => ?_
  rw [set_set_self] at h8
  simp only [List.set_cons_succ, List.set_cons_zero] at h8
  refine StC.of h8 i (get_set_self hi) (off := 8) rfl rfl fun w9 h9 => ?_
  rw [set_set_self] at h9
  simp only [List.set_cons_succ, List.set_cons_zero] at h9
  refine StC.of h9 i (get_set_self hi) (off := 9) rfl rfl fun w10 h10 => ?_
  rw [set_set_self] at h10
  simp only [List.set_cons_succ, List.set_cons_zero] at h10
  refine StC.of h10 i (get_set_self hi) (off := 10) rfl rfl fun w11 h11 => ?_
  rw [set_set_self] at h11
  simp only [List.set_cons_succ, List.set_cons_zero] at h11
  refine StC.of h11 i (get_set_self hi) (off := 11) rfl rfl fun w12 h12 => ?_
  rw [set_set_self] at h12
  simp only [List.set_cons_succ, List.set_cons_zero] at h12
  refine StC.of h12 i (get_set_self hi) (off := 12) rfl rfl fun w13 h13 => ?_
  rw [set_set_self] at h13
  simp only [List.set_cons_succ, List.set_cons_zero] at h13
  refine StC.of h13 i (get_set_self hi) (off := 13) rfl rfl fun w14 h14 => ?_
  rw [set_set_self] at h14
  simp only [List.set_cons_succ, List.set_cons_zero] at h14
  refine StC.of h14 i (get_set_self hi) (off := 14) rfl rfl fun w15 h15 => ?_
  rw [set_set_self] at h15
  simp only [List.set_cons_succ, List.set_cons_zero] at h15
  refine StC.of h15 i (get_set_self hi) (off := 15) rfl rfl fun w16 h16 => ?_
  rw [set_set_self] at h16
  simp only [List.set_cons_succ, List.set_cons_zero] at h16
  refine StC.of h16 i (get_set_self hi) (off := 16) rfl rfl fun w17 h17 => ?_
  rw [set_set_self] at h17
  simp only [List.set_cons_succ, List.set_cons_zero] at h17
  refine StC.of h17 i (get_set_self hi) (off := 17) rfl rfl fun w18 h18 => ?_
  rw [set_set_self] at h18
  simp only [List.set_cons_succ, List.set_cons_zero] at h18
  exact h _ h18
section
variable {L : List HP} {w : World} {b b' T T' : Nat}
/-- a whole net moved from one variable to another. -/
theorem cpRn {r : Rn} {c0 c1 c2 c3 c4 : Value} {K : World → Prop} (hs : Sat L w) (i : Nat) (hi : L[i]? = some (Row b r.cells T)) (j : Nat) (hj : L[j]? = some (Row b' [c0, c1, c2, c3, c4] T'))
    (h : ∀ w', Sat (L.set j (Row b' r.cells T')) w' → K w') :
    LdI .i64 w ⟨b, 0, none⟩ fun n => LdS w (Addr.add ⟨b, 0, none⟩ 1) fun p l c => LdI .i64 w (Addr.add ⟨b, 0, none⟩ 2) fun n1 => LdS w (Addr.add ⟨b, 0, none⟩ 3) fun q m d => LdI .i64 w (Addr.add ⟨b, 0, none⟩ 4) fun n2 =>
    StC w ⟨b', 0, none⟩ (.int .i64 n) fun w => StC w (Addr.add ⟨b', 0, none⟩ 1) (.slice p l c) fun w => StC w (Addr.add ⟨b', 0, none⟩ 2) (.int .i64 n1) fun w => StC w (Addr.add ⟨b', 0, none⟩ 3) (.slice q m d) fun w => StC w (Addr.add ⟨b', 0, none⟩ 4) (.int .i64 n2) K := by
  refine ldRn hs i hi ?_
  exact stRow5 hs j hj h
end
theorem net_mono {T : MT} {s s' : T.σ} {N : Nt T.α} {b : Nat} {F : List HP} {w : World} (hl : T.le s s') (hs : Sat (NetP T s N b :: F) w) : Sat (NetP T s' N b :: F) w := by
  obtain ⟨h1, p, c, r, pm, h2, h3⟩ := net_open hs
  exact net_shut h1 (h2.mono hl) h3
theorem ids_inj {α : Type} {N : Nt α} (hu : N.WF) {i j : Nat} {y z : Nat × α} (hy : N.l[i]? = some y) (hz : N.l[j]? = some z) (h : (y.1 : Int) = z.1) : i = j := by
  have hlt := get_lt hy
  have hlt2 := get_lt hz
  rcases Nat.lt_trichotomy i j with h' | h' | h'
  · have := List.pairwise_iff_getElem.1 hu.up i j hlt hlt2 h'
    rw [List.getElem?_eq_getElem hlt] at hy
    rw [List.getElem?_eq_getElem hlt2] at hz
    cases hy; cases hz; omega
  · exact h'
  · have := List.pairwise_iff_getElem.1 hu.up j i hlt2 hlt h'
    rw [List.getElem?_eq_getElem hlt] at hy
    rw [List.getElem?_eq_getElem hlt2] at hz
    cases hy; cases hz; omega

section
variable {W : World} {B : Nat} {S : Mem} {N : Nt (Deep W).α} {b : Nat} {r : Rn} {F : List HP} {w : World}
theorem waiting_c (hs : Sat (NetP (Deep W) S N b :: Ro W S :: F) w) : Calls Try.prog 38 #[.pointer (some ⟨b, 0, none⟩)] w fun e w' =>
    ∃ (S' : Mem) (p : Option Addr) (c : Nat) (pm : List (Nat × Mg)), Ext S S' ∧ Pks (Deep W) S' pm N.l ∧ e = .returned (.slice p pm.length c) ∧ Sat (Own 80 18 p pm.length c (pcells pm) :: NetP (Deep W) S' N b :: Ro W S' :: F) w' := by
  obtain ⟨hwf, p, c, ro, pm, hp, h⟩ := net_open hs
  have hl := hp.len; have hc := hwf.cnt; have hm := hwf.most
  refine S_net_Net_Waiting_ok _ _ _ ?_
  unfold S_net_Net_Waiting
  simp only [onSome_some]
  refine LdS.of h 0 rfl (off := 1) rfl (by simp [add_mk]) ?_
  refine RunS.makeOwn eok_pk h (by omega) (by omega) (by omega) fun p1 w1 h1 => ?_
  refine LdS.of h1 1 rfl (off := 1) rfl (by simp [add_mk]) ?_
  refine ⟨fun op ol oc i w => ∃ (q : Nat) (S' : Mem) (qm : List (Nat × Mg)), i = q ∧ q ≤ pm.length ∧ ol = qm.length ∧ qm.length = q ∧ Ext S S' ∧ Pks (Deep W) S' qm (N.l.take q) ∧
      Sat (Own 80 18 op ol oc (pcells qm) :: Row b (nRow p pm.length c ro N.most N.last N.lost) 76 :: Own 80 18 p pm.length c (pcells pm) :: CutM (.agg #[]) N.off ro :: Ro W S' :: F) w,
    fun _ _ _ i _ => (pm.length - i).toNat, ⟨0, S, [], rfl, by omega, rfl, rfl, Ext.refl S, ⟨rfl, fun i x y hx _ => by simp at hx⟩, h1⟩, ?_⟩
  clear h h1
  rintro op ol oc i w2 ⟨q, S1, qm, rfl, hq, rfl, hqm, he1, hpk, h2⟩
  unfold S_net_Net_Waiting_l0
  by_cases hql : q < pm.length
  · refine cond_t (by simp; omega) ?_
    have hy : N.l[q]? = some N.l[q] := List.getElem?_eq_getElem (by omega)
    have ht : N.l.take (q + 1) = N.l.take q ++ [N.l[q]] := by rw [List.take_add_one, hy]; rfl
    generalize N.l[q] = y at hy ht
    obtain ⟨x, hx, hx1, hx2⟩ := hp.get hy
    refine IdxC.ownAt h2 2 rfl hql fun g hg => ?_
    refine ldPk (id := ((x.1 : Nat) : Int)) (m := x.2) (fun j v hj => ?_) ?_
    · rw [add_mk]
      refine h2.ownAt 2 rfl hg ?_
      have hlt : j < 18 := by have := get_lt hj; rw [List.length_cons, Mg.len] at this; exact this
      rw [pcells_get hx hlt]
      exact hj
    refine NewC.ofRow h2 fun b0 w3 h3 => stPk (id := ((x.1 : Nat) : Int)) (m := x.2) h3 0 rfl fun w4 h4 => ?_
    have h5 : Sat (Row b0 (.int .i64 ((x.1 : Nat) : Int) :: x.2.cells) 80 :: Own 80 18 op qm.length oc (pcells qm) :: Row b (nRow p pm.length c ro N.most N.last N.lost) 76 :: Own 80 18 p pm.length c (pcells pm) :: CutM (.agg #[]) N.off ro :: Ro W S1 :: F) w4.drew := h4.drew
    refine ⟨fun w => ∃ L i, L[i]? = some (Row b0 (.int .i64 ((x.1 : Nat) : Int) :: x.2.cells) 80) ∧ Sat L w, ⟨_, 0, rfl, h5⟩, ?_⟩
    refine ⟨((x.1 : Nat) : Int), fun w ⟨L, i, hi, h⟩ => LdI.of h i hi (off := 0) rfl rfl rfl, ?_⟩
    refine ⟨x.2.kind, x.2.from_, x.2.to, x.2.view, x.2.op, x.2.commit, x.2.base, x.2.normal, x.2.nonce, x.2.lp, x.2.ll, x.2.lc, x.2.ip, x.2.il, x.2.ic, x.2.ec, x.2.en, x.2.et, x.2.re, x.2.rn, x.2.dp, x.2.dl, x.2.dc, fun w ⟨L, i, hi, h⟩ => ldMsg (m := x.2) (fun j v hj => by rw [add_mk, add_mk, Nat.zero_add, Nat.add_comm 1 j]; exact h.cell i hi (by rw [List.getElem?_cons_succ]; exact hj)) rfl, ?_⟩
    refine (copied_deep W (DeepQ.mono he1 hx2) (h5.pull 5 rfl)).mono ?_
    rintro e w5 ⟨S2, m', he2, hq', rfl, h6⟩
    refine ⟨_, _, _, _, _, _, _, _, _, _, _, _, _, _, _, _, _, _, _, _, _, _, _, rfl, ⟨_, 1, rfl, h6⟩, ?_⟩
    refine NewC.ofRow h6 fun b1 w6 h7 => ⟨⟨_, 2, rfl, h7⟩, ?_⟩
    have h8 : Sat (Row b1 (.int .i64 ((x.1 : Nat) : Int) :: m'.cells) 80 :: Ro W S2 :: Row b0 (.int .i64 ((x.1 : Nat) : Int) :: x.2.cells) 80 :: Own 80 18 op qm.length oc (pcells qm) :: Row b (nRow p pm.length c ro N.most N.last N.lost) 76 :: Own 80 18 p pm.length c (pcells pm) :: CutM (.agg #[]) N.off ro :: F) w6 := h7
    refine RunS.own eok_pk h8 3 rfl (news := .int .i64 ((x.1 : Nat) : Int) :: m'.cells) ?_ (by rw [List.length_cons, Mg.len]) (fun u hu => ?_) (by omega) (by simp only [maxLen]; omega) fun p' c' w7 h9 => ⟨⟨_, 2, rfl, h9⟩, ?_⟩
    · intro a ha j v hj
      cases ha
      rw [add_mk, Nat.zero_add]
      exact h8.cell 0 rfl hj
    · rcases List.mem_cons.1 hu with rfl | hu
      · rfl
      · exact m'.one u hu
    rw [wrapI64 (by omega) (by omega)]
    have e2 : pcells (qm ++ [(x.1, m')]) = pcells qm ++ (.int .i64 ((x.1 : Nat) : Int) :: m'.cells) := pcells_snoc qm (x.1, m')
    refine ⟨⟨q + 1, S2, qm ++ [(x.1, m')], by omega, by omega, by simp, by simp [hqm], he1.trans he2, ?_, ?_⟩, by first | omega | (dsimp only; omega)⟩
    · rw [ht, hx1]
      exact (hpk.mono he2).snoc hq'
    · rw [e2]
      have a1 := h9.drop.pull 2 rfl
      have a2 : Sat (Own 80 18 p' (qm.length + 1) c' (pcells qm ++ (.int .i64 ((x.1 : Nat) : Int) :: m'.cells)) :: Ro W S2 :: Row b0 (.int .i64 ((x.1 : Nat) : Int) :: x.2.cells) 80 :: Row b (nRow p pm.length c ro N.most N.last N.lost) 76 :: Own 80 18 p pm.length c (pcells pm) :: CutM (.agg #[]) N.off ro :: F) w7 := a1
      have a3 := (a2.pull 2 rfl).drop
      have a4 := a3.pull 1 rfl
      have a5 := a4.pull 4 rfl
      have a6 := a5.pull 4 rfl
      have a7 := a6.pull 4 rfl
      exact a7.pull 4 rfl
  · have hqe : q = pm.length := by omega
    refine cond_f (by simp; omega) ?_
    rw [List.take_of_length_le (by omega)] at hpk
    refine ⟨S1, op, oc, qm, he1, hpk, rfl, ?_⟩
    have a1 := h2.drop
    have a2 := (net_shut (T := Deep W) (s := S1) (N := N) hwf (hp.mono he1) a1)
    have a3 : Sat (Own 80 18 op qm.length oc (pcells qm) :: Row b (nRow p pm.length c ro N.most N.last N.lost) 76 :: Own 80 18 p pm.length c (pcells pm) :: CutM (.agg #[]) N.off ro :: Ro W S1 :: F) w2 := h2
    have a4 := a3.pull 3 rfl
    have a5 := a4.pull 3 rfl
    have a6 := a5.pull 3 rfl
    have a7 : Sat (Row b (nRow p pm.length c ro N.most N.last N.lost) 76 :: Own 80 18 p pm.length c (pcells pm) :: CutM (.agg #[]) N.off ro :: Own 80 18 op qm.length oc (pcells qm) :: Ro W S1 :: F) w2 := a6
    have a8 := net_shut (T := Deep W) (s := S1) (N := N) hwf (hp.mono he1) a7
    exact a8.pull 1 rfl

theorem looks_c (hr : RNet W B S N r) (hs : Sat (NetP (Deep W) S N b :: Ro W S :: F) w) : Calls Try.prog 28 #[.pointer (some ⟨b, 0, none⟩), r.agg] w fun e w' =>
    ∃ S', Ext S S' ∧ Ret (.bool true) (Sat (NetP (Deep W) S' N b :: Ro W S' :: F)) e w' := by
  have hll := hr.ll; have hlo := hr.lo
  obtain ⟨rm, hrp, hcr⟩ := hr.l
  have hlim := hcr.lim
  refine S_law24_looks_ok _ _ _ _ _ _ _ _ _ _ _ _ ?_
  unfold S_law24_looks
  refine NewC.ofRow hs fun b0 w1 h1 => ?_
  have h1 : Sat (NetP (Deep W) S N b :: Ro W S :: Row b0 r.cells 58 :: F) w1 := Sat.pull (Sat.pull (L := Row b0 r.cells 58 :: NetP (Deep W) S N b :: Ro W S :: F) h1 2 rfl) 2 rfl
  refine (waiting_c h1).mono ?_
  rintro e w2 ⟨S', p, c, pm, he, hpk, rfl, h2⟩
  have hpl := hpk.len
  refine ⟨_, _, _, rfl, ?_⟩
  have h3 := h2.drew
  refine ⟨fun w => ∃ L i, L[i]? = some (Row b0 r.cells 58) ∧ Sat L w, ⟨_, 3, rfl, h3⟩, ?_⟩
  refine ⟨r.lp, r.ll, r.lc, fun w ⟨L, i, hi, h⟩ => LdS.of h i hi (off := 1) rfl (by simp [add_mk]) rfl, ?_⟩
  refine (count_c (h3.pull 1 rfl)).mono ?_
  rintro e w3 ⟨rfl, rfl⟩
  refine ⟨_, rfl, ⟨_, 3, rfl, h3⟩, cond_f (by simp; omega) ?_⟩
  refine ⟨r.lo, fun w ⟨L, i, hi, h⟩ => LdI.of h i hi (off := 4) rfl (by simp [add_mk]) rfl, ?_⟩
  refine (lost_c (h3.pull 1 rfl)).mono ?_
  rintro e w3 ⟨rfl, rfl⟩
  refine ⟨_, rfl, ⟨_, 3, rfl, h3⟩, cond_f (by simp; omega) ?_⟩
  refine ⟨r.lp, r.ll, r.lc, fun w ⟨L, i, hi, h⟩ => LdS.of h i hi (off := 1) rfl (by simp [add_mk]) rfl, cond_f (by simp; omega) ?_⟩
  refine ⟨fun i w => ∃ q : Nat, i = q ∧ q ≤ pm.length ∧ Sat (Own 80 18 p pm.length c (pcells pm) :: NetP (Deep W) S' N b :: Ro W S' :: Row b0 r.cells 58 :: F) w, fun i _ => (pm.length - i).toNat, ⟨0, rfl, by omega, h3⟩, ?_⟩
  clear h1 h2 h3
  rintro i w4 ⟨q, rfl, hq, h4⟩
  unfold S_law24_looks_l0
  by_cases hql : q < pm.length
  · refine cond_t (by simp; omega) ?_
    have h5 := h4.drew
    have hy : N.l[q]? = some N.l[q] := List.getElem?_eq_getElem (by omega)
    generalize N.l[q] = y at hy
    obtain ⟨x, hx, hx1, hx2⟩ := hpk.get hy
    obtain ⟨z, hz, hz1, hz2⟩ := hrp.get hy
    have i1 : ∀ K : Addr → Prop, (∀ a, w4.drew.cell? a = some (.int .i64 ((x.1 : Nat) : Int)) → (∀ j v, x.2.cells[j]? = some v → w4.drew.cell? ((a.add 1).add j) = some v) → K a) → IdxC p pm.length (q : Int) 18 K := by
      intro K hk
      refine IdxC.ownAt h5 0 rfl hql fun g hg => ?_
      have hg0 : (pcells pm)[q * 18]? = some (.int .i64 ((x.1 : Nat) : Int)) := by
        have h := pcells_get (q := 0) hx (by omega)
        rw [Nat.add_zero, List.getElem?_cons_zero] at h
        exact h
      refine hk _ (h5.ownAt 0 rfl hg hg0) fun j v hj => ?_
      rw [add_mk, add_mk]
      refine h5.ownAt 0 rfl hg ?_
      have hlt : j < 17 := by have := get_lt hj; rwa [Mg.len] at this
      rw [Nat.add_assoc, pcells_get hx (by omega), Nat.add_comm 1 j, List.getElem?_cons_succ]
      exact hj
    have i2 : ∀ K : Addr → Prop, (∀ a, w4.drew.cell? a = some (.int .i64 ((z.1 : Nat) : Int)) → (∀ j v, z.2.cells[j]? = some v → w4.drew.cell? ((a.add 1).add j) = some v) → K a) → IdxC r.lp r.ll (q : Int) 18 K := by
      intro K hk
      refine (hcr.mono he).idx (h5.has 2 rfl) (by omega) (by omega) fun a h => ?_
      have hg0 : (pcells rm)[q * 18 + 0]? = some (.int .i64 ((z.1 : Nat) : Int)) := by
        have h := pcells_get (q := 0) hz (by omega)
        rw [List.getElem?_cons_zero] at h
        exact h
      have hc0 := h 0 _ (by omega) hg0
      have ha0 : a.add 0 = a := by simp [Addr.add]
      rw [ha0] at hc0
      refine hk a hc0 fun j v hj => ?_
      have hlt : j < 17 := by have := get_lt hj; rwa [Mg.len] at this
      rw [add_add, Nat.add_comm 1 j]
      refine h (j + 1) v (by omega) ?_
      rw [pcells_get hz (by omega), List.getElem?_cons_succ]
      exact hj
    have hxz : (((x.1 : Nat) : Int) != ((z.1 : Nat) : Int)) = false := by rw [hx1, hz1]; simp
    refine i1 _ fun a c1 _ => ?_
    refine LdI.at (n := ((x.1 : Nat) : Int)) c1 ?_
    refine LdS.of h5 3 rfl (off := 1) rfl (by simp [add_mk]) ?_
    refine i2 _ fun a c1 _ => ?_
    refine LdI.at (n := ((z.1 : Nat) : Int)) c1 ?_
    refine cond_f hxz ?_
    refine i1 _ fun a _ c2 => ?_
    refine ldMsg (m := x.2) c2 ?_
    refine LdS.of h5 3 rfl (off := 1) rfl (by simp [add_mk]) ?_
    refine i2 _ fun a _ c3 => ?_
    refine ldMsg (m := z.2) c3 ?_
    refine (same_d (d := y.2) hx2 (DeepQ.mono he hz2) (h5.pull 2 rfl)).mono ?_
    rintro e w5 ⟨rfl, h6⟩
    refine ⟨true, rfl, cond_f rfl ?_⟩
    rw [wrapI64 (by omega) (by omega)]
    exact ⟨⟨q + 1, by omega, by omega, (h6.pull 2 rfl).pull 2 rfl⟩, by first | omega | (dsimp only; omega)⟩
  · refine cond_f (by simp; omega) ⟨S', he, rfl, ?_⟩
    have a1 := h4.drop.pull 2 rfl
    exact (a1.drop)
end

theorem rnet_new (W : World) (S : Mem) (k : Nat) : RNet W 0 S (Nt.new k) ⟨(k : Int), none, 0, 0, 0, none, 0, 0, 0⟩ := by
  refine ⟨rfl, rfl, rfl, rfl, ⟨[], ⟨rfl, fun i x y hx _ => by simp at hx⟩, ⟨rfl, Nat.zero_le _, Nat.le_refl _, fun u hu => by simp [pcells] at hu, fun j v hj => by simp [pcells] at hj⟩⟩, ⟨[], rfl, Nat.le_refl _, ⟨rfl, Nat.zero_le _, Nat.le_refl _, fun u hu => by simp [ccells] at hu, fun j v hj => by simp [ccells] at hj⟩, fun a b => rfl⟩⟩
def dm0 : Dm := ⟨msg0.norm, [], [], []⟩
theorem msg0_deep (S : Mem) : DeepQ S msg0 dm0 :=
  ⟨rfl, ⟨rfl, by simp [msg0], by simp [msg0], fun u hu => by simp [dm0, ecells] at hu, fun j v hj => by simp [dm0, ecells] at hj⟩, ⟨rfl, by simp [msg0], by simp [msg0], fun u hu => by simp [dm0, bcells] at hu, fun j v hj => by simp [dm0, bcells] at hj⟩, ⟨rfl, by simp [dm0], by simp [dm0], fun i x hx => by simp [dm0] at hx⟩⟩
theorem plays_c (W : World) (z : Int) {p : Option Addr} {l c : Nat} {L : List Dd} (hL : DRs (Mem.of W) L p l) (hn : ∀ d ∈ L, -9223372036854775808 ≤ d.n ∧ d.n ≤ 9223372036854775807) :
    Calls Try.prog 7 #[.int .i64 z, .slice p l c] W (Ret (.bool true) (Go.RowKit.Below W.heap.size W)) := by
  have hll := hL.len; have hlm := hL.lim
  have h0 : Sat [Ro W (Mem.of W)] W := Sat.ofBase W
  have hend : ∀ {S : Mem} {F : List HP} {w : World}, Ext (Mem.of W) S → Sat (Ro W S :: F) w → Go.RowKit.Below W.heap.size W w := fun e h => h.roBelow 0 rfl e
  refine S_law24_NetPlays_ok _ _ _ _ _ _ ?_
  unfold S_law24_NetPlays
  by_cases hz : z < 1 ∨ 100000 < z
  · refine (netnew_no z hz W).mono ?_
    rintro e w1 ⟨rfl, rfl⟩
    refine ⟨_, _, rfl, ?_⟩
    refine (awake_c h0).mono ?_
    rintro e w2 ⟨rfl, h1⟩
    refine ⟨true, rfl, cond_f rfl ?_⟩
    refine (vast_c hL h1).mono ?_
    rintro e w3 ⟨ok, S0, e0, rfl, h2⟩
    refine ⟨ok, rfl, ?_⟩
    cases ok
    · refine cond_f rfl ?_
      by_cases h1 : z < 1
      · exact cond_t (by simpa using h1) (cond_t rfl ⟨rfl, hend e0 h2⟩)
      · exact cond_f (by simpa using h1) (cond_t (by simp; omega) (cond_t rfl ⟨rfl, hend e0 h2⟩))
    · exact cond_t rfl ⟨rfl, hend e0 h2⟩
  obtain ⟨k, rfl⟩ := Int.eq_ofNat_of_zero_le (show 0 ≤ z by omega)
  refine (netnew_c (Deep W) (Mem.of W) (n := k) (by omega) (by omega) h0).mono ?_
  rintro e w1 ⟨b, rfl, h1⟩
  refine ⟨_, _, rfl, ?_⟩
  refine (awake_c h1).mono ?_
  rintro e w2 ⟨rfl, h2⟩
  refine ⟨true, rfl, cond_f rfl ?_⟩
  refine (vast_c hL (h2.pull 1 rfl)).mono ?_
  rintro e w3 ⟨ok, S0, e0, rfl, h3⟩
  refine ⟨ok, rfl, ?_⟩
  cases ok
  rotate_left
  · exact cond_t rfl ⟨rfl, hend e0 h3⟩
  refine cond_f rfl (cond_f (by simp; omega) (cond_f (by simp; omega) (cond_f rfl (cond_f rfl ?_))))
  have h4 : Sat [NetP (Deep W) S0 (Nt.new k) b, Ro W S0] w3 := net_mono (T := Deep W) (s := Mem.of W) e0 (h3.pull 1 rfl)
  refine NewC.ofRow h4 fun b0 w4 h5 => ?_
  refine stRow5 h5 0 rfl fun w5 h6 => ?_
  have h7 : Sat [NetP (Deep W) S0 (Nt.new k) b, Ro W S0, Row b0 (⟨(k : Int), none, 0, 0, 0, none, 0, 0, 0⟩ : Rn).cells 58] w5 := Sat.pull (Sat.pull h6 2 rfl) 2 rfl
  refine ⟨fun x w => ∃ (q : Nat) (S : Mem) (N : Nt (Deep W).α) (r : Rn), x = q ∧ q ≤ L.length ∧ Ext (Mem.of W) S ∧ N.most = k ∧ N.last ≤ q ∧ N.lost ≤ q ∧ RNet W q S N r ∧ Sat [NetP (Deep W) S N b, Ro W S, Row b0 r.cells 58] w,
    fun x _ => (L.length - x).toNat, ⟨0, S0, Nt.new k, _, rfl, by omega, e0, rfl, Nat.le_refl _, Nat.le_refl _, rnet_new W S0 k, h7⟩, ?_⟩
  clear h0 h1 h2 h3 h4 h5 h6 h7
  rintro x w4 ⟨q, S, N, r, rfl, hq, hE, hm, hla, hlo, hr, h4⟩
  unfold S_law24_NetPlays_l0
  by_cases hql : q < L.length
  rotate_left
  · exact cond_f (by simp; omega) ⟨rfl, hend hE (h4.pull 1 rfl)⟩
  refine cond_t (by simp; omega) ?_
  have hx : L[q]? = some L[q] := List.getElem?_eq_getElem hql
  have hdn := hn _ (List.getElem_mem hql)
  generalize L[q] = d at hx hdn
  refine DRs.rd (hL.mono hE) (h4.has 1 rfl) hx fun a m hd hc => ?_
  refine ldDeed (d := d) (m := m) hc ?_
  refine NewC.ofRow h4 fun b1 w5 h5 => stDeed (d := d) (m := m) h5 0 rfl fun w6 h6 => ?_
  intro k0 hk0
  have h7 : Sat [NetP (Deep W) S N b, Ro W S, Row b0 r.cells 58, Row b1 (ddCells d m) 52] w6 := Sat.pull (Sat.pull (Sat.pull h6 3 rfl) 3 rfl) 3 rfl
  clear h4 h5 h6
  have step : ∀ (S' : Mem) (N' : Nt (Deep W).α) (r' : Rn) (w' : World), Ext S S' → N'.most = k → N'.last ≤ q + 1 → N'.lost ≤ q + 1 → RNet W (q + 1) S' N' r' → Sat [NetP (Deep W) S' N' b, Ro W S', Row b0 r'.cells 58, Row b1 (ddCells d m) 52] w' → k0 true w' := by
    intro S' N' r' w' a1 a2 a3 a4 a5 a6
    refine hk0 _ _ ?_
    unfold S_law24_NetPlays_j0
    refine cond_f rfl ?_
    refine ldRn a6 2 rfl ?_
    refine (looks_c a5 a6).mono ?_
    rintro e w'' ⟨S2, e2, rfl, h8⟩
    refine ⟨true, rfl, cond_f rfl ?_⟩
    rw [wrapI64 (by omega) (by omega)]
    exact ⟨⟨q + 1, S2, N', r', by omega, by omega, (hE.trans a1).trans e2, a2, a3, a4, a5.mono e2 (Nat.le_refl _), (h8.pull 3 rfl).drop⟩, by first | omega | (dsimp only; omega)⟩
  -- behind a call of each: both are told anew
  have swap : ∀ {S1 S2 : Mem} {N1 : Nt (Deep W).α} {F : List HP} {w : World}, Ext S1 S2 → Sat (Ro W S2 :: NetP (Deep W) S1 N1 b :: F) w → Sat (NetP (Deep W) S2 N1 b :: Ro W S2 :: F) w := fun e h => net_mono (T := Deep W) e (h.pull 1 rfl)
  have hwf := (net_open h7).1
  have hmost : N.most ≤ 100000 := by omega
  have beq : ∀ x : Int, (x == x) = true := fun x => beq_self_eq_true x
  refine LdI.of h7 3 rfl (off := 0) rfl (by simp) ?_
  by_cases hd3 : d.do_ ≤ 3
  · refine cond_t (by simpa using hd3) ?_
    have mg : ∀ {L : List HP} {w : World} (i : Nat), Sat L w → L[i]? = some (Row b1 (ddCells d m) 52) → ∀ j v, m.cells[j]? = some v → w.cell? (Addr.add (Addr.add ⟨b1, 0, none⟩ 4) j) = some v := fun i h hi j v hj => by
      rw [add_mk, add_mk, Nat.zero_add]
      exact h.cell i hi (off := 4 + j) (by unfold ddCells; rw [List.getElem?_append_right (by simp)]; simpa using hj)
    refine ldMsg (m := m) (mg 3 h7 rfl) ?_
    refine (send_c (T := Deep W) h7 hd (by omega) (by omega)).mono ?_
    intro e w8 h8
    -- what both tell
    have both : ∃ (S1 : Mem) (N1 : Nt (Deep W).α) (id er : Int), Ext S S1 ∧ N1.most = k ∧ N1.last ≤ q + 1 ∧ N1.lost ≤ q + 1 ∧ Ret (.tuple #[.int .i64 id, .int .i64 er]) (Sat (NetP (Deep W) S1 N1 b :: Ro W S1 :: Row b0 r.cells 58 :: Row b1 (ddCells d m) 52 :: [])) e w8 ∧
        ∀ (F : List HP) (w : World), Sat (Ro W S1 :: F) w → Calls Try.prog 22 #[r.agg, m.agg] w fun e w' => ∃ S' r', Ext S1 S' ∧ RNet W q S' N1 r' ∧ Ret (.tuple #[r'.agg, .int .i64 id, .int .i64 er]) (Sat (Ro W S' :: F)) e w' := by
      by_cases hc1 : N.off (min ((Deep W).fr d.m) ((Deep W).tt d.m)) (max ((Deep W).fr d.m) ((Deep W).tt d.m)) = true
      · rw [if_pos hc1] at h8
        refine ⟨S, N.lose, 0, 0, Ext.refl S, hm, by dsimp only [Nt.lose]; omega, by dsimp only [Nt.lose]; omega, h8, fun F w hs => ?_⟩
        refine (rsend_c hr hd hmost (by omega) (by omega) hs).mono fun e w' h => ?_
        rw [if_pos hc1] at h
        obtain ⟨r', h1, h2⟩ := h
        exact ⟨S, r', Ext.refl S, h1, h2⟩
      · rw [if_neg hc1] at h8
        by_cases hf : N.most ≤ N.l.length
        · rw [if_pos hf] at h8
          refine ⟨S, N.lose, 0, 5, Ext.refl S, hm, by dsimp only [Nt.lose]; omega, by dsimp only [Nt.lose]; omega, h8, fun F w hs => ?_⟩
          refine (rsend_c hr hd hmost (by omega) (by omega) hs).mono fun e w' h => ?_
          rw [if_neg hc1, if_pos hf] at h
          obtain ⟨r', h1, h2⟩ := h
          exact ⟨S, r', Ext.refl S, h1, h2⟩
        · rw [if_neg hf] at h8
          obtain ⟨S1, e1, h8⟩ := h8
          refine ⟨S1, N.add d.m, _, 0, e1, hm, by dsimp only [Nt.add]; omega, by dsimp only [Nt.add]; omega, h8, fun F w hs => ?_⟩
          refine (rsend_c (hr.mono e1 (Nat.le_refl _)) (DeepQ.mono e1 hd) hmost (by omega) (by omega) hs).mono fun e w' h => ?_
          rw [if_neg hc1, if_neg hf] at h
          exact h
    obtain ⟨S1, N1, id, er, e1, a2, a3, a4, ⟨rfl, h9⟩, hS⟩ := both
    refine ⟨_, _, rfl, ?_⟩
    refine ldRn h9 2 rfl ?_
    refine ldMsg (m := m) (mg 3 h9 rfl) ?_
    refine (hS _ _ (h9.pull 1 rfl)).mono ?_
    rintro e w9 ⟨S2, r', e2, hr', rfl, h10⟩
    refine ⟨_, _, _, _, _, _, _, _, _, _, _, rfl, ?_⟩
    refine NewC.ofRow h10 fun b2 w10 h11 => stRow5 h11 0 rfl fun w11 h12 => ?_
    have h12 : Sat (Row b2 r'.cells 58 :: Ro W S2 :: NetP (Deep W) S1 N1 b :: Row b0 r.cells 58 :: Row b1 (ddCells d m) 52 :: []) w11 := h12
    refine cpRn (r := r') h12 0 rfl 3 rfl fun w12 h13 => ?_
    refine cond_t (beq id) ?_
    rw [beq er]
    exact step S2 N1 r' w12 (e1.trans e2) a2 a3 a4 (hr'.mono (Ext.refl S2) (by omega)) (swap e2 h13.drop)
  refine cond_f (by simpa using hd3) ?_
  refine LdI.of h7 3 rfl (off := 0) rfl (by simp) ?_
  by_cases hd4 : d.do_ = 4
  · refine cond_t (by simpa using hd4) ?_
    refine LdI.of h7 3 rfl (off := 3) rfl (by simp [add_mk]) ?_
    have both : ∃ x y : Int, Calls Try.prog 14 #[.pointer (some ⟨b, 0, none⟩), .int .i64 d.n] w6 (Ret (.tuple #[.int .i64 x, .int .i64 y]) (Sat [NetP (Deep W) S N b, Ro W S, Row b0 r.cells 58, Row b1 (ddCells d m) 52])) ∧
        ∀ (F : List HP) (w : World), Sat (Ro W S :: F) w → Calls Try.prog 23 #[r.agg, .int .i64 d.n] w (Ret (.tuple #[.int .i64 x, .int .i64 y]) (Sat (Ro W S :: F))) := by
      by_cases h0 : N.l = []
      · exact ⟨0, 17, (pick_c h7 d.n).mono fun e w h => ⟨h.1.trans (by rw [if_pos h0]), h.2⟩, fun F w hs => (rpick_c hr d.n hs).mono fun e w h => ⟨h.1.trans (by rw [if_pos h0]), h.2⟩⟩
      · by_cases hk : d.n < 0
        · exact ⟨0, 1, (pick_c h7 d.n).mono fun e w h => ⟨h.1.trans (by rw [if_neg h0, if_pos hk]), h.2⟩, fun F w hs => (rpick_c hr d.n hs).mono fun e w h => ⟨h.1.trans (by rw [if_neg h0, if_pos hk]), h.2⟩⟩
        · obtain ⟨y, hy⟩ : ∃ y, N.l[d.n.toNat % N.l.length]? = some y := ⟨_, List.getElem?_eq_getElem (Nat.mod_lt _ (List.length_pos_iff.2 h0))⟩
          exact ⟨((y.1 : Nat) : Int), 0, (pick_c h7 d.n).mono fun e w h => ⟨h.1.trans (by rw [if_neg h0, if_neg hk, hy]), h.2⟩, fun F w hs => (rpick_c hr d.n hs).mono fun e w h => ⟨h.1.trans (by rw [if_neg h0, if_neg hk, hy]), h.2⟩⟩
    obtain ⟨x, y, hp, hS⟩ := both
    refine hp.mono ?_
    rintro e w8 ⟨rfl, h8⟩
    refine ⟨_, _, rfl, ?_⟩
    refine ldRn h8 2 rfl ?_
    refine LdI.of h8 3 rfl (off := 3) rfl (by simp [add_mk]) ?_
    refine (hS _ _ (h8.pull 1 rfl)).mono ?_
    rintro e w9 ⟨rfl, h9⟩
    refine ⟨_, _, rfl, cond_t (beq x) ?_⟩
    rw [beq y]
    exact step S N r w9 (Ext.refl S) hm (by omega) (by omega) (hr.mono (Ext.refl S) (by omega)) (h9.pull 1 rfl)
  refine cond_f (by simpa using hd4) ?_
  refine LdI.of h7 3 rfl (off := 0) rfl (by simp) ?_
  by_cases hd6 : d.do_ ≤ 6
  · refine cond_t (by simpa using hd6) ?_
    refine LdI.of h7 3 rfl (off := 3) rfl (by simp [add_mk]) ?_
    refine (take_c (T := Deep W) h7 (by omega) (id := d.n) hdn).mono ?_
    intro e w8 h8
    have both : ∃ (N1 : Nt (Deep W).α) (m1 : Mg) (dm : Dm) (er : Int), DeepQ S m1 dm ∧ N1.most = k ∧ N1.last ≤ q + 1 ∧ N1.lost ≤ q + 1 ∧ Ret (.tuple #[m1.agg, .int .i64 er]) (Sat (NetP (Deep W) S N1 b :: Ro W S :: Row b0 r.cells 58 :: Row b1 (ddCells d m) 52 :: [])) e w8 ∧
        ∀ (F : List HP) (w : World), Sat (Ro W S :: F) w → Calls Try.prog 24 #[r.agg, .int .i64 d.n] w fun e w' => ∃ (S' : Mem) (r' : Rn) (m2 : Mg), Ext S S' ∧ RNet W q S' N1 r' ∧ DeepQ S' m2 dm ∧ Ret (.tuple #[r'.agg, m2.agg, .int .i64 er]) (Sat (Ro W S' :: F)) e w' := by
      rcases h8 with ⟨hno, h8⟩ | ⟨i, y, m1, hy, hyi, hq1, h8⟩
      · refine ⟨N, msg0, dm0, 8, msg0_deep S, hm, by omega, by omega, h8, fun F w hs => ?_⟩
        refine (rtake_c hr hs).mono fun e w' h => ?_
        rcases h with ⟨_, h⟩ | ⟨k', z, _, _, _, hz, hzi, _⟩
        · exact ⟨S, r, msg0, Ext.refl S, hr, msg0_deep S, h⟩
        · exact absurd hzi (hno z (List.mem_of_getElem? hz))
      · refine ⟨N.erase i, m1, y.2, 0, hq1, hm, by dsimp only [Nt.erase]; omega, by dsimp only [Nt.erase]; omega, h8, fun F w hs => ?_⟩
        refine (rtake_c hr hs).mono fun e w' h => ?_
        rcases h with ⟨hno, _⟩ | ⟨k', z, m2, S', r', hz, hzi, e1, hq2, hr', h⟩
        · exact absurd hyi (hno y (List.mem_of_getElem? hy))
        · have := ids_inj hwf hy hz (hyi.trans hzi.symm)
          subst this
          rw [hy] at hz
          cases hz
          exact ⟨S', r', m2, e1, hr', hq2, h⟩
    obtain ⟨N1, m1, dm, er, hq1, a2, a3, a4, ⟨rfl, h9⟩, hS⟩ := both
    refine ⟨_, _, _, _, _, _, _, _, _, _, _, _, _, _, _, _, _, _, _, _, _, _, _, _, rfl, ?_⟩
    refine NewC.ofRow h9 fun b3 w9 h10 => stMsg (m := m1) h10 0 rfl fun w10 h11 => ?_
    have h11 : Sat (Row b3 m1.cells 37 :: NetP (Deep W) S N1 b :: Ro W S :: Row b0 r.cells 58 :: Row b1 (ddCells d m) 52 :: []) w10 := h11
    refine ldRn h11 3 rfl ?_
    refine LdI.of h11 4 rfl (off := 3) rfl (by simp [add_mk]) ?_
    refine (hS _ _ (h11.pull 2 rfl)).mono ?_
    rintro e w11 ⟨S', r', m2, e2, hr', hq2, rfl, h12⟩
    refine ⟨_, _, _, _, _, _, _, _, _, _, _, _, _, _, _, _, _, _, _, _, _, _, _, _, _, _, _, _, _, _, _, _, _, rfl, ?_⟩
    refine NewC.ofRow h12 fun b4 w12 h13 => NewC.ofRow h13 fun b5 w13 h14 => ?_
    refine stRow5 h14 1 rfl fun w14 h15 => ?_
    refine stMsg (m := m2) h15 0 rfl fun w15 h16 => ?_
    have h16 : Sat (Row b5 m2.cells 37 :: Row b4 r'.cells 58 :: Ro W S' :: Row b3 m1.cells 37 :: NetP (Deep W) S N1 b :: Row b0 r.cells 58 :: Row b1 (ddCells d m) 52 :: []) w15 := h16
    refine cpRn (r := r') h16 1 rfl 5 rfl fun w16 h17 => ?_
    refine ldMsgRow (m := m1) h17 3 rfl ?_
    refine ldMsgRow (m := m2) h17 0 rfl ?_
    refine (same_d (d := dm) (DeepQ.mono e2 hq1) hq2 (h17.pull 2 rfl)).mono ?_
    rintro e w17 ⟨rfl, h18⟩
    refine ⟨true, rfl, cond_t rfl ?_⟩
    rw [beq er]
    have a5 := (h18.pull 1 rfl).drop
    have a6 := (a5.pull 1 rfl).drop
    have a7 := (a6.pull 1 rfl).drop
    exact step S' N1 r' w17 e2 a2 a3 a4 (hr'.mono (Ext.refl S') (by omega)) (swap e2 a7)
  refine cond_f (by simpa using hd6) ?_
  refine LdI.of h7 3 rfl (off := 0) rfl (by simp) ?_
  by_cases hd7 : d.do_ = 7
  · refine cond_t (by simpa using hd7) ?_
    refine LdI.of h7 3 rfl (off := 3) rfl (by simp [add_mk]) ?_
    refine (copy_c (T := Deep W) h7 (by omega) (id := d.n) hdn).mono ?_
    intro e w8 h8
    have both : ∃ (S1 : Mem) (N1 : Nt (Deep W).α) (id er : Int), Ext S S1 ∧ N1.most = k ∧ N1.last ≤ q + 1 ∧ N1.lost ≤ q + 1 ∧ Ret (.tuple #[.int .i64 id, .int .i64 er]) (Sat (NetP (Deep W) S1 N1 b :: Ro W S1 :: Row b0 r.cells 58 :: Row b1 (ddCells d m) 52 :: [])) e w8 ∧
        ∀ (F : List HP) (w : World), Sat (Ro W S1 :: F) w → Calls Try.prog 25 #[r.agg, .int .i64 d.n] w fun e w' => ∃ S' r', Ext S1 S' ∧ RNet W q S' N1 r' ∧ Ret (.tuple #[r'.agg, .int .i64 id, .int .i64 er]) (Sat (Ro W S' :: F)) e w' := by
      rcases h8 with ⟨hno, h8⟩ | ⟨i, y, hy, hyi, h8⟩
      · refine ⟨S, N, 0, 8, Ext.refl S, hm, by omega, by omega, h8, fun F w hs => ?_⟩
        refine (rcopy_c hr hmost (by omega) hs).mono fun e w' h => ?_
        rcases h with ⟨_, h⟩ | ⟨k', z, hz, hzi, _⟩
        · exact ⟨S, r, Ext.refl S, hr, h⟩
        · exact absurd hzi (hno z (List.mem_of_getElem? hz))
      · by_cases hf : N.most ≤ N.l.length
        · rw [if_pos hf] at h8
          refine ⟨S, N, 0, 5, Ext.refl S, hm, by omega, by omega, h8, fun F w hs => ?_⟩
          refine (rcopy_c hr hmost (by omega) hs).mono fun e w' h => ?_
          rcases h with ⟨hno, _⟩ | ⟨k', z, hz, hzi, h⟩
          · exact absurd hyi (hno y (List.mem_of_getElem? hy))
          · rw [if_pos hf] at h
            exact ⟨S, r, Ext.refl S, hr, h⟩
        · rw [if_neg hf] at h8
          obtain ⟨S1, e1, h8⟩ := h8
          refine ⟨S1, N.add y.2, _, 0, e1, hm, by dsimp only [Nt.add]; omega, by dsimp only [Nt.add]; omega, h8, fun F w hs => ?_⟩
          refine (rcopy_c (hr.mono e1 (Nat.le_refl _)) hmost (by omega) hs).mono fun e w' h => ?_
          rcases h with ⟨hno, _⟩ | ⟨k', z, hz, hzi, h⟩
          · exact absurd hyi (hno y (List.mem_of_getElem? hy))
          · rw [if_neg hf] at h
            have := ids_inj hwf hy hz (hyi.trans hzi.symm)
            subst this
            rw [hy] at hz
            cases hz
            exact h
    obtain ⟨S1, N1, id, er, e1, a2, a3, a4, ⟨rfl, h9⟩, hS⟩ := both
    refine ⟨_, _, rfl, ?_⟩
    refine ldRn h9 2 rfl ?_
    refine LdI.of h9 3 rfl (off := 3) rfl (by simp [add_mk]) ?_
    refine (hS _ _ (h9.pull 1 rfl)).mono ?_
    rintro e w9 ⟨S2, r', e2, hr', rfl, h10⟩
    refine ⟨_, _, _, _, _, _, _, _, _, _, _, rfl, ?_⟩
    refine NewC.ofRow h10 fun b2 w10 h11 => stRow5 h11 0 rfl fun w11 h12 => ?_
    have h12 : Sat (Row b2 r'.cells 58 :: Ro W S2 :: NetP (Deep W) S1 N1 b :: Row b0 r.cells 58 :: Row b1 (ddCells d m) 52 :: []) w11 := h12
    refine cpRn (r := r') h12 0 rfl 3 rfl fun w12 h13 => ?_
    refine cond_t (beq id) ?_
    rw [beq er]
    exact step S2 N1 r' w12 (e1.trans e2) a2 a3 a4 (hr'.mono (Ext.refl S2) (by omega)) (swap e2 h13.drop)
  refine cond_f (by simpa using hd7) ?_
  refine LdI.of h7 3 rfl (off := 0) rfl (by simp) ?_
  by_cases hd8 : d.do_ = 8
  · refine cond_t (by simpa using hd8) ?_
    refine LdI.of h7 3 rfl (off := 3) rfl (by simp [add_mk]) ?_
    refine (drop_c (T := Deep W) h7 (by omega) (by omega) (id := d.n) hdn).mono ?_
    intro e w8 h8
    have both : ∃ (N1 : Nt (Deep W).α) (er : Int), N1.most = k ∧ N1.last ≤ q + 1 ∧ N1.lost ≤ q + 1 ∧ Ret (.int .i64 er) (Sat (NetP (Deep W) S N1 b :: Ro W S :: Row b0 r.cells 58 :: Row b1 (ddCells d m) 52 :: [])) e w8 ∧
        ∀ (F : List HP) (w : World), Sat (Ro W S :: F) w → Calls Try.prog 26 #[r.agg, .int .i64 d.n] w fun e w' => ∃ (S' : Mem) (r' : Rn), Ext S S' ∧ RNet W q S' N1 r' ∧ Ret (.tuple #[r'.agg, .int .i64 er]) (Sat (Ro W S' :: F)) e w' := by
      rcases h8 with ⟨hno, h8⟩ | ⟨i, y, hy, hyi, h8⟩
      · refine ⟨N, 8, hm, by omega, by omega, h8, fun F w hs => ?_⟩
        refine (rdrop_c hr (by omega) hs).mono fun e w' h => ?_
        rcases h with ⟨_, h⟩ | ⟨k', z, _, _, hz, hzi, _⟩
        · exact ⟨S, r, Ext.refl S, hr, h⟩
        · exact absurd hzi (hno z (List.mem_of_getElem? hz))
      · refine ⟨(N.erase i).lose, 0, hm, by dsimp only [Nt.erase, Nt.lose]; omega, by dsimp only [Nt.erase, Nt.lose]; omega, h8, fun F w hs => ?_⟩
        refine (rdrop_c hr (by omega) hs).mono fun e w' h => ?_
        rcases h with ⟨hno, _⟩ | ⟨k', z, S', r', hz, hzi, e1, hr', h⟩
        · exact absurd hyi (hno y (List.mem_of_getElem? hy))
        · have := ids_inj hwf hy hz (hyi.trans hzi.symm)
          subst this
          exact ⟨S', r', e1, hr', h⟩
    obtain ⟨N1, er, a2, a3, a4, ⟨rfl, h9⟩, hS⟩ := both
    refine ⟨_, rfl, ?_⟩
    refine ldRn h9 2 rfl ?_
    refine LdI.of h9 3 rfl (off := 3) rfl (by simp [add_mk]) ?_
    refine (hS _ _ (h9.pull 1 rfl)).mono ?_
    rintro e w9 ⟨S2, r', e2, hr', rfl, h10⟩
    refine ⟨_, _, _, _, _, _, _, _, _, _, rfl, ?_⟩
    refine NewC.ofRow h10 fun b2 w10 h11 => stRow5 h11 0 rfl fun w11 h12 => ?_
    have h12 : Sat (Row b2 r'.cells 58 :: Ro W S2 :: NetP (Deep W) S N1 b :: Row b0 r.cells 58 :: Row b1 (ddCells d m) 52 :: []) w11 := h12
    refine cpRn (r := r') h12 0 rfl 3 rfl fun w12 h13 => ?_
    rw [beq er]
    exact step S2 N1 r' w12 e2 a2 a3 a4 (hr'.mono (Ext.refl S2) (by omega)) (swap e2 h13.drop)
  refine cond_f (by simpa using hd8) ?_
  refine LdI.of h7 3 rfl (off := 1) rfl (by simp [add_mk]) (LdI.of h7 3 rfl (off := 2) rfl (by simp [add_mk]) (LdI.of h7 3 rfl (off := 0) rfl (by simp) ?_))
  refine (cut_c h7 d.a d.b _).mono ?_
  rintro e w8 ⟨rfl, h8⟩
  refine ⟨rfl, ?_⟩
  refine ldRn h8 2 rfl ?_
  refine LdI.of h8 3 rfl (off := 1) rfl (by simp [add_mk]) (LdI.of h8 3 rfl (off := 2) rfl (by simp [add_mk]) (LdI.of h8 3 rfl (off := 0) rfl (by simp) ?_))
  refine (rCut_c hr (by omega) d.a d.b _ (h8.pull 1 rfl)).mono ?_
  rintro e w9 ⟨S', r', e2, hr', rfl, h9⟩
  refine ⟨_, _, _, _, _, _, _, _, _, rfl, ?_⟩
  refine stRow5 (c0 := .int .i64 r.m) (c1 := .slice r.lp r.ll r.lc) (c2 := .int .i64 r.la) (c3 := .slice r.cp r.cl r.cc) (c4 := .int .i64 r.lo) h9 2 rfl fun w10 h10 => ?_
  exact step S' (N.cut d.a d.b (d.do_ == 9)) r' w10 e2 hm (by dsimp only [Nt.cut]; omega) (by dsimp only [Nt.cut]; omega) hr' (swap e2 h10)

set_option maxRecDepth 100000 in
theorem plays_lifted (os : Os) (started : os.Started) (H : Type) (enc : TypeId × Value → H) (F : Stop.Interp) :
    ReturnsInHanded {} Try.checked os 7 .any ((Rows.OpenSpec.upto Rows.netPlaysSpec).pre6 enc Try.prog Try.f7 Rows.netPlaysUptoRow.domain false) (((Rows.OpenSpec.upto Rows.netPlaysSpec).at F).post enc Try.prog Try.f7 false true false false) := by
  refine returnsInHanded_of_cond (C := Try.checked) (s := Rows.OpenSpec.upto Rows.netPlaysSpec) (k := Rows.uptoSmall) rfl own started (by kernel_rfl) Try.func7
    (OpenSpec.witness (enc := enc) (C := Try.checked) (s := Rows.OpenSpec.upto Rows.netPlaysSpec) (k := Rows.uptoSmall) rfl false ⟨#[], #[.int .i64 0, .slice none 0 0], []⟩ 8 (by kernel_rfl) (by kernel_rfl) (by kernel_rfl)
      (x := ([.lit (.int .i64 0), .nil], [], [])) (by kernel_rfl) rfl (by kernel_rfl)) ?_
  intro W base args ds gs before hval hW hcnd hsm _
  have hval : ∀ (j : Nat) t v, Try.f7.params[j]? = some t → args[j]? = some v → Value.okWide Try.prog W .any base t v := hval
  have hW : DataW.Whole enc Try.prog Try.f7.params.toList Rows.netPlaysSpec.vars false W args.toList ds gs before := hW
  have hW' := hW
  obtain ⟨p, q, hA, hV, _⟩ := hW'
  rw [Try.params7] at hA hval
  obtain ⟨v0, v1, d0, d1, p0, p1, rfl, rfl, rfl, h0, h1⟩ := trodAll_two hA
  obtain ⟨n, rfl, rfl, rfl, wn⟩ := open_int Try.underlying3 (hval 0 3 v0 rfl rfl) h0
  obtain ⟨a1, l1, c1, rfl⟩ := okWide_slice Try.underlying49 (hval 1 49 v1 rfl rfl)
  obtain ⟨fuel, hf⟩ := h1
  obtain ⟨p', c', L, e, hL, hLn⟩ := deeds_arg hf (small_mem hsm (by simp))
  cases e
  refine (plays_c W n hL hLn).mono fun e W' ⟨he, hs⟩ => ?_
  exact ⟨_, he, law_post (s := Rows.netPlaysSpec) (tb := 4) laidOut (by decide +kernel) (by kernel_rfl) Try.underlying4 rfl hW ⟨rfl, rfl, rfl⟩ hs⟩

theorem plays_holds : Rows.NetPlaysUptoSaid :=
  OpenClaim.holds_of_cond 7 Try.f7 rfl rfl rfl rfl rfl rfl rfl ⟨rfl, rfl, rfl, rfl, rfl⟩ rfl rfl rfl rfl rfl (by kernel_rfl) Try.func7 (by kernel_rfl)
    (of_decide_eq_true (by kernel_rfl)) (by unfold Func.isWrapper; first | (rw [if_pos (by decide +kernel)]; kernel_rfl) | (rw [if_neg (by decide +kernel)]; exact ⟨rfl, rfl⟩))
    (fun os started H enc _ F => plays_lifted os started H enc F)
end Go.Proofs.Ytjpaoggcphfjeaa
