/- Messages with their parts, copied. -/
import Derived.Test.YtjpaoggcphfjeaaNDeep
namespace Go.Proofs.Ytjpaoggcphfjeaa
open Go Go.Lw Go.Tb Go.Wd Go.Vd

/-- a message: its numbers, its log, its image, its documents. -/
structure Dm where
  g : Mg
  log : List (Int × Int × ByteArray)
  img : List UInt8
  docs : List V
def ecells (l : List (Int × Int × ByteArray)) : List Value := l.flatMap fun x => [.int .i64 x.1, .int .i64 x.2.1, .string x.2.2]
def bcells (l : List UInt8) : List Value := l.map fun b => .int .u8 (b.toNat : Int)
structure DeepQ (S : Mem) (m : Mg) (d : Dm) : Prop where
  norm : m.norm = d.g
  log : CRs S 3 (ecells d.log) m.lp m.ll m.lc
  img : CRs S 1 (bcells d.img) m.ip m.il m.ic
  docs : VRs S d.docs m.dp m.dl m.dc
theorem DeepQ.mono {S S' : Mem} {m : Mg} {d : Dm} (e : Ext S S') (h : DeepQ S m d) : DeepQ S' m d := ⟨h.norm, h.log.mono e, h.img.mono e, h.docs.mono e⟩

theorem copied_deep (W : World) {S : Mem} {m : Mg} {d : Dm} (hq : DeepQ S m d) {F : List HP} {w : World} (hs : Sat (Ro W S :: F) w) :
    Calls Try.prog 39 #[m.agg] w fun e w' => ∃ S' m', Ext S S' ∧ DeepQ S' m' d ∧ e = .returned m'.agg ∧ Sat (Ro W S' :: F) w' := by
  have hll := hq.log.lim; have hil := hq.img.lim; have hdl := hq.docs.len; have hdm := hq.docs.lim
  simp only [lim] at hdm
  refine S_net_Copied_ok _ _ _ _ _ _ _ _ _ _ _ _ _ _ _ _ _ _ _ _ _ _ _ _ _ ?_
  unfold S_net_Copied
  refine NewC.ofRow hs fun b0 w1 h1 => NewC.ofRow h1 fun b1 w2 h2 => ?_
  have h3 : Sat (Row b1 msg0.cells 37 :: Row b0 m.cells 37 :: Ro W S :: F) w2.drew := h2.drew
  refine ⟨fun w => ∃ L i, L[i]? = some (Row b0 m.cells 37) ∧ Sat L w, ⟨_, 1, rfl, h3⟩, ?_⟩
  refine ⟨m.lp, m.ll, m.lc, fun w ⟨L, i, hi, h⟩ => LdS.of h i hi (off := 9) rfl (by simp [add_mk]) rfl, ?_⟩
  refine ⟨m.lp, m.ll, m.lc, fun w ⟨L, i, hi, h⟩ => LdS.of h i hi (off := 9) rfl (by simp [add_mk]) rfl, ?_⟩
  refine RunS.makeOwn eok_entry h3 (by omega) (by omega) (by omega) fun p0 w4 h4 => ⟨⟨_, 2, rfl, h4⟩, ?_⟩
  refine RunS.copyRo eok_entry h4 0 rfl 3 rfl hq.log (by omega) fun p1 c1 w4 h4 => ⟨⟨_, 2, rfl, h4⟩, ?_⟩
  refine StC.of h4 2 rfl (off := 9) rfl (by simp [add_mk]) fun w5 h5 => ?_
  have h6 : Sat (Own 32 3 p1 m.ll c1 (ecells d.log) :: Row b1 msg0.cells 37 :: Row b0 ({ m with lp := p1, lc := c1 } : Mg).cells 37 :: Ro W S :: F) w5.drew := h5.drew
  have hc1 := h6.own_cap 0 rfl
  obtain ⟨S1, e1, r1, h7⟩ := Sat.freezeAny ((h6.pull 3 rfl).pull 1 rfl)
  have q1 : DeepQ S1 ({ m with lp := p1, lc := c1 } : Mg) d := ⟨hq.norm, ⟨hq.log.len, hll, hc1, hq.log.one, r1⟩, hq.img.mono e1, hq.docs.mono e1⟩
  have i1 : ({ m with lp := p1, lc := c1 } : Mg).il = m.il := rfl
  have i2 : ({ m with lp := p1, lc := c1 } : Mg).dl = m.dl := rfl
  generalize ({ m with lp := p1, lc := c1 } : Mg) = m1 at h7 q1 i1 i2
  have h7 : Sat (Ro W S1 :: Row b1 msg0.cells 37 :: Row b0 m1.cells 37 :: F) w5.drew := h7
  refine ⟨fun w => ∃ L i, L[i]? = some (Row b0 m1.cells 37) ∧ Sat L w, ⟨_, 2, rfl, h7⟩, ?_⟩
  refine ⟨m1.ip, m1.il, m1.ic, fun w ⟨L, i, hi, h⟩ => LdS.of h i hi (off := 10) rfl (by simp [add_mk]) rfl, ?_⟩
  refine ⟨m1.ip, m1.il, m1.ic, fun w ⟨L, i, hi, h⟩ => LdS.of h i hi (off := 10) rfl (by simp [add_mk]) rfl, ?_⟩
  refine RunS.makeOwn eok_byte h7 (by omega) (by omega) (by omega) fun p2 w6 h8 => ⟨⟨_, 3, rfl, h8⟩, ?_⟩
  refine RunS.copyRo eok_byte h8 0 rfl 1 rfl q1.img (by omega) fun p2 c2 w6 h8 => ⟨⟨_, 3, rfl, h8⟩, ?_⟩
  refine StC.of h8 3 rfl (off := 10) rfl (by simp [add_mk]) fun w7 h9 => ?_
  have h9 : Sat (Own 5 1 p2 m1.il c2 (bcells d.img) :: Ro W S1 :: Row b1 msg0.cells 37 :: Row b0 ({ m1 with ip := p2, ic := c2 } : Mg).cells 37 :: F) w7 := h9
  have hc2 := h9.own_cap 0 rfl
  obtain ⟨S2, e2, r2, h10⟩ := Sat.freezeAny h9
  have q2 : DeepQ S2 ({ m1 with ip := p2, ic := c2 } : Mg) d := ⟨q1.norm, q1.log.mono e2, ⟨q1.img.len, q1.img.lim, hc2, q1.img.one, r2⟩, q1.docs.mono e2⟩
  have i3 : ({ m1 with ip := p2, ic := c2 } : Mg).dl = m.dl := i2
  generalize ({ m1 with ip := p2, ic := c2 } : Mg) = m2 at h10 q2 i3
  have h10 : Sat (Ro W S2 :: Row b1 msg0.cells 37 :: Row b0 m2.cells 37 :: F) w7 := h10
  refine LdS.of h10 2 rfl (off := 16) rfl (by simp [add_mk]) ?_
  refine RunS.makeOwn eok_val h10 (by omega) (by omega) (by omega) fun p3 w8 h11 => ?_
  refine LdS.of h11 3 rfl (off := 16) rfl (by simp [add_mk]) ?_
  have hdl2 := q2.docs.len
  refine ⟨fun p l c i w => ∃ (q : Nat) (S' : Mem) (f : Nat → List Value), i = q ∧ q ≤ d.docs.length ∧ q = l ∧ Ext S2 S' ∧ (∀ j, (f j).length = 5) ∧ (∀ j x, j < q → d.docs[j]? = some x → VR S' x (f j)) ∧
      Sat (Own 102 5 p q c (rowsF q f) :: Ro W S' :: Row b1 msg0.cells 37 :: Row b0 m2.cells 37 :: F) w,
    fun _ _ _ i _ => (d.docs.length - i).toNat, ⟨0, S2, fun _ => List.replicate 5 (.bool true), rfl, by omega, rfl, Ext.refl S2, fun _ => by simp, fun j x h => by omega, h11⟩, ?_⟩
  clear h1 h2 h3 h4 h5 h6 h7 h8 h9 h10 h11
  rintro p l c i w9 ⟨q, S3, f, rfl, hq', rfl, he3, hf5, hfv, h12⟩
  unfold S_net_Copied_l0
  by_cases hql : q < d.docs.length
  · refine cond_t (by simp; omega) ?_
    have hx : d.docs[q]? = some d.docs[q] := List.getElem?_eq_getElem hql
    generalize d.docs[q] = x at hx
    refine VRs.rd (q2.docs.mono he3) (h12.has 1 rfl) hx fun a cs hv hc => ?_
    obtain ⟨k', m', s', L', F', rfl⟩ : ∃ k' m' s' L' F', x = .mk k' m' s' L' F' := by cases x; exact ⟨_, _, _, _, _, rfl⟩
    obtain ⟨lp', ll', lc', fp', fl', fc', rfl, _, _⟩ := hv.open
    refine ldVal hc ?_
    refine NewC.ofRow h12 fun b2 w10 h13 => stRow5 h13 0 rfl fun w11 h14 => ?_
    refine ldVal (k := k') (n := m') (s := s') (lp := lp') (ll := ll') (lc := lc') (fp := fp') (fl := fl') (fc := fc') (fun j v hj => by rw [add_mk, Nat.zero_add]; exact h14.cell 0 rfl hj) ?_
    refine (value_c W _ _ (Nat.lt_succ_self _) _ _ _ _ hv (h14.pull 2 rfl)).mono ?_
    rintro e w12 ⟨S4, cs2, he4, hv2, rfl, h15⟩
    obtain ⟨lp2, ll2, lc2, fp2, fl2, fc2, rfl, _, _⟩ := hv2.open
    refine ⟨_, _, _, _, _, _, _, _, _, rfl, ?_⟩
    have h16 := ((h15.pull 1 rfl).drop).pull 1 rfl
    refine RunS.one eok_val h16 0 rfl (by rfl) (by rfl) (by omega) (by simp only [maxLen]; omega) fun p' c' w13 h17 => ?_
    rw [wrapI64 (by omega) (by omega)]
    refine ⟨⟨q + 1, S4, setF f q [.int .i64 k', .int .i64 m', .string s', .slice lp2 ll2 lc2, .slice fp2 fl2 fc2], by omega, by omega, rfl, he3.trans he4, setF_len hf5 rfl, fun j y hj hy => ?_, ?_⟩, by first | omega | (dsimp only; omega)⟩
    · unfold setF
      split
      · rename_i e; subst e; rw [hx] at hy; cases hy; exact hv2
      · exact (hfv j y (by omega) hy).mono he4
    · rw [rowsF_snoc]; exact h17
  have hql : q = d.docs.length := by omega
  subst hql
  refine cond_f (by simp; omega) ?_
  refine StC.of h12 3 rfl (off := 16) rfl (by simp [add_mk]) fun w10 h13 => ?_
  have hcap := h13.own_cap 0 rfl
  obtain ⟨S4, e4, r4, h14⟩ := Sat.freezeAny h13
  have h14 : Sat (Ro W S4 :: Row b1 msg0.cells 37 :: Row b0 ({ m2 with dp := p, dl := d.docs.length, dc := c } : Mg).cells 37 :: F) w10 := h14
  have hE := he3.trans e4
  have q3 : DeepQ S4 ({ m2 with dp := p, dl := d.docs.length, dc := c } : Mg) d := by
    refine ⟨q2.norm, q2.log.mono hE, q2.img.mono hE, ⟨rfl, q2.docs.lim, hcap, fun i x hx => ?_⟩⟩
    have hi := get_lt hx
    refine ⟨f i, (hfv i x hi hx).mono e4, fun j v hj => ?_⟩
    have h5 : j < 5 := by have := get_lt hj; rw [hf5] at this; exact this
    exact r4 _ v (by rw [rowsF_get hf5 hi h5]; exact hj)
  generalize ({ m2 with dp := p, dl := d.docs.length, dc := c } : Mg) = m3 at h14 q3
  refine ldMsgRow (m := m3) h14 2 rfl ?_
  refine stMsg (m := m3) h14 1 rfl fun w15 h15 => ?_
  refine ldMsgRow (m := m3) h15 1 rfl ?_
  refine ⟨S4, m3, (e1.trans e2).trans hE, q3, rfl, ?_⟩
  have a1 := (h15.pull 1 rfl).drop
  exact (a1.pull 1 rfl).drop

/-- messages with their parts. -/
def Deep (W : World) : MT where
  σ := Mem
  α := Dm
  Kp := fun S => Ro W S
  le := Ext
  Q := DeepQ
  fr := fun d => d.g.from_
  tt := fun d => d.g.to
  refl := Ext.refl
  trans := Ext.trans
  mono := DeepQ.mono
  ends := fun h => ⟨by rw [← h.norm]; rfl, by rw [← h.norm]; rfl⟩
  copied := fun hq hs => copied_deep W hq hs
end Go.Proofs.Ytjpaoggcphfjeaa
