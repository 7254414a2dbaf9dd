/- The document's own net (ref24): Take, Copy, Drop, Cut. -/
import Derived.Test.YtjpaoggcphfjeaaNRef
namespace Go.Proofs.Ytjpaoggcphfjeaa
open Go Go.Lw Go.Tb Go.Wd Go.Vd

theorem cuts_law (cs : List (Int × Int)) (off : Int → Int → Bool) (h : ∀ x y, off (min x y) (max x y) = cs.any (hit x y)) (a b : Int) (on : Bool) (x y : Int) :
    (bif on then (fun u v => off u v || (u == min a b && v == max a b)) else (fun u v => off u v && !(u == min a b && v == max a b))) (min x y) (max x y) = ((cs.filter fun z => !hit a b z) ++ (bif on then [(a, b)] else [])).any (hit x y) := by
  rw [List.any_append, List.any_filter]
  by_cases he : (x = a ∧ y = b) ∨ (x = b ∧ y = a)
  · have h1 : (min x y == min a b && max x y == max a b) = true := by simp; omega
    have h2 : (cs.any fun z => !hit a b z && hit x y z) = false := by
      rw [List.any_eq_false]
      intro z _
      rcases he with ⟨rfl, rfl⟩ | ⟨rfl, rfl⟩
      · simp
      · simp [hit]
        grind
    have h3 : hit x y (a, b) = true := by simp [hit]; omega
    cases on
    · simp only [cond_false]
      rw [h1, h2]; simp
    · simp only [cond_true]
      rw [h1, h2]; simp [h3]
  · have h1 : (min x y == min a b && max x y == max a b) = false := by
      cases hh : (min x y == min a b && max x y == max a b)
      · rfl
      · simp at hh; omega
    have h2 : (cs.any fun z => !hit a b z && hit x y z) = cs.any (hit x y) := by
      congr 1
      funext z
      cases hz : hit x y z
      · simp
      · have : hit a b z = false := by
          simp only [hit, Bool.or_eq_true, Bool.and_eq_true, beq_iff_eq] at hz
          simp only [hit, Bool.or_eq_false_iff, Bool.and_eq_false_iff, beq_eq_false_iff_ne]
          omega
        simp [this]
    have h3 : hit x y (a, b) = false := by
      simp only [hit, Bool.or_eq_false_iff, Bool.and_eq_false_iff, beq_eq_false_iff_ne]; omega
    cases on
    · simp only [cond_false]
      rw [h1, h2, h]; simp
    · simp only [cond_true]
      rw [h1, h2, h]; simp [h3]

section
variable {W : World} {B : Nat} {S : Mem} {N : Nt (Deep W).α} {r : Rn} {F : List HP} {w : World}
theorem RNet.lost {S' : Mem} {k : Nat} {r' : Rn} (h : RNet W B S' (N.erase k) r') : r'.lo = N.lost := h.lo

theorem rtake_c (hr : RNet W B S N r) {id : Int} (hs : Sat (Ro W S :: F) w) : Calls Try.prog 24 #[r.agg, .int .i64 id] w fun e w' =>
    ((∀ y ∈ N.l, (y.1 : Int) ≠ id) ∧ Ret (.tuple #[r.agg, msg0.agg, .int .i64 8]) (Sat (Ro W S :: F)) e w') ∨
    ∃ (k : Nat) (y : Nat × (Deep W).α) (m : Mg) (S' : Mem) (r' : Rn), N.l[k]? = some y ∧ (y.1 : Int) = id ∧ Ext S S' ∧ DeepQ S' m y.2 ∧ RNet W B S' (N.erase k) r' ∧ Ret (.tuple #[r'.agg, m.agg, .int .i64 0]) (Sat (Ro W S' :: F)) e w' := by
  have hll := hr.ll
  obtain ⟨pm, hp, hcr⟩ := hr.l
  refine S_ref24_Take_ok _ _ _ _ _ _ _ _ _ _ _ _ ?_
  unfold S_ref24_Take
  refine NewC.ofRow hs fun b0 w1 h1 => NewC.ofRow h1 fun b1 w2 h2 => NewC.ofRow h2 fun b2 w3 h3 => ?_
  have h3 : Sat (Row b2 msg0.cells 37 :: Row b1 [.int .i64 0, .slice none 0 0, .int .i64 0, .slice none 0 0, .int .i64 0] 58 :: Row b0 r.cells 58 :: Ro W S :: F) w3 := h3
  clear h1 h2
  refine ldRn h3 2 rfl ?_
  refine (rfind_c hr (h3.pull 3 rfl)).mono ?_
  rintro e w4 ⟨i, hi, rfl, h4⟩
  refine ⟨_, rfl, ?_⟩
  have h5 : Sat (Row b2 msg0.cells 37 :: Row b1 [.int .i64 0, .slice none 0 0, .int .i64 0, .slice none 0 0, .int .i64 0] 58 :: Row b0 r.cells 58 :: Ro W S :: F) w4 := by
    have a1 := h4.pull 3 rfl
    have a2 := a1.pull 3 rfl
    exact a2.pull 3 rfl
  clear h3 h4
  rcases hi with ⟨rfl, hno⟩ | ⟨k, y, rfl, hy, hid⟩
  · refine cond_t rfl ?_
    refine ldRn h5 2 rfl ?_
    refine stRow5 h5 1 rfl fun w5 h6 => ?_
    refine stMsg (m := msg0) h6 0 rfl fun w6 h7 => ?_
    refine ldRn (r := r) h7 1 rfl ?_
    refine ldMsgRow (m := msg0) h7 0 rfl ?_
    exact .inl ⟨hno, rfl, h7.drop.drop.drop⟩
  · have hlt := get_lt hy
    obtain ⟨x, hx1, hx2, hx3⟩ := hp.get hy
    refine cond_f (by simp) ?_
    refine LdS.of h5 2 rfl (off := 1) rfl (by simp [add_mk]) (hcr.idx (h5.has 3 rfl) (by omega) (by omega) fun a1 h => ?_)
    refine ldMsg (m := x.2) (fun j v hj => ?_) ?_
    · have hj17 : j < 17 := by have := get_lt hj; rw [Mg.len] at this; exact this
      rw [add_add, Nat.add_comm 1 j]
      refine h (j + 1) v (by omega) ?_
      rw [pcells_get hx1 (by omega), List.getElem?_cons_succ]
      exact hj
    refine NewC.ofRow h5 fun b3 w5 h6 => stMsg (m := x.2) h6 0 rfl fun w6 h7 => ?_
    have h8 : Sat (Row b3 x.2.cells 37 :: Row b2 msg0.cells 37 :: Row b1 [.int .i64 0, .slice none 0 0, .int .i64 0, .slice none 0 0, .int .i64 0] 58 :: Row b0 r.cells 58 :: Ro W S :: F) w6.drew := h7.drew
    refine ⟨fun w => ∃ L i j, L[i]? = some (Row b0 r.cells 58) ∧ L[j]? = some (Row b3 x.2.cells 37) ∧ Sat L w, ⟨_, 3, 0, rfl, rfl, h8⟩, ?_⟩
    refine ⟨r.m, r.lp, r.ll, r.lc, r.la, r.cp, r.cl, r.cc, r.lo, fun w ⟨L, i, j, hi, hj, h⟩ => ldRn h i hi rfl, ?_⟩
    refine ⟨x.2.kind, x.2.from_, x.2.to, x.2.view, x.2.op, x.2.commit, x.2.base, x.2.normal, x.2.nonce, x.2.lp, x.2.ll, x.2.lc, x.2.ip, x.2.il, x.2.ic, x.2.ec, x.2.en, x.2.et, x.2.re, x.2.rn, x.2.dp, x.2.dl, x.2.dc, fun w ⟨L, i, j, hi, hj, h⟩ => ldMsgRow (m := x.2) h j hj rfl, ?_⟩
    refine (rwithout_c hr hlt (h8.pull 4 rfl)).mono ?_
    rintro e w7 ⟨S', r', e1, hr', rfl, h9⟩
    refine ⟨_, _, _, _, _, _, _, _, _, rfl, ⟨_, 4, 1, rfl, rfl, h9⟩, ?_⟩
    refine stRow5 (c0 := .int .i64 0) (c1 := .slice none 0 0) (c2 := .int .i64 0) (c3 := .slice none 0 0) (c4 := .int .i64 0) h9 3 rfl fun w8 h10 => ⟨⟨_, 4, 1, rfl, rfl, h10⟩, ?_⟩
    refine stMsg (m := x.2) h10 2 rfl fun w9 h11 => ?_
    refine ldRn (r := r') h11 3 rfl ?_
    refine ldMsgRow (m := x.2) h11 2 rfl ?_
    refine .inr ⟨k, y, x.2, S', r', hy, hid, e1, DeepQ.mono e1 hx3, hr', rfl, ?_⟩
    have a1 := (h11.pull 1 rfl).drop
    have a2 := (a1.pull 1 rfl).drop
    have a3 := (a2.pull 1 rfl).drop
    exact (a3.pull 1 rfl).drop

theorem rcopy_c (hr : RNet W B S N r) (hlen : N.most ≤ 100000) (hlast : N.last + 1 < 9223372036854775808) {id : Int} (hs : Sat (Ro W S :: F) w) : Calls Try.prog 25 #[r.agg, .int .i64 id] w fun e w' =>
    ((∀ y ∈ N.l, (y.1 : Int) ≠ id) ∧ Ret (.tuple #[r.agg, .int .i64 0, .int .i64 8]) (Sat (Ro W S :: F)) e w') ∨
    ∃ (k : Nat) (y : Nat × (Deep W).α), N.l[k]? = some y ∧ (y.1 : Int) = id ∧ if N.most ≤ N.l.length then Ret (.tuple #[r.agg, .int .i64 0, .int .i64 5]) (Sat (Ro W S :: F)) e w'
      else ∃ S' r', Ext S S' ∧ RNet W B S' (N.add y.2) r' ∧ Ret (.tuple #[r'.agg, .int .i64 ((N.last + 1 : Nat) : Int), .int .i64 0]) (Sat (Ro W S' :: F)) e w' := by
  have hll := hr.ll; have hm := hr.m
  obtain ⟨pm, hp, hcr⟩ := hr.l
  refine S_ref24_Copy_ok _ _ _ _ _ _ _ _ _ _ _ _ ?_
  unfold S_ref24_Copy
  refine NewC.ofRow hs fun b0 w1 h1 => NewC.ofRow h1 fun b1 w2 h2 => ?_
  have h3 : Sat (Row b1 [.int .i64 0, .slice none 0 0, .int .i64 0, .slice none 0 0, .int .i64 0] 58 :: Row b0 r.cells 58 :: Ro W S :: F) w2 := h2
  clear h1 h2
  refine ldRn h3 1 rfl ?_
  refine (rfind_c hr (h3.pull 2 rfl)).mono ?_
  rintro e w4 ⟨i, hi, rfl, h4⟩
  refine ⟨_, rfl, ?_⟩
  have h5 : Sat (Row b1 [.int .i64 0, .slice none 0 0, .int .i64 0, .slice none 0 0, .int .i64 0] 58 :: Row b0 r.cells 58 :: Ro W S :: F) w4 := by
    have a1 := h4.pull 2 rfl
    exact a1.pull 2 rfl
  clear h3 h4
  rcases hi with ⟨rfl, hno⟩ | ⟨k, y, rfl, hy, hid⟩
  · refine cond_t rfl ?_
    refine mvRn (r := r) h5 1 rfl 0 rfl fun w5 h6 => ?_
    exact .inl ⟨hno, rfl, h6.drop.drop⟩
  · have hlt := get_lt hy
    obtain ⟨x, hx1, hx2, hx3⟩ := hp.get hy
    refine cond_f (by simp) ?_
    refine LdS.of h5 1 rfl (off := 1) rfl (by simp [add_mk]) (LdI.of h5 1 rfl (off := 0) rfl (by simp [add_mk]) ?_)
    by_cases hf : N.most ≤ N.l.length
    · refine cond_t (by simp; omega) ?_
      refine mvRn (r := r) h5 1 rfl 0 rfl fun w5 h6 => ?_
      refine .inr ⟨k, y, hy, hid, ?_⟩
      rw [if_pos hf]
      exact ⟨rfl, h6.drop.drop⟩
    · refine cond_f (by simp; omega) ?_
      have h6 := h5.drew
      refine ldRn h6 1 rfl ?_
      refine LdS.of h6 1 rfl (off := 1) rfl (by simp [add_mk]) (hcr.idx (h6.has 2 rfl) (by omega) (by omega) fun a1 h => ?_)
      refine ldMsg (m := x.2) (fun j v hj => ?_) ?_
      · have hj17 : j < 17 := by have := get_lt hj; rw [Mg.len] at this; exact this
        rw [add_add, Nat.add_comm 1 j]
        refine h (j + 1) v (by omega) ?_
        rw [pcells_get hx1 (by omega), List.getElem?_cons_succ]
        exact hj
      refine (radd_c hr hx3 (by omega) hlast (h6.pull 2 rfl)).mono ?_
      rintro e w6 ⟨S', r', e2, hr', rfl, h7⟩
      refine ⟨_, _, _, _, _, _, _, _, _, rfl, ?_⟩
      refine stRow5 (c0 := .int .i64 r.m) (c1 := .slice r.lp r.ll r.lc) (c2 := .int .i64 r.la) (c3 := .slice r.cp r.cl r.cc) (c4 := .int .i64 r.lo) h7 2 rfl fun w7 h8 => ?_
      have h8 : Sat (Ro W S' :: Row b1 [.int .i64 0, .slice none 0 0, .int .i64 0, .slice none 0 0, .int .i64 0] 58 :: Row b0 r'.cells 58 :: F) w7.drew := h8.drew
      refine ⟨fun w => ∃ L i, L[i]? = some (Row b0 r'.cells 58) ∧ Sat L w, ⟨_, 2, rfl, h8⟩, ?_⟩
      refine ⟨r'.m, r'.lp, r'.ll, r'.lc, r'.la, r'.cp, r'.cl, r'.cc, r'.lo, fun w ⟨L, i, hi, h⟩ => ldRn h i hi rfl, ?_⟩
      refine ⟨r'.la, fun w ⟨L, i, hi, h⟩ => LdI.of h i hi (off := 2) rfl (by simp [add_mk]) rfl, ?_⟩
      refine stRow5 h8 1 rfl fun w8 h9 => ⟨⟨_, 2, rfl, h9⟩, ?_⟩
      refine ldRn (r := r') h9 1 rfl ?_
      have ela : r'.la = ((N.last + 1 : Nat) : Int) := hr'.la
      refine .inr ⟨k, y, hy, hid, ?_⟩
      rw [if_neg hf]
      refine ⟨S', r', e2, hr', ?_, ?_⟩
      · show Ending.returned (.tuple #[r'.agg, .int .i64 r'.la, .int .i64 0]) = _
        rw [ela]
      · exact (((h9.pull 1 rfl).drop).pull 1 rfl).drop

theorem rdrop_c (hr : RNet W B S N r) (hlost : N.lost + 1 < 9223372036854775808) {id : Int} (hs : Sat (Ro W S :: F) w) : Calls Try.prog 26 #[r.agg, .int .i64 id] w fun e w' =>
    ((∀ y ∈ N.l, (y.1 : Int) ≠ id) ∧ Ret (.tuple #[r.agg, .int .i64 8]) (Sat (Ro W S :: F)) e w') ∨
    ∃ (k : Nat) (y : Nat × (Deep W).α) (S' : Mem) (r' : Rn), N.l[k]? = some y ∧ (y.1 : Int) = id ∧ Ext S S' ∧ RNet W B S' (N.erase k).lose r' ∧ Ret (.tuple #[r'.agg, .int .i64 0]) (Sat (Ro W S' :: F)) e w' := by
  have hll := hr.ll; have hm := hr.m
  refine S_ref24_Drop_ok _ _ _ _ _ _ _ _ _ _ _ _ ?_
  unfold S_ref24_Drop
  refine NewC.ofRow hs fun b0 w1 h1 => NewC.ofRow h1 fun b1 w2 h2 => ?_
  have h3 : Sat (Row b1 [.int .i64 0, .slice none 0 0, .int .i64 0, .slice none 0 0, .int .i64 0] 58 :: Row b0 r.cells 58 :: Ro W S :: F) w2 := h2
  clear h1 h2
  refine ldRn h3 1 rfl ?_
  refine (rfind_c hr (h3.pull 2 rfl)).mono ?_
  rintro e w4 ⟨i, hi, rfl, h4⟩
  refine ⟨_, rfl, ?_⟩
  have h5 : Sat (Row b1 [.int .i64 0, .slice none 0 0, .int .i64 0, .slice none 0 0, .int .i64 0] 58 :: Row b0 r.cells 58 :: Ro W S :: F) w4 := by
    have a1 := h4.pull 2 rfl
    exact a1.pull 2 rfl
  clear h3 h4
  rcases hi with ⟨rfl, hno⟩ | ⟨k, y, rfl, hy, hid⟩
  · refine cond_t rfl ?_
    refine mvRn (r := r) h5 1 rfl 0 rfl fun w5 h6 => ?_
    exact .inl ⟨hno, rfl, h6.drop.drop⟩
  · have hlt := get_lt hy
    refine cond_f (by simp) ?_
    refine ldRn h5 1 rfl ?_
    refine (rwithout_c hr hlt (h5.pull 2 rfl)).mono ?_
    rintro e w6 ⟨S', r', e2, hr', rfl, h7⟩
    refine ⟨_, _, _, _, _, _, _, _, _, rfl, ?_⟩
    refine stRow5 (c0 := .int .i64 r.m) (c1 := .slice r.lp r.ll r.lc) (c2 := .int .i64 r.la) (c3 := .slice r.cp r.cl r.cc) (c4 := .int .i64 r.lo) h7 2 rfl fun w7 h8 => ?_
    have h8 : Sat (Ro W S' :: Row b1 [.int .i64 0, .slice none 0 0, .int .i64 0, .slice none 0 0, .int .i64 0] 58 :: Row b0 r'.cells 58 :: F) w7 := h8
    refine LdI.of h8 2 rfl (off := 4) rfl (by simp [add_mk]) ?_
    have hlo : r'.lo = N.lost := hr'.lost
    have e1 : IntKind.wrap .i64 (r'.lo + 1) = ((N.lost + 1 : Nat) : Int) := by rw [hlo, wrapI64 (by omega) (by omega)]; omega
    rw [e1]
    refine StC.of h8 2 rfl (off := 4) rfl (by simp [add_mk]) fun w8 h9 => ?_
    refine mvRn (r := { r' with lo := ((N.lost + 1 : Nat) : Int) }) h9 2 rfl 1 rfl fun w9 h10 => ?_
    refine .inr ⟨k, y, S', _, hy, hid, e2, hr'.lose, rfl, ?_⟩
    exact (((h10.pull 1 rfl).drop).pull 1 rfl).drop

theorem rCut_c (hr : RNet W B S N r) (hB : B + 1 ≤ 1048576) (a b : Int) (on : Bool) (hs : Sat (Ro W S :: F) w) : Calls Try.prog 27 #[r.agg, .int .i64 a, .int .i64 b, .bool on] w fun e w' =>
    ∃ S' r', Ext S S' ∧ RNet W (B + 1) S' (N.cut a b on) r' ∧ Ret r'.agg (Sat (Ro W S' :: F)) e w' := by
  obtain ⟨cs, hl, hcB, hc, ho⟩ := hr.c
  have hlim := hc.lim
  refine S_ref24_Cut_ok _ _ _ _ _ _ _ _ _ _ _ _ _ _ ?_
  unfold S_ref24_Cut
  refine NewC.ofRow hs fun b1 w1 h1 => NewC.ofRow h1 fun b2 w2 h2 => ?_
  have h2 : Sat (Row b2 [.int .i64 0, .slice none 0 0, .int .i64 0, .slice none 0 0, .int .i64 0] 58 :: Row b1 r.cells 58 :: Ro W S :: F) w2 := h2
  refine ⟨fun p l c i w => ∃ q : Nat, i = q ∧ q ≤ cs.length ∧ l = ((cs.take q).filter fun z => !hit a b z).length ∧
      Sat (Own 91 2 p l c (ccells ((cs.take q).filter fun z => !hit a b z)) :: Row b2 [.int .i64 0, .slice none 0 0, .int .i64 0, .slice none 0 0, .int .i64 0] 58 :: Row b1 r.cells 58 :: Ro W S :: F) w,
    fun _ _ _ i _ => (cs.length - i).toNat, ⟨0, rfl, by omega, rfl, h2.ownNil _ _⟩, ?_⟩
  clear h1 h2
  have fin : ∀ (p : Option Addr) (c : Nat) (zs : List (Int × Int)) (w' : World), zs = (cs.filter fun z => !hit a b z) ++ (bif on then [(a, b)] else []) → Sat (Own 91 2 p zs.length c (ccells zs) :: Ro W S :: F) w' →
      ∃ S', Ext S S' ∧ RNet W (B + 1) S' (N.cut a b on) ({ r with cp := p, cl := zs.length, cc := c } : Rn) ∧ Sat (Ro W S' :: F) w' := by
    intro p c zs w' hz h
    have hcap := h.own_cap 0 rfl
    obtain ⟨S', e2, h6, h7⟩ := Sat.freezeAny h
    obtain ⟨pm, q1, q2⟩ := hr.l
    have hzl : zs.length ≤ B + 1 := by
      rw [hz, List.length_append]
      have := List.length_filter_le (fun z => !hit a b z) cs
      cases on <;> simp <;> omega
    refine ⟨S', e2, ⟨hr.m, hr.la, hr.lo, hr.ll, ⟨pm, q1.mono e2, q2.mono e2⟩, ⟨zs, rfl, hzl, ⟨ccells_len zs, by first | omega | (dsimp only; omega), hcap, ccells_one zs, h6⟩, fun x y => ?_⟩⟩, h7⟩
    rw [hz]
    exact cuts_law cs N.off ho a b on x y
  rintro p l c i w3 ⟨q, rfl, hq, rfl, h3⟩
  unfold S_ref24_Cut_l0
  refine LdS.of h3 2 rfl (off := 3) rfl (by simp [add_mk]) ?_
  have hfl := List.length_filter_le (fun z => !hit a b z) (cs.take q)
  rw [List.length_take] at hfl
  by_cases hql : q < cs.length
  · refine cond_t (by simp; omega) ?_
    intro k0 hk0
    have hx : cs[q]? = some cs[q] := List.getElem?_eq_getElem hql
    generalize cs[q] = x at hx
    obtain ⟨g1, g2⟩ := ccells_get hx
    have ht : cs.take (q + 1) = cs.take q ++ [x] := by rw [List.take_add_one, hx]; rfl
    have hidx : ∀ K : Addr → Prop, (∀ a, w3.cell? a = some (.int .i64 x.1) → w3.cell? (a.add 1) = some (.int .i64 x.2) → K a) → IdxC r.cp r.cl (q : Int) 2 K := fun K hk =>
      hc.idx (h3.has 3 rfl) (by omega) (by omega) fun a h => hk a (by simpa [Addr.add] using h 0 _ (by omega) g1) (h 1 _ (by omega) g2)
    have skip : hit a b x = true → k0 p ((cs.take q).filter fun z => !hit a b z).length c w3 := by
      intro hh
      refine hk0 _ _ _ _ ?_
      unfold S_ref24_Cut_j0
      rw [wrapI64 (by omega) (by omega)]
      have e1 : ((cs.take (q + 1)).filter fun z => !hit a b z) = ((cs.take q).filter fun z => !hit a b z) := by rw [ht, List.filter_append]; simp [hh]
      refine ⟨⟨q + 1, by omega, by omega, by rw [e1], ?_⟩, by first | omega | (dsimp only; omega)⟩
      rw [e1]; exact h3
    refine LdS.of h3 2 rfl (off := 3) rfl (by simp [add_mk]) (hidx _ fun a1 c1 c2 => LdI.at c1 (LdI.at c2 ?_))
    refine a2.neqR a2g ?_
    cases h : (x.1 == a && x.2 == b)
    · refine cond_t rfl ?_
      refine LdS.of h3 2 rfl (off := 3) rfl (by simp [add_mk]) (hidx _ fun a1 c1 c2 => LdI.at c1 (LdI.at c2 ?_))
      refine a2.neqR a2g ?_
      cases h' : (x.1 == b && x.2 == a)
      · refine cond_t rfl ?_
        refine LdS.of h3 2 rfl (off := 3) rfl (by simp [add_mk]) (hidx _ fun a1 c1 c2 => LdI.at c1 (LdI.at c2 ?_))
        have hh : hit a b x = false := by simp [hit, h, h']
        refine RunS.one eok_pr h3 0 rfl (by rfl) (by rfl) (by omega) (by simp only [maxLen]; omega) fun p' c' w4 h4 => ?_
        refine hk0 _ _ _ _ ?_
        unfold S_ref24_Cut_j0
        rw [wrapI64 (by omega) (by omega)]
        have e1 : ((cs.take (q + 1)).filter fun z => !hit a b z) = ((cs.take q).filter fun z => !hit a b z) ++ [x] := by rw [ht, List.filter_append]; simp [hh]
        have e2 : ccells ((cs.take (q + 1)).filter fun z => !hit a b z) = ccells ((cs.take q).filter fun z => !hit a b z) ++ [.int .i64 x.1, .int .i64 x.2] := by rw [e1]; simp [ccells]
        refine ⟨⟨q + 1, by omega, by omega, by rw [e1, List.length_append, List.length_singleton], ?_⟩, by first | omega | (dsimp only; omega)⟩
        rw [e2]; exact h4
      · exact cond_f rfl (skip (by simp [hit, h, h']))
    · exact cond_f rfl (skip (by simp [hit, h]))
  · have hqe : q = cs.length := by omega
    subst hqe
    refine cond_f (by simp; omega) ?_
    rw [List.take_length] at h3 hfl ⊢
    cases on
    · refine cond_f rfl ?_
      refine StC.of h3 2 rfl (off := 3) rfl (by simp [add_mk]) fun w5 h6 => ?_
      refine mvRn (r := { r with cp := p, cl := (cs.filter fun z => !hit a b z).length, cc := c }) h6 2 rfl 1 rfl fun w6 h7 => ?_
      obtain ⟨S', q1, q2, q3⟩ := fin p c (cs.filter fun z => !hit a b z) w6 (by simp) (((h7.pull 1 rfl).drop.pull 1 rfl).drop)
      exact ⟨S', _, q1, q2, rfl, q3⟩
    · refine cond_t rfl ?_
      refine RunS.one eok_pr h3 0 rfl (by rfl) (by rfl) (by omega) (by simp only [maxLen]; omega) fun p' c' w4 h4 => ?_
      have e2 : ccells ((cs.filter fun z => !hit a b z) ++ [(a, b)]) = ccells (cs.filter fun z => !hit a b z) ++ [.int .i64 a, .int .i64 b] := by simp [ccells]
      have e3 : ((cs.filter fun z => !hit a b z) ++ [(a, b)]).length = (cs.filter fun z => !hit a b z).length + 1 := by simp
      refine StC.of h4 2 rfl (off := 3) rfl (by simp [add_mk]) fun w5 h6 => ?_
      refine mvRn (r := { r with cp := p', cl := (cs.filter fun z => !hit a b z).length + 1, cc := c' }) h6 2 rfl 1 rfl fun w6 h7 => ?_
      obtain ⟨S', q1, q2, q3⟩ := fin p' c' ((cs.filter fun z => !hit a b z) ++ [(a, b)]) w6 (by simp) (by rw [e2, e3]; exact (((h7.pull 1 rfl).drop.pull 1 rfl).drop))
      rw [e3] at q2
      exact ⟨S', _, q1, q2, rfl, q3⟩
end
end Go.Proofs.Ytjpaoggcphfjeaa
