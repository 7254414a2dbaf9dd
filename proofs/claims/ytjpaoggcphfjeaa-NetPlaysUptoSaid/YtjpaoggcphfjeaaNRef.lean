/- The document's own net (ref24): what its functions come to, over memory that stands. -/
import Derived.Test.YtjpaoggcphfjeaaNCounts
namespace Go.Lw
open Go Go.Tb
theorem CRs.idx {S : Mem} {s : Nat} {xs : List Value} {p : Option Addr} {l c : Nat} (h : CRs S s xs p l c) {w : World} (hw : Has S w) {q : Nat} (hq : q < l) (hs : 0 < s) {K : Addr → Prop}
    (hk : ∀ a, (∀ j v, j < s → xs[q * s + j]? = some v → w.cell? (a.add j) = some v) → K a) : IdxC p l (q : Int) s K := by
  have hlen := h.len
  have hlt : q * s < xs.length := by rw [hlen]; exact Nat.mul_lt_mul_of_pos_right hq hs
  obtain ⟨a, rfl, _⟩ := h.reads (q * s) _ (List.getElem?_eq_getElem hlt)
  refine ⟨by omega, by omega, hk _ fun j v hj hv => ?_⟩
  obtain ⟨b, e1, h2⟩ := h.reads _ v hv
  cases e1
  rw [add_add, Int.toNat_natCast]
  exact h2 w hw
theorem CRs.upto {S : Mem} {s : Nat} {xs : List Value} {p : Option Addr} {l c : Nat} (h : CRs S s xs p l c) {k : Nat} (hk : k ≤ l) : CRs S s (xs.take (k * s)) p k c := by
  have h0 := h.cap; have h1 := h.lim
  refine ⟨?_, by omega, by omega, fun u hu => h.one u (List.mem_of_mem_take hu), fun j v hj => h.reads j v ?_⟩
  · rw [List.length_take, h.len]
    have : k * s ≤ l * s := Nat.mul_le_mul_right s hk
    omega
  · have := get_lt hj
    rw [List.length_take] at this
    rw [List.getElem?_take_of_lt (by omega)] at hj
    exact hj
theorem CRs.from {S : Mem} {s : Nat} {xs : List Value} {p : Option Addr} {l c : Nat} (h : CRs S s xs p l c) {k : Nat} (hk : k ≤ l) : CRs S s (xs.drop (k * s)) (slAddr p c k s) (l - k) (c - k) := by
  have h0 := h.cap; have h1 := h.lim
  refine ⟨?_, by omega, by omega, fun u hu => h.one u (List.mem_of_mem_drop hu), fun j v hj => ?_⟩
  · rw [List.length_drop, h.len, Nat.sub_mul]
  · rw [List.getElem?_drop] at hj
    obtain ⟨a, h2, h3⟩ := h.reads _ v hj
    have hlt := get_lt hj
    rw [h.len] at hlt
    have hne : c ≠ k := by
      intro e
      have : l = k := by omega
      subst this
      omega
    refine ⟨a.add (k * s), by unfold slAddr; rw [if_neg hne, h2]; rfl, ?_⟩
    rw [add_add]
    exact h3
structure A2 (P : Program) (t e : TypeId) : Prop where
  under : P.underlying t = some (.array 2 e)
  elem : ∃ i, P.info? e = some i
  int : P.underlying e = some (.int .i64)
  one : P.cellsOf e = 1
theorem A2.equal {P : Program} {t e : TypeId} (h : A2 P t e) (w : World) (a b c d : Int) : (Op.equal t (.agg #[.int .i64 a, .int .i64 b]) (.agg #[.int .i64 c, .int .i64 d])).run P w = .ok (a == c && b == d) w := by
  obtain ⟨i, hi⟩ := h.elem
  have a1 := run_isAgg (P := P) (w := w) (t := e) (by rw [h.int]; simp)
  have b1 : isAggB P e = false := by simp [isAggB, h.int]
  rw [b1] at a1
  have p : ∀ x y : Int, (part e #[.int .i64 x, .int .i64 y] 0).run P w = .ok (.int .i64 x) w := fun x y => by simp [part, a1]
  have p' : ∀ x y : Int, (part e #[.int .i64 x, .int .i64 y] 1).run P w = .ok (.int .i64 y) w := fun x y => by simp [part, a1]
  have h1 := run_equalIn_array w 9999 #[.int .i64 a, .int .i64 b] #[.int .i64 c, .int .i64 d] h.under hi
  have h2 : (Op.equal t (.agg #[.int .i64 a, .int .i64 b]) (.agg #[.int .i64 c, .int .i64 d])).run P w = (Op.equalIn (9999 + 1) t (.agg #[.int .i64 a, .int .i64 b]) (.agg #[.int .i64 c, .int .i64 d])).run P w := rfl
  rw [h2, h1]
  simp only [show List.range 2 = [0, 1] from rfl, Op.eqItems, Sem.run_bind, Nat.zero_mul, Nat.one_mul, h.one, p, p', Result.andThen_ok, run_equalIn_int w 9998 _ _ _ _ _ h.int]
  by_cases h1 : a = c
  · by_cases h2 : b = d <;> simp [h1, h2, p', run_equalIn_int w 9998 _ _ _ _ _ h.int]
  · simp [h1]
theorem A2.eqR {P : Program} {t e : TypeId} (h : A2 P t e) (hg : P.eqGuardType P.depth t = false) {a b c d : Int} {K : Bool → Prop} (hk : K (a == c && b == d)) : EqR P .eql t (.agg #[.int .i64 a, .int .i64 b]) (.agg #[.int .i64 c, .int .i64 d]) K :=
  ⟨_, hg, fun w => by simp only [binOp, Sem.run_bind, h.equal w a b c d, Result.andThen_ok, Sem.run_pure], hk⟩
theorem A2.neqR {P : Program} {t e : TypeId} (h : A2 P t e) (hg : P.eqGuardType P.depth t = false) {a b c d : Int} {K : Bool → Prop} (hk : K (!(a == c && b == d))) : EqR P .neq t (.agg #[.int .i64 a, .int .i64 b]) (.agg #[.int .i64 c, .int .i64 d]) K :=
  ⟨_, hg, fun w => by simp only [binOp, Sem.run_bind, h.equal w a b c d, Result.andThen_ok, Sem.run_pure], hk⟩
end Go.Lw
namespace Go.Proofs.Ytjpaoggcphfjeaa
open Go Go.Lw Go.Tb Go.Wd Go.Vd

set_option maxRecDepth 100000 in
theorem a2 : A2 Try.prog 91 3 := ⟨by kernel_rfl, ⟨_, rfl⟩, by kernel_rfl, by kernel_rfl⟩
theorem a2g : Try.prog.eqGuardType Try.prog.depth 91 = false := by kernel_rfl
set_option maxRecDepth 100000 in
theorem eok_rp : EOK Try.prog 55 88 18 200 := ⟨by kernel_rfl, ⟨_, _, rfl, rfl, rfl, rfl, rfl⟩, by omega⟩
set_option maxRecDepth 100000 in
theorem eok_pr : EOK Try.prog 56 91 2 16 := ⟨by kernel_rfl, ⟨_, _, rfl, rfl, rfl, rfl, rfl⟩, by omega⟩

/-- the document's net, as it lies in its five cells. -/
structure Rn where
  m : Int
  lp : Option Addr
  ll : Nat
  lc : Nat
  la : Int
  cp : Option Addr
  cl : Nat
  cc : Nat
  lo : Int
def Rn.cells (r : Rn) : List Value := [.int .i64 r.m, .slice r.lp r.ll r.lc, .int .i64 r.la, .slice r.cp r.cl r.cc, .int .i64 r.lo]
def Rn.agg (r : Rn) : Value := .agg #[.int .i64 r.m, .slice r.lp r.ll r.lc, .int .i64 r.la, .slice r.cp r.cl r.cc, .int .i64 r.lo]
section
variable {L : List HP} {w : World} {b b' T T' : Nat}
theorem ldRn {r : Rn} {K : Int → Option Addr → Nat → Nat → Int → Option Addr → Nat → Nat → Int → Prop} (hs : Sat L w) (i : Nat) (hi : L[i]? = some (Row b r.cells T)) (h : K r.m r.lp r.ll r.lc r.la r.cp r.cl r.cc r.lo) :
    LdI .i64 w ⟨b, 0, none⟩ fun n => LdS w (Addr.add ⟨b, 0, none⟩ 1) fun p l c => LdI .i64 w (Addr.add ⟨b, 0, none⟩ 2) fun n1 => LdS w (Addr.add ⟨b, 0, none⟩ 3) fun q m d => LdI .i64 w (Addr.add ⟨b, 0, none⟩ 4) fun n2 => K n p l c n1 q m d n2 := by
  simp only [add_mk, Nat.zero_add]
  exact LdI.of hs i hi (off := 0) rfl rfl (LdS.of hs i hi (off := 1) rfl rfl (LdI.of hs i hi (off := 2) rfl rfl (LdS.of hs i hi (off := 3) rfl rfl (LdI.of hs i hi (off := 4) rfl rfl h))))
/-- a whole net moved from one variable to another, and read there. -/
theorem mvRn {r : Rn} {c0 c1 c2 c3 c4 : Value} {K : Int → Option Addr → Nat → Nat → Int → Option Addr → Nat → Nat → Int → World → Prop} (hs : Sat L w) (i : Nat) (hi : L[i]? = some (Row b r.cells T)) (j : Nat) (hj : L[j]? = some (Row b' [c0, c1, c2, c3, c4] T'))
    (h : ∀ w', Sat (L.set j (Row b' r.cells T')) w' → K r.m r.lp r.ll r.lc r.la r.cp r.cl r.cc r.lo w') :
    LdI .i64 w ⟨b, 0, none⟩ fun n => LdS w (Addr.add ⟨b, 0, none⟩ 1) fun p l c => LdI .i64 w (Addr.add ⟨b, 0, none⟩ 2) fun n1 => LdS w (Addr.add ⟨b, 0, none⟩ 3) fun q m d => LdI .i64 w (Addr.add ⟨b, 0, none⟩ 4) fun n2 =>
    StC w ⟨b', 0, none⟩ (.int .i64 n) fun w => StC w (Addr.add ⟨b', 0, none⟩ 1) (.slice p l c) fun w => StC w (Addr.add ⟨b', 0, none⟩ 2) (.int .i64 n1) fun w => StC w (Addr.add ⟨b', 0, none⟩ 3) (.slice q m d) fun w => StC w (Addr.add ⟨b', 0, none⟩ 4) (.int .i64 n2) fun w =>
    LdI .i64 w ⟨b', 0, none⟩ fun n => LdS w (Addr.add ⟨b', 0, none⟩ 1) fun p l c => LdI .i64 w (Addr.add ⟨b', 0, none⟩ 2) fun n1 => LdS w (Addr.add ⟨b', 0, none⟩ 3) fun q m d => LdI .i64 w (Addr.add ⟨b', 0, none⟩ 4) fun n2 => K n p l c n1 q m d n2 w := by
  refine ldRn hs i hi ?_
  refine stRow5 hs j hj fun w1 h1 => ?_
  exact ldRn (r := r) h1 j (get_set_self hj) (h w1 h1)
end

def hit (a b : Int) (x : Int × Int) : Bool := (x.1 == a && x.2 == b) || (x.1 == b && x.2 == a)
def ccells (l : List (Int × Int)) : List Value := l.flatMap fun x => [.int .i64 x.1, .int .i64 x.2]
theorem ccells_len (l : List (Int × Int)) : (ccells l).length = l.length * 2 := by
  induction l with
  | nil => rfl
  | cons x l ih => unfold ccells at ih ⊢; rw [List.flatMap_cons, List.length_append, ih]; simp; omega
theorem ccells_one (l : List (Int × Int)) : ∀ u ∈ ccells l, u.oneCell' = true := by
  intro u hu
  obtain ⟨x, _, hx⟩ := List.mem_flatMap.1 hu
  simp only [List.mem_cons, List.not_mem_nil, or_false] at hx
  rcases hx with rfl | rfl <;> rfl
theorem ccells_get : ∀ {l : List (Int × Int)} {q : Nat} {x : Int × Int}, l[q]? = some x → (ccells l)[q * 2 + 0]? = some (.int .i64 x.1) ∧ (ccells l)[q * 2 + 1]? = some (.int .i64 x.2)
  | [], _, _, h => by simp at h
  | y :: l, 0, x, h => by
    simp only [List.getElem?_cons_zero, Option.some.injEq] at h
    subst h
    exact ⟨rfl, rfl⟩
  | y :: l, q + 1, x, h => by
    simp only [List.getElem?_cons_succ] at h
    have ih := ccells_get h
    have e : ccells (y :: l) = .int .i64 y.1 :: .int .i64 y.2 :: ccells l := rfl
    rw [e, show (q + 1) * 2 + 0 = q * 2 + 0 + 1 + 1 by omega, show (q + 1) * 2 + 1 = q * 2 + 1 + 1 + 1 by omega]
    simp only [List.getElem?_cons_succ]
    exact ih

/-- the document's net is as it is meant; 'B': no more cuts than so. -/
structure RNet (W : World) (B : Nat) (S : Mem) (N : Nt (Deep W).α) (r : Rn) : Prop where
  m : r.m = N.most
  la : r.la = N.last
  lo : r.lo = N.lost
  ll : r.ll = N.l.length
  l : ∃ pm, Pks (Deep W) S pm N.l ∧ CRs S 18 (pcells pm) r.lp r.ll r.lc
  c : ∃ cs : List (Int × Int), r.cl = cs.length ∧ cs.length ≤ B ∧ CRs S 2 (ccells cs) r.cp r.cl r.cc ∧ ∀ a b, N.off (min a b) (max a b) = cs.any (hit a b)
theorem RNet.mono {W : World} {B B' : Nat} {S S' : Mem} {N : Nt (Deep W).α} {r : Rn} (h : RNet W B S N r) (e : Ext S S') (hB : B ≤ B') : RNet W B' S' N r := by
  obtain ⟨pm, h1, h2⟩ := h.l
  obtain ⟨cs, h3, h4, h5, h6⟩ := h.c
  exact ⟨h.m, h.la, h.lo, h.ll, ⟨pm, h1.mono e, h2.mono e⟩, ⟨cs, h3, by omega, h5.mono e, h6⟩⟩
theorem RNet.lose {W : World} {B : Nat} {S : Mem} {N : Nt (Deep W).α} {r : Rn} (h : RNet W B S N r) : RNet W B S N.lose { r with lo := ((N.lost + 1 : Nat) : Int) } := ⟨h.m, h.la, rfl, h.ll, h.l, h.c⟩

section
variable {W : World} {B : Nat} {S : Mem} {N : Nt (Deep W).α} {r : Rn} {F : List HP} {w : World}
theorem rcut_c (hr : RNet W B S N r) (a b : Int) (hs : Sat (Ro W S :: F) w) : Calls Try.prog 34 #[r.agg, .int .i64 a, .int .i64 b] w (Ret (.bool (N.off (min a b) (max a b))) (Sat (Ro W S :: F))) := by
  obtain ⟨cs, hl, _, hc, ho⟩ := hr.c
  have hlim := hc.lim
  rw [ho]
  refine S_ref24_cut_ok _ _ _ _ _ _ _ _ _ _ _ _ _ ?_
  unfold S_ref24_cut
  refine NewC.ofRow hs fun b1 w1 h1 => ?_
  refine ⟨fun i w => ∃ q : Nat, i = q ∧ q ≤ cs.length ∧ (∀ j x, j < q → cs[j]? = some x → hit a b x = false) ∧ Sat (Row b1 r.cells 58 :: Ro W S :: F) w, fun i _ => (cs.length - i).toNat, ⟨0, rfl, by omega, fun j x h => by omega, h1⟩, ?_⟩
  clear h1
  rintro i w2 ⟨q, rfl, hq, hno, h2⟩
  unfold S_ref24_cut_l0
  refine LdS.of h2 0 rfl (off := 3) rfl (by simp [add_mk]) ?_
  by_cases hql : q < cs.length
  · refine cond_t (by simp; omega) ?_
    have hx : cs[q]? = some cs[q] := List.getElem?_eq_getElem hql
    generalize cs[q] = x at hx
    obtain ⟨g1, g2⟩ := ccells_get hx
    have hidx : ∀ K : Addr → Prop, (∀ a, w2.cell? a = some (.int .i64 x.1) → w2.cell? (a.add 1) = some (.int .i64 x.2) → K a) → IdxC r.cp r.cl (q : Int) 2 K := fun K hk =>
      hc.idx (h2.has 1 rfl) (by omega) (by omega) fun a h => hk a (by simpa [Addr.add] using h 0 _ (by omega) g1) (h 1 _ (by omega) g2)
    refine LdS.of h2 0 rfl (off := 3) rfl (by simp [add_mk]) (hidx _ fun a1 c1 c2 => LdI.at c1 (LdI.at c2 ?_))
    refine a2.eqR a2g ?_
    cases h : (x.1 == a && x.2 == b)
    · refine cond_f rfl ?_
      refine LdS.of h2 0 rfl (off := 3) rfl (by simp [add_mk]) (hidx _ fun a1 c1 c2 => LdI.at c1 (LdI.at c2 ?_))
      refine a2.eqR a2g ?_
      cases h' : (x.1 == b && x.2 == a)
      · refine cond_f rfl ?_
        rw [wrapI64 (by omega) (by omega)]
        refine ⟨⟨q + 1, by omega, by omega, fun j y hj hy => ?_, h2⟩, by first | omega | (dsimp only; omega)⟩
        by_cases hjq : j = q
        · subst hjq; rw [hx] at hy; cases hy; simp [hit, h, h']
        · exact hno j y (by omega) hy
      · have : cs.any (hit a b) = true := List.any_eq_true.2 ⟨x, List.mem_of_getElem? hx, by simp [hit, h, h']⟩
        exact cond_t rfl ⟨by rw [this], h2.drop⟩
    · have : cs.any (hit a b) = true := List.any_eq_true.2 ⟨x, List.mem_of_getElem? hx, by simp [hit, h]⟩
      exact cond_t rfl ⟨by rw [this], h2.drop⟩
  · have : cs.any (hit a b) = false := by
      rw [List.any_eq_false]
      intro x hx
      obtain ⟨i, hi, rfl⟩ := List.mem_iff_getElem.1 hx
      simp [hno i _ (by omega) (List.getElem?_eq_getElem hi)]
    exact cond_f (by simp; omega) ⟨by rw [this], h2.drop⟩

theorem radd_c (hr : RNet W B S N r) {m : Mg} {d : Dm} (hd : DeepQ S m d) (hlen : N.l.length < 100000) (hlast : N.last + 1 < 9223372036854775808) (hs : Sat (Ro W S :: F) w) :
    Calls Try.prog 35 #[r.agg, m.agg] w fun e w' => ∃ S' r', Ext S S' ∧ RNet W B S' (N.add d) r' ∧ Ret r'.agg (Sat (Ro W S' :: F)) e w' := by
  obtain ⟨pm, hp, hcr⟩ := hr.l
  have hll := hr.ll; have hla := hr.la
  refine S_ref24_add_ok _ _ _ _ _ _ _ _ _ _ _ _ _ _ _ _ _ _ _ _ _ _ _ _ _ _ _ _ _ _ _ _ _ _ ?_
  unfold S_ref24_add
  refine NewC.ofRow hs fun b0 w1 h1 => NewC.ofRow h1 fun b1 w2 h2 => NewC.ofRow h2 fun b2 w3 h3 => ?_
  refine LdI.of h3 2 rfl (off := 2) rfl (by simp [add_mk]) ?_
  have e1 : IntKind.wrap .i64 (r.la + 1) = ((N.last + 1 : Nat) : Int) := by rw [hla, wrapI64 (by omega) (by omega)]; omega
  rw [e1]
  refine StC.of h3 2 rfl (off := 2) rfl (by simp [add_mk]) fun w4 h4 => ?_
  have h5 : Sat (Row b2 [.int .i64 0, .slice none 0 0, .int .i64 0, .slice none 0 0, .int .i64 0] 58 :: Row b1 m.cells 37 :: Row b0 ({ r with la := ((N.last + 1 : Nat) : Int) } : Rn).cells 58 :: Ro W S :: F) w4.drew := h4.drew
  clear h1 h2 h3 h4
  refine ⟨fun w => ∃ L i j, L[i]? = some (Row b0 ({ r with la := ((N.last + 1 : Nat) : Int) } : Rn).cells 58) ∧ L[j]? = some (Row b1 m.cells 37) ∧ Sat L w, ⟨_, 2, 1, rfl, rfl, h5⟩, ?_⟩
  refine ⟨r.lp, r.ll, r.lc, fun w ⟨L, i, j, hi, hj, h⟩ => LdS.of h i hi (off := 1) rfl (by simp [add_mk]) rfl, ?_⟩
  refine ⟨((N.last + 1 : Nat) : Int), fun w ⟨L, i, j, hi, hj, h⟩ => LdI.of h i hi (off := 2) rfl (by simp [add_mk]) rfl, ?_⟩
  refine ⟨m.kind, m.from_, m.to, m.view, m.op, m.commit, m.base, m.normal, m.nonce, m.lp, m.ll, m.lc, m.ip, m.il, m.ic, m.ec, m.en, m.et, m.re, m.rn, m.dp, m.dl, m.dc, fun w ⟨L, i, j, hi, hj, h⟩ => ldMsgRow (m := m) h j hj rfl, ?_⟩
  have hlimr : r.ll + 1 ≤ 1048576 := by omega
  have fin : ∀ (p' : Option Addr) (c' : Nat) (w' : World), Sat (Own 88 18 p' (r.ll + 1) c' (pcells pm ++ (.int .i64 ((N.last + 1 : Nat) : Int) :: m.cells)) :: Ro W S :: F) w' →
      ∃ S', Ext S S' ∧ RNet W B S' (N.add d) ({ r with la := ((N.last + 1 : Nat) : Int), lp := p', ll := r.ll + 1, lc := c' } : Rn) ∧ Sat (Ro W S' :: F) w' := by
    intro p' c' w' h
    have hcap := h.own_cap 0 rfl
    obtain ⟨S', e2, h6, h7⟩ := Sat.freezeAny h
    obtain ⟨cs, q1, q2, q3, q4⟩ := hr.c
    have e3 : pcells (pm ++ [(N.last + 1, m)]) = pcells pm ++ (.int .i64 ((N.last + 1 : Nat) : Int) :: m.cells) := pcells_snoc pm (N.last + 1, m)
    refine ⟨S', e2, ⟨hr.m, rfl, hr.lo, ?_, ⟨pm ++ [(N.last + 1, m)], (hp.mono e2).snoc (DeepQ.mono e2 hd), ?_⟩, ⟨cs, q1, q2, q3.mono e2, q4⟩⟩, h7⟩
    · unfold Nt.add; dsimp only; rw [List.length_append, List.length_singleton, hll]
    · rw [e3]
      have hl1 := hcr.len
      refine ⟨by rw [List.length_append, hl1, List.length_cons, Mg.len]; dsimp only; omega, hlimr, hcap, fun u hu => ?_, h6⟩
      rcases List.mem_append.1 hu with hu | hu
      · exact pcells_one _ u hu
      · rcases List.mem_cons.1 hu with rfl | hu
        · rfl
        · exact m.one u hu
  have news : ∀ {w : World} {L : List HP} {b3 T : Nat} (i : Nat), Sat L w → L[i]? = some (Row b3 (.int .i64 ((N.last + 1 : Nat) : Int) :: m.cells) T) → Reads w (some ⟨b3, 0, none⟩) (.int .i64 ((N.last + 1 : Nat) : Int) :: m.cells) := by
    intro w L b3 T i h hi a ha j v hj
    cases ha
    rw [add_mk, Nat.zero_add]
    exact h.cell i hi hj
  have one : ∀ u ∈ (Value.int .i64 ((N.last + 1 : Nat) : Int) :: m.cells), u.oneCell' = true := fun u hu => by
    rcases List.mem_cons.1 hu with rfl | hu
    · rfl
    · exact m.one u hu
  refine ⟨?_, ?_⟩
  · have h6 := h5.ownNil 88 18
    refine RunS.appRo eok_rp h6 0 rfl 4 rfl hcr (by omega) (by omega) fun p1 c1 w6 h7 => ⟨⟨_, 3, 2, rfl, rfl, h7⟩, ?_⟩
    refine NewC.ofRow h7 fun b3 w7 h8 => ⟨⟨_, 4, 3, rfl, rfl, h8⟩, ?_⟩
    have h8 : Sat (Row b3 (.int .i64 ((N.last + 1 : Nat) : Int) :: m.cells) 88 :: Own 88 18 p1 r.ll c1 (pcells pm) :: Row b2 [.int .i64 0, .slice none 0 0, .int .i64 0, .slice none 0 0, .int .i64 0] 58 :: Row b1 m.cells 37 :: Row b0 ({ r with la := ((N.last + 1 : Nat) : Int) } : Rn).cells 58 :: Ro W S :: F) w7 := by
      rw [Nat.zero_add, List.nil_append] at h8; exact h8
    rw [Nat.zero_add]
    refine RunS.own eok_rp h8 1 rfl (news := .int .i64 ((N.last + 1 : Nat) : Int) :: m.cells) (news 0 h8 rfl) (by rw [List.length_cons, Mg.len]) one (by omega) (by simp only [maxLen]; omega) fun p2 c2 w8 h9 => ⟨⟨_, 4, 3, rfl, rfl, h9⟩, ?_⟩
    refine StC.of h9 4 rfl (off := 1) rfl (by simp [add_mk]) fun w9 h10 => ?_
    refine mvRn (r := { r with la := ((N.last + 1 : Nat) : Int), lp := p2, ll := r.ll + 1, lc := c2 }) h10 4 rfl 2 rfl fun w10 h11 => ?_
    have a1 := ((h11.drop.pull 1 rfl).drop.pull 1 rfl).drop.pull 1 rfl
    obtain ⟨S', q1, q2, q3⟩ := fin p2 c2 w10 (a1.drop)
    exact ⟨S', _, q1, q2, rfl, q3⟩
  · refine NewC.ofRow h5 fun b3 w7 h8 => ⟨⟨_, 3, 2, rfl, rfl, h8⟩, ?_⟩
    have h8 := h8.ownNil 88 18
    refine RunS.appRo eok_rp h8 0 rfl 5 rfl hcr (by omega) (by omega) fun p1 c1 w6 h9 => ⟨⟨_, 4, 3, rfl, rfl, h9⟩, ?_⟩
    have h9 : Sat (Own 88 18 p1 r.ll c1 (pcells pm) :: Row b3 (.int .i64 ((N.last + 1 : Nat) : Int) :: m.cells) 88 :: Row b2 [.int .i64 0, .slice none 0 0, .int .i64 0, .slice none 0 0, .int .i64 0] 58 :: Row b1 m.cells 37 :: Row b0 ({ r with la := ((N.last + 1 : Nat) : Int) } : Rn).cells 58 :: Ro W S :: F) w6 := by
      rw [Nat.zero_add, List.nil_append] at h9; exact h9
    rw [Nat.zero_add]
    refine RunS.own eok_rp h9 0 rfl (news := .int .i64 ((N.last + 1 : Nat) : Int) :: m.cells) (news 1 h9 rfl) (by rw [List.length_cons, Mg.len]) one (by omega) (by simp only [maxLen]; omega) fun p2 c2 w8 h10 => ⟨⟨_, 4, 3, rfl, rfl, h10⟩, ?_⟩
    refine StC.of h10 4 rfl (off := 1) rfl (by simp [add_mk]) fun w9 h11 => ?_
    refine mvRn (r := { r with la := ((N.last + 1 : Nat) : Int), lp := p2, ll := r.ll + 1, lc := c2 }) h11 4 rfl 2 rfl fun w10 h12 => ?_
    have a1 := (((h12.pull 1 rfl).drop.pull 1 rfl).drop.pull 1 rfl).drop.pull 1 rfl
    obtain ⟨S', q1, q2, q3⟩ := fin p2 c2 w10 (a1.drop)
    exact ⟨S', _, q1, q2, rfl, q3⟩

theorem rsend_c (hr : RNet W B S N r) {m : Mg} {d : Dm} (hd : DeepQ S m d) (hlen : N.most ≤ 100000) (hlast : N.last + 1 < 9223372036854775808) (hlost : N.lost + 1 < 9223372036854775808) (hs : Sat (Ro W S :: F) w) :
    Calls Try.prog 22 #[r.agg, m.agg] w fun e w' =>
      if N.off (min ((Deep W).fr d) ((Deep W).tt d)) (max ((Deep W).fr d) ((Deep W).tt d)) = true then ∃ r', RNet W B S N.lose r' ∧ Ret (.tuple #[r'.agg, .int .i64 0, .int .i64 0]) (Sat (Ro W S :: F)) e w'
      else if N.most ≤ N.l.length then ∃ r', RNet W B S N.lose r' ∧ Ret (.tuple #[r'.agg, .int .i64 0, .int .i64 5]) (Sat (Ro W S :: F)) e w'
      else ∃ S' r', Ext S S' ∧ RNet W B S' (N.add d) r' ∧ Ret (.tuple #[r'.agg, .int .i64 ((N.last + 1 : Nat) : Int), .int .i64 0]) (Sat (Ro W S' :: F)) e w' := by
  have hll := hr.ll; have hlo := hr.lo; have hm := hr.m
  obtain ⟨ef, et⟩ := (Deep W).ends hd
  rw [← ef, ← et]
  refine S_ref24_Send_ok _ _ _ _ _ _ _ _ _ _ _ _ _ _ _ _ _ _ _ _ _ _ _ _ _ _ _ _ _ _ _ _ _ _ ?_
  unfold S_ref24_Send
  refine NewC.ofRow hs fun b0 w1 h1 => NewC.ofRow h1 fun b1 w2 h2 => NewC.ofRow h2 fun b2 w3 h3 => ?_
  have h3 : Sat (Row b2 [.int .i64 0, .slice none 0 0, .int .i64 0, .slice none 0 0, .int .i64 0] 58 :: Row b1 m.cells 37 :: Row b0 r.cells 58 :: Ro W S :: F) w3 := h3
  clear h1 h2
  refine ldRn h3 2 rfl ?_
  refine LdI.of h3 1 rfl (off := 1) rfl (by simp [add_mk]) (LdI.of h3 1 rfl (off := 2) rfl (by simp [add_mk]) ?_)
  refine (rcut_c hr m.from_ m.to (h3.pull 3 rfl)).mono ?_
  rintro e w4 ⟨rfl, h4⟩
  refine ⟨_, rfl, ?_⟩
  have h5 : Sat (Row b2 [.int .i64 0, .slice none 0 0, .int .i64 0, .slice none 0 0, .int .i64 0] 58 :: Row b1 m.cells 37 :: Row b0 r.cells 58 :: Ro W S :: F) w4 := by
    have a1 := h4.pull 3 rfl
    have a2 := a1.pull 3 rfl
    exact a2.pull 3 rfl
  have e1 : IntKind.wrap .i64 (r.lo + 1) = ((N.lost + 1 : Nat) : Int) := by rw [hlo, wrapI64 (by omega) (by omega)]; omega
  cases hoff : N.off (min m.from_ m.to) (max m.from_ m.to)
  · refine cond_f rfl ?_
    refine LdS.of h5 2 rfl (off := 1) rfl (by simp [add_mk]) (LdI.of h5 2 rfl (off := 0) rfl (by simp [add_mk]) ?_)
    by_cases hf : N.most ≤ N.l.length
    · refine cond_t (by simp; omega) ?_
      refine LdI.of h5 2 rfl (off := 4) rfl (by simp [add_mk]) ?_
      rw [e1]
      refine StC.of h5 2 rfl (off := 4) rfl (by simp [add_mk]) fun w5 h6 => ?_
      refine mvRn (r := { r with lo := ((N.lost + 1 : Nat) : Int) }) h6 2 rfl 0 rfl fun w6 h7 => ?_
      dsimp only
      rw [if_neg (by simp), if_pos hf]
      exact ⟨_, hr.lose, rfl, h7.drop.drop.drop⟩
    · refine cond_f (by simp; omega) ?_
      refine ldRn h5 2 rfl ?_
      refine ldMsgRow (m := m) h5 1 rfl ?_
      refine (radd_c hr hd (by omega) hlast (h5.pull 3 rfl)).mono ?_
      rintro e w6 ⟨S', r', e2, hr', rfl, h6⟩
      refine ⟨_, _, _, _, _, _, _, _, _, rfl, ?_⟩
      refine stRow5 (c0 := .int .i64 r.m) (c1 := .slice r.lp r.ll r.lc) (c2 := .int .i64 r.la) (c3 := .slice r.cp r.cl r.cc) (c4 := .int .i64 r.lo) h6 3 rfl fun w7 h7 => ?_
      have h8 : Sat (Ro W S' :: Row b2 [.int .i64 0, .slice none 0 0, .int .i64 0, .slice none 0 0, .int .i64 0] 58 :: Row b1 m.cells 37 :: Row b0 r'.cells 58 :: F) w7.drew := h7.drew
      refine ⟨fun w => ∃ L i, L[i]? = some (Row b0 r'.cells 58) ∧ Sat L w, ⟨_, 3, rfl, h8⟩, ?_⟩
      refine ⟨r'.m, r'.lp, r'.ll, r'.lc, r'.la, r'.cp, r'.cl, r'.cc, r'.lo, fun w ⟨L, i, hi, h⟩ => ldRn h i hi rfl, ?_⟩
      refine ⟨r'.la, fun w ⟨L, i, hi, h⟩ => LdI.of h i hi (off := 2) rfl (by simp [add_mk]) rfl, ?_⟩
      refine stRow5 h8 1 rfl fun w8 h9 => ⟨⟨_, 3, rfl, h9⟩, ?_⟩
      refine ldRn (r := r') h9 1 rfl ?_
      dsimp only
      rw [if_neg (by simp), if_neg hf]
      have ela : r'.la = ((N.last + 1 : Nat) : Int) := hr'.la
      refine ⟨S', r', e2, hr', ?_, ?_⟩
      · show Ending.returned (.tuple #[r'.agg, .int .i64 r'.la, .int .i64 0]) = _
        rw [ela]
      · exact ((((h9.pull 1 rfl).drop.pull 1 rfl).drop).pull 1 rfl).drop
  · refine cond_t rfl ?_
    refine LdI.of h5 2 rfl (off := 4) rfl (by simp [add_mk]) ?_
    rw [e1]
    refine StC.of h5 2 rfl (off := 4) rfl (by simp [add_mk]) fun w5 h6 => ?_
    refine mvRn (r := { r with lo := ((N.lost + 1 : Nat) : Int) }) h6 2 rfl 0 rfl fun w6 h7 => ?_
    dsimp only
    rw [if_pos rfl]
    exact ⟨_, hr.lose, rfl, h7.drop.drop.drop⟩

theorem rfind_c (hr : RNet W B S N r) {id : Int} (hs : Sat (Ro W S :: F) w) : Calls Try.prog 36 #[r.agg, .int .i64 id] w fun e w' => ∃ i : Int,
    ((i = -1 ∧ ∀ y ∈ N.l, (y.1 : Int) ≠ id) ∨ ∃ (k : Nat) (y : Nat × (Deep W).α), i = k ∧ N.l[k]? = some y ∧ (y.1 : Int) = id) ∧ Ret (.int .i64 i) (Sat (Ro W S :: F)) e w' := by
  obtain ⟨pm, hp, hcr⟩ := hr.l
  have hll := hr.ll; have hlim := hcr.lim
  refine S_ref24_find_ok _ _ _ _ _ _ _ _ _ _ _ _ ?_
  unfold S_ref24_find
  refine NewC.ofRow hs fun b1 w1 h1 => ?_
  refine ⟨fun i w => ∃ q : Nat, i = q ∧ q ≤ N.l.length ∧ (∀ j y, j < q → N.l[j]? = some y → (y.1 : Int) ≠ id) ∧ Sat (Row b1 r.cells 58 :: Ro W S :: F) w, fun i _ => (N.l.length - i).toNat, ⟨0, rfl, by omega, fun j x h => by omega, h1⟩, ?_⟩
  clear h1
  rintro i w2 ⟨q, rfl, hq, hno, h2⟩
  unfold S_ref24_find_l0
  refine LdS.of h2 0 rfl (off := 1) rfl (by simp [add_mk]) ?_
  by_cases hql : q < N.l.length
  · refine cond_t (by simp; omega) ?_
    have hx : N.l[q]? = some N.l[q] := List.getElem?_eq_getElem hql
    generalize N.l[q] = y at hx
    obtain ⟨x, hx1, hx2, _⟩ := hp.get hx
    have hg := pcells_get (q := 0) hx1 (by omega)
    refine LdS.of h2 0 rfl (off := 1) rfl (by simp [add_mk]) (hcr.idx (h2.has 1 rfl) (by omega) (by omega) fun a1 h => LdI.at (n := ((x.1 : Nat) : Int)) (by simpa [Addr.add] using h 0 _ (by omega) hg) ?_)
    by_cases he : (x.1 : Int) = id
    · refine cond_t (by simpa using he) ⟨_, .inr ⟨q, y, rfl, hx, by rw [← hx2]; exact he⟩, rfl, h2.drop⟩
    · refine cond_f (by simpa using he) ?_
      rw [wrapI64 (by omega) (by omega)]
      refine ⟨⟨q + 1, by omega, by omega, fun j z hj hz => ?_, h2⟩, by first | omega | (dsimp only; omega)⟩
      by_cases hjq : j = q
      · subst hjq; rw [hx] at hz; cases hz; rw [← hx2]; exact he
      · exact hno j z (by omega) hz
  · refine cond_f (by simp; omega) ⟨_, .inl ⟨rfl, fun y hy => ?_⟩, rfl, h2.drop⟩
    obtain ⟨i, hi, rfl⟩ := List.mem_iff_getElem.1 hy
    exact hno i _ (by omega) (List.getElem?_eq_getElem hi)

theorem rpick_c (hr : RNet W B S N r) (k : Int) (hs : Sat (Ro W S :: F) w) : Calls Try.prog 23 #[r.agg, .int .i64 k] w
    (Ret (if N.l = [] then .tuple #[.int .i64 0, .int .i64 17] else if k < 0 then .tuple #[.int .i64 0, .int .i64 1] else match N.l[k.toNat % N.l.length]? with | some x => .tuple #[.int .i64 (x.1 : Nat), .int .i64 0] | none => .bool false) (Sat (Ro W S :: F))) := by
  obtain ⟨pm, hp, hcr⟩ := hr.l
  have hll := hr.ll
  refine S_ref24_Pick_ok _ _ _ _ _ _ _ _ _ _ _ _ ?_
  unfold S_ref24_Pick
  refine NewC.ofRow hs fun b1 w1 h1 => ?_
  have h1 : Sat (Row b1 r.cells 58 :: Ro W S :: F) w1 := h1
  refine LdS.of h1 0 rfl (off := 1) rfl (by simp [add_mk]) ?_
  by_cases h0 : N.l = []
  · rw [if_pos h0]
    exact cond_t (by rw [hll, h0]; rfl) ⟨rfl, h1.drop⟩
  · have hpos : 0 < N.l.length := List.length_pos_iff.2 h0
    rw [if_neg h0]
    refine cond_f (by simp; omega) ?_
    by_cases hk : k < 0
    · rw [if_pos hk]
      exact cond_t (by simpa using hk) ⟨rfl, h1.drop⟩
    · rw [if_neg hk]
      refine cond_f (by simpa using hk) ?_
      have h2 := h1.drew
      obtain ⟨n, rfl⟩ := Int.eq_ofNat_of_zero_le (show 0 ≤ k by omega)
      have hlt : n % N.l.length < N.l.length := Nat.mod_lt _ hpos
      have hx : N.l[n % N.l.length]? = some N.l[n % N.l.length] := List.getElem?_eq_getElem hlt
      generalize N.l[n % N.l.length] = y at hx
      rw [show (n : Int).toNat = n from Int.toNat_natCast n, hx]
      obtain ⟨x, hx1, hx2, _⟩ := hp.get hx
      have hg := pcells_get (q := 0) hx1 (by omega)
      have et : Int.tmod (n : Int) ((r.ll : Nat) : Int) = ((n % N.l.length : Nat) : Int) := by rw [hll, Int.tmod_eq_emod_of_nonneg (by omega)]; rfl
      refine LdS.of h2 0 rfl (off := 1) rfl (by simp [add_mk]) (LdS.of h2 0 rfl (off := 1) rfl (by simp [add_mk]) ⟨by omega, ?_⟩)
      rw [et]
      refine hcr.idx (h2.has 1 rfl) (by omega) (by omega) fun a1 h => LdI.at (n := ((x.1 : Nat) : Int)) (by simpa [Addr.add] using h 0 _ (by omega) hg) ?_
      exact ⟨by rw [hx2], h2.drop⟩

theorem rwithout_c (hr : RNet W B S N r) {k : Nat} (hk : k < N.l.length) (hs : Sat (Ro W S :: F) w) : Calls Try.prog 37 #[r.agg, .int .i64 (k : Int)] w fun e w' =>
    ∃ S' r', Ext S S' ∧ RNet W B S' (N.erase k) r' ∧ Ret r'.agg (Sat (Ro W S' :: F)) e w' := by
  obtain ⟨pm, hp, hcr⟩ := hr.l
  have hll := hr.ll; have hlim := hcr.lim; have hcap := hcr.cap; have hpl := hp.len
  refine S_ref24_without_ok _ _ _ _ _ _ _ _ _ _ _ _ ?_
  unfold S_ref24_without
  refine NewC.ofRow hs fun b0 w1 h1 => NewC.ofRow h1 fun b1 w2 h2 => ?_
  have h2 : Sat (Row b1 [.int .i64 0, .slice none 0 0, .int .i64 0, .slice none 0 0, .int .i64 0] 58 :: Row b0 r.cells 58 :: Ro W S :: F) w2 := h2
  refine LdS.of h2 1 rfl (off := 1) rfl (by simp [add_mk]) ?_
  refine SlC.of 0 k r.lc rfl rfl rfl (by omega) (by omega) (by omega) ?_
  rw [slAddr_zero, Nat.sub_zero, Nat.sub_zero]
  have h3 := h2.ownNil 88 18
  refine RunS.appRo eok_rp h3 0 rfl 3 rfl (hcr.upto (k := k) (by omega)) (by omega) (by omega) fun p1 c1 w3 h4 => ?_
  rw [List.nil_append, Nat.zero_add] at h4
  rw [Nat.zero_add]
  refine LdS.of h4 2 rfl (off := 1) rfl (by simp [add_mk]) ?_
  rw [wrapI64 (by omega) (by omega)]
  refine SlC.of (k + 1) r.ll r.lc (by omega) rfl rfl (by omega) (by omega) (by omega) ?_
  refine RunS.appRo eok_rp h4 0 rfl 3 rfl (hcr.from (k := k + 1) (by omega)) (by omega) (by omega) fun p2 c2 w4 h5 => ?_
  have e1 : k + (r.ll - (k + 1)) = r.ll - 1 := by omega
  rw [e1] at h5 ⊢
  rw [pcells_erase] at h5
  refine StC.of h5 2 rfl (off := 1) rfl (by simp [add_mk]) fun w5 h6 => ?_
  refine mvRn (r := { r with lp := p2, ll := r.ll - 1, lc := c2 }) h6 2 rfl 1 rfl fun w6 h7 => ?_
  have h8 : Sat (Own 88 18 p2 (r.ll - 1) c2 (pcells (pm.eraseIdx k)) :: Ro W S :: F) w6 := (((h7.pull 1 rfl).drop.pull 1 rfl).drop)
  have hcap2 := h8.own_cap 0 rfl
  obtain ⟨S', e2, h9, h10⟩ := Sat.freezeAny h8
  obtain ⟨cs, q1, q2, q3, q4⟩ := hr.c
  have hel : (N.l.eraseIdx k).length = N.l.length - 1 := by rw [List.length_eraseIdx, if_pos hk]
  have hel2 : (pm.eraseIdx k).length = pm.length - 1 := by rw [List.length_eraseIdx, if_pos (by omega)]
  refine ⟨S', ({ r with lp := p2, ll := r.ll - 1, lc := c2 } : Rn), e2, ⟨hr.m, hr.la, hr.lo, ?_, ⟨pm.eraseIdx k, (hp.mono e2).erase k, ⟨?_, by first | omega | (dsimp only; omega), hcap2, pcells_one _, h9⟩⟩, ⟨cs, q1, q2, q3.mono e2, q4⟩⟩, rfl, h10⟩
  · unfold Nt.erase; dsimp only; rw [hel, hll]
  · rw [pcells_len, hel2, hpl, hll]
end
end Go.Proofs.Ytjpaoggcphfjeaa
