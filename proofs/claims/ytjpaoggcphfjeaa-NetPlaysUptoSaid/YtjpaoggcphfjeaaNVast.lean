/- Deeds as they came in; and whether their values are vast: it is told without harm. -/
import Derived.Test.YtjpaoggcphfjeaaNMsg
namespace Go.Lw
open Go Go.Tb
/-- 'append(own, x...)' of what stands. -/
theorem RunS.appRo {P : Program} {L : List HP} {w W : World} {S : Mem} {t e s bytes ty : Nat} (hE : EOK P t e s bytes) {p0 p : Option Addr} {l0 l c c0 : Nat} {xs0 xs : List Value} {K : Option Addr → Nat → Nat → World → Prop} (hs : Sat L w)
    (i : Nat) (hi : L[i]? = some (Own e s p0 l0 c0 xs0)) (k : Nat) (hk : L[k]? = some (Ro W S)) (hx : CRs S s xs p l c) (hb : bytes ≤ 1024) (hl : l0 + l ≤ 16777216)
    (h : ∀ p' c' w', Sat (L.set i (Own e s p' (l0 + l) c' (xs0 ++ xs))) w' → K p' (l0 + l) c' w') : RunS P (Builtin.append_ #[t, t] ty #[.slice p0 l0 c0, .slice p l c]) w K := by
  by_cases hl0 : l = 0
  · subst hl0
    have hx0 : xs = [] := List.eq_nil_of_length_eq_zero (by simpa using hx.len)
    subst hx0
    refine RunS.nothing hE (hs.own_cap i hi) (h p0 c0 w ?_)
    have : L.set i (Own e s p0 (l0 + 0) c0 (xs0 ++ [])) = L := by
      apply List.ext_getElem?
      intro j
      rw [Nat.add_zero, List.append_nil]
      by_cases hij : i = j
      · subst hij; rw [hi]; exact get_set_self hi
      · rw [List.getElem?_set_ne hij]
    rw [this]; exact hs
  · have hpos := hE.pos
    have hne : 0 < xs.length := by rw [hx.len]; exact Nat.mul_pos (by omega) hpos
    obtain ⟨a, rfl, _⟩ := hx.reads 0 _ (List.getElem?_eq_getElem hne)
    have hh := hs.has k hk
    have hm : (l0 + l) * bytes ≤ 140737488355328 := by
      calc (l0 + l) * bytes ≤ 16777216 * 1024 := Nat.mul_le_mul hl hb
        _ ≤ 140737488355328 := by omega
    refine RunS.own hE hs i hi (news := xs) (fun b hb' j v hj => ?_) hx.len hx.one hm (by simp only [maxLen]; omega) fun p' c' w' h' => h p' c' w' h'
    cases hb'
    obtain ⟨b, e1, h2⟩ := hx.reads j v hj
    cases e1
    exact h2 w hh
end Go.Lw
namespace Go.Vd
open Go Go.Lw Go.Tb
/-- the cells of values, one behind the other. -/
def VL (S : Mem) : List V → List Value → Prop
  | [], xs => xs = []
  | x :: L, xs => ∃ cs ys, xs = cs ++ ys ∧ VR S x cs ∧ VL S L ys
theorem VL.mono {S S' : Mem} (e : Ext S S') : ∀ {L : List V} {xs : List Value}, VL S L xs → VL S' L xs
  | [], _, h => h
  | _ :: _, _, ⟨cs, ys, h1, h2, h3⟩ => ⟨cs, ys, h1, h2.mono e, h3.mono e⟩
theorem VL.append {S : Mem} : ∀ {L L' : List V} {xs xs' : List Value}, VL S L xs → VL S L' xs' → VL S (L ++ L') (xs ++ xs')
  | [], _, xs, _, h, h' => by
    have h : xs = [] := h
    subst h; exact h'
  | _ :: _, _, _, _, ⟨cs, ys, h1, h2, h3⟩, h' => ⟨cs, ys ++ _, by rw [h1, List.append_assoc], h2, h3.append h'⟩
theorem VL.len {S : Mem} : ∀ {L : List V} {xs : List Value}, VL S L xs → xs.length = L.length * 5
  | [], xs, h => by have h : xs = [] := h; subst h; rfl
  | _ :: L, _, ⟨cs, ys, h1, h2, h3⟩ => by
    subst h1
    rw [List.length_append, h2.len, h3.len, List.length_cons]; omega
theorem VL.one {S : Mem} : ∀ {L : List V} {xs : List Value}, VL S L xs → ∀ u ∈ xs, u.oneCell' = true
  | [], xs, h => by have h : xs = [] := h; subst h; simp
  | _ :: L, _, ⟨cs, ys, h1, h2, h3⟩ => by
    subst h1
    intro u hu
    rcases List.mem_append.1 hu with h | h
    · exact h2.one u h
    · exact h3.one u h
theorem VL.get {S : Mem} : ∀ {L : List V} {xs : List Value} {i : Nat} {x : V}, VL S L xs → L[i]? = some x → ∃ cs, VR S x cs ∧ ∀ j v, cs[j]? = some v → xs[i * 5 + j]? = some v
  | [], _, _, _, _, h => by simp at h
  | y :: L, xs, 0, x, ⟨cs, ys, h1, h2, h3⟩, h => by
    simp only [List.getElem?_cons_zero, Option.some.injEq] at h
    subst h; subst h1
    exact ⟨cs, h2, fun j v hj => by rw [Nat.zero_mul, Nat.zero_add, List.getElem?_append_left (get_lt hj)]; exact hj⟩
  | y :: L, xs, i + 1, x, ⟨cs, ys, h1, h2, h3⟩, h => by
    simp only [List.getElem?_cons_succ] at h
    subst h1
    obtain ⟨cs', h4, h5⟩ := h3.get h
    refine ⟨cs', h4, fun j v hj => ?_⟩
    rw [List.getElem?_append_right (by rw [h2.len]; omega), h2.len, show (i + 1) * 5 + j - 5 = i * 5 + j by omega]
    exact h5 j v hj
theorem VL.of {S : Mem} {f : Nat → List Value} : ∀ (n : Nat) (L : List V), L.length = n → (∀ i x, L[i]? = some x → VR S x (f i)) → VL S L (rowsF n f)
  | 0, L, hn, _ => by
    have : L = [] := List.eq_nil_of_length_eq_zero hn
    subst this; rfl
  | n + 1, L, hn, h => by
    have e : L = L.take n ++ [L[n]] := by
      have h1 := List.take_add_one (l := L) (i := n)
      rw [List.getElem?_eq_getElem (by omega), List.take_of_length_le (by omega)] at h1
      exact h1
    have h1 : VL S (L.take n) (rowsF n f) := VL.of n _ (by rw [List.length_take]; omega) fun i x hx => by
      have hi := get_lt hx
      rw [List.length_take] at hi
      rw [List.getElem?_take_of_lt (by omega)] at hx
      exact h i x hx
    have h2 : VL S [L[n]] (f n) := ⟨f n, [], by simp, h n _ (List.getElem?_eq_getElem (by omega)), rfl⟩
    rw [rowsF_succ]
    have h3 := h1.append h2
    rw [← e] at h3
    exact h3
theorem VRs.cells {S : Mem} {L : List V} {p : Option Addr} {l c : Nat} (h : VRs S L p l c) : ∃ xs, VL S L xs ∧ CRs S 5 xs p l c := by
  classical
  let f : Nat → List Value := fun i => if h' : ∃ x, L[i]? = some x then (h.each i _ h'.choose_spec).choose else List.replicate 5 (.bool true)
  have hf : ∀ i x, L[i]? = some x → VR S x (f i) ∧ ∀ j v, (f i)[j]? = some v → ∃ a, p = some a ∧ RdS S (a.add (i * 5 + j)) v := by
    intro i x hx
    have h' : ∃ x, L[i]? = some x := ⟨x, hx⟩
    have e : h'.choose = x := Option.some.inj (h'.choose_spec.symm.trans hx)
    have e2 : f i = (h.each i _ h'.choose_spec).choose := by simp only [f]; rw [dif_pos h']
    have h3 := (h.each i _ h'.choose_spec).choose_spec
    rw [← e2] at h3
    rw [e] at h3
    exact h3
  have h5 : ∀ i, (f i).length = 5 := by
    intro i
    by_cases h' : ∃ x, L[i]? = some x
    · obtain ⟨x, hx⟩ := h'
      exact (hf i x hx).1.len
    · simp only [f]; rw [dif_neg h']; simp
  have hv := VL.of L.length L rfl fun i x hx => (hf i x hx).1
  refine ⟨_, hv, ⟨by rw [hv.len, h.len], by rw [h.len]; exact h.lim, by rw [h.len]; exact h.cap, hv.one, fun j v hj => ?_⟩⟩
  have hj' := get_lt hj
  rw [hv.len] at hj'
  have hd : j / 5 < L.length := by omega
  rw [rowsF_get' h5 (by omega) (by omega)] at hj
  obtain ⟨a, h1, h2⟩ := (hf _ _ (List.getElem?_eq_getElem hd)).2 _ v hj
  refine ⟨a, h1, ?_⟩
  rw [show j = j / 5 * 5 + j % 5 by omega]
  exact h2
theorem VRs.ofCells {S : Mem} {L : List V} {xs : List Value} {p : Option Addr} {l c : Nat} (h : VL S L xs) (hl : l = L.length) (h1 : L.length ≤ Vd.lim) (h2 : L.length ≤ c) (hr : ∀ j v, xs[j]? = some v → ∃ a, p = some a ∧ RdS S (a.add j) v) : VRs S L p l c :=
  ⟨hl, h1, h2, fun i x hx => by
    obtain ⟨cs, h3, h4⟩ := h.get hx
    exact ⟨cs, h3, fun j v hj => hr _ _ (h4 j v hj)⟩⟩
end Go.Vd
namespace Go.Proofs.Ytjpaoggcphfjeaa
open Go Go.Lw Go.Tb Go.Wd Go.Vd

theorem walked_c (W : World) : ∀ (n : Nat) (v : V), _root_.SizeOf.sizeOf v < n → ∀ (S : Mem) (cs : List Value) (F : List HP) (w : World) (z : Int), VR S v cs → 0 < z → z ≤ 5000 → Sat (Ro W S :: F) w →
    Calls Try.prog 45 #[.agg cs.toArray, .int .i64 z] w fun e w' => ∃ (y : Int) (ok : Bool), (0 ≤ y ∧ y ≤ 5000 ∧ (ok = true → 0 < y)) ∧ e = .returned (.tuple #[.int .i64 y, .bool ok]) ∧ Sat (Ro W S :: F) w'
  | 0, _, h => by omega
  | n + 1, .mk k m s L Fs, hn => by
    intro S cs F w z hv hz1 hz2 hs
    obtain ⟨lp, ll, lc, fp, fl, fc, rfl, hL, hF⟩ := hv.open
    have hll := hL.len; have hlim := hL.lim; have hfl := hF.len; have hflim := hF.lim
    simp only [lim] at hlim hflim
    refine S_ref2_walked_ok _ _ _ _ _ _ _ _ _ _ _ _ ?_
    unfold S_ref2_walked
    refine NewC.ofRow hs fun b0 w1 h1 => ?_
    intro k0 hk0
    have hj : ∀ (z : Int) (w : World), 0 ≤ z → z ≤ 5000 → Sat (Row b0 [.int .i64 k, .int .i64 m, .string s, .slice lp ll lc, .slice fp fl fc] 102 :: Ro W S :: F) w → k0 z w := by
      intro z w hz1 hz2 hs
      refine hk0 _ _ ?_
      unfold S_ref2_walked_j1
      intro k1 hk1
      refine ⟨fun z i w => ∃ q : Nat, i = q ∧ q ≤ Fs.length ∧ 0 ≤ z ∧ z ≤ 5000 ∧ Sat (Row b0 [.int .i64 k, .int .i64 m, .string s, .slice lp ll lc, .slice fp fl fc] 102 :: Ro W S :: F) w,
        fun _ i _ => (Fs.length - i).toNat, ⟨0, rfl, by omega, hz1, hz2, hs⟩, ?_⟩
      rintro z i w2 ⟨q, rfl, hq, hz1, hz2, h2⟩
      unfold S_ref2_walked_l1
      refine LdS.of h2 0 rfl (off := 4) rfl (by simp [add_mk]) ?_
      have hend : k1 z w2 := hk1 _ _ (by
        unfold S_ref2_walked_j0
        exact ⟨_, _, ⟨hz1, hz2, fun h => by simpa using h⟩, rfl, h2.drop⟩)
      by_cases hql : q < Fs.length
      · refine cond_t (by simp; omega) ?_
        by_cases hz : 0 < z
        · refine cond_t (by simpa using hz) ?_
          refine LdS.of h2 0 rfl (off := 4) rfl (by simp [add_mk]) ?_
          have hx : Fs[q]? = some Fs[q] := List.getElem?_eq_getElem hql
          have hsz : _root_.SizeOf.sizeOf Fs[q].2 < n := by
            have h1 := List.sizeOf_lt_of_mem (List.getElem_mem hql)
            have h2 : _root_.SizeOf.sizeOf Fs[q].2 < _root_.SizeOf.sizeOf Fs[q] := by
              obtain ⟨a, b⟩ := Fs[q]
              simp only [Prod.mk.sizeOf_spec]
              omega
            simp only [V.mk.sizeOf_spec] at hn
            omega
          generalize Fs[q] = x at hx hsz
          obtain ⟨nm, x⟩ := x
          refine FRs.rd hF (h2.has 1 rfl) hx fun a cs hv hc => ?_
          obtain ⟨k', m', s', L', F', rfl⟩ : ∃ k' m' s' L' F', x = .mk k' m' s' L' F' := by cases x; exact ⟨_, _, _, _, _, rfl⟩
          obtain ⟨lp', ll', lc', fp', fl', fc', rfl, _, _⟩ := hv.open
          refine ldVal (k := k') (n := m') (s := s') (lp := lp') (ll := ll') (lc := lc') (fp := fp') (fl := fl') (fc := fc') (fun j v hj => by rw [add_add, Nat.add_comm 1 j]; exact hc (j + 1) v (by rw [List.getElem?_cons_succ]; exact hj)) ?_
          refine (walked_c W n _ hsz _ _ _ _ _ hv hz hz2 (h2.pull 1 rfl)).mono ?_
          rintro e w3 ⟨y, ok, ⟨hy1, hy2, hok⟩, rfl, h3⟩
          refine ⟨y, ok, rfl, ?_⟩
          have h4 := h3.pull 1 rfl
          cases ok
          · exact cond_t rfl ⟨0, false, ⟨by omega, by omega, fun h => by cases h⟩, rfl, h4.drop⟩
          · refine cond_f rfl ?_
            rw [wrapI64 (by omega) (by omega)]
            exact ⟨⟨q + 1, by omega, by omega, hy1, hy2, h4⟩, by first | omega | (dsimp only; omega)⟩
        · exact cond_f (by simpa using hz) hend
      · exact cond_f (by simp; omega) hend
    refine ⟨fun z i w => ∃ q : Nat, i = q ∧ q ≤ L.length ∧ 0 ≤ z ∧ z ≤ 5000 ∧ Sat (Row b0 [.int .i64 k, .int .i64 m, .string s, .slice lp ll lc, .slice fp fl fc] 102 :: Ro W S :: F) w,
      fun _ i _ => (L.length - i).toNat, ⟨0, rfl, by omega, by rw [wrapI64 (by omega) (by omega)]; omega, by rw [wrapI64 (by omega) (by omega)]; omega, h1⟩, ?_⟩
    clear h1
    rintro z i w2 ⟨q, rfl, hq, hz1, hz2, h2⟩
    unfold S_ref2_walked_l0
    refine LdS.of h2 0 rfl (off := 3) rfl (by simp [add_mk]) ?_
    by_cases hql : q < L.length
    · refine cond_t (by simp; omega) ?_
      by_cases hz : 0 < z
      · refine cond_t (by simpa using hz) ?_
        refine LdS.of h2 0 rfl (off := 3) rfl (by simp [add_mk]) ?_
        have hx : L[q]? = some L[q] := List.getElem?_eq_getElem hql
        have hsz : _root_.SizeOf.sizeOf L[q] < n := by
          have := List.sizeOf_lt_of_mem (List.getElem_mem hql)
          simp only [V.mk.sizeOf_spec] at hn
          omega
        generalize L[q] = x at hx hsz
        refine VRs.rd hL (h2.has 1 rfl) hx fun a cs hv hc => ?_
        obtain ⟨k', m', s', L', F', rfl⟩ : ∃ k' m' s' L' F', x = .mk k' m' s' L' F' := by cases x; exact ⟨_, _, _, _, _, rfl⟩
        obtain ⟨lp', ll', lc', fp', fl', fc', rfl, _, _⟩ := hv.open
        refine ldVal hc ?_
        refine (walked_c W n _ hsz _ _ _ _ _ hv hz hz2 (h2.pull 1 rfl)).mono ?_
        rintro e w3 ⟨y, ok, ⟨hy1, hy2, hok⟩, rfl, h3⟩
        refine ⟨y, ok, rfl, ?_⟩
        have h4 := h3.pull 1 rfl
        cases ok
        · exact cond_t rfl ⟨0, false, ⟨by omega, by omega, fun h => by cases h⟩, rfl, h4.drop⟩
        · refine cond_f rfl ?_
          rw [wrapI64 (by omega) (by omega)]
          exact ⟨⟨q + 1, by omega, by omega, hy1, hy2, h4⟩, by first | omega | (dsimp only; omega)⟩
      · exact cond_f (by simpa using hz) (hj _ _ hz1 hz2 h2)
    · exact cond_f (by simp; omega) (hj _ _ hz1 hz2 h2)

theorem Vast_c {W : World} {S : Mem} {L : List V} {p : Option Addr} {l c : Nat} (hL : VRs S L p l c) {F : List HP} {w : World} (hs : Sat (Ro W S :: F) w) :
    Calls Try.prog 33 #[.slice p l c] w fun e w' => ∃ ok : Bool, e = .returned (.bool ok) ∧ Sat (Ro W S :: F) w' := by
  have hll := hL.len; have hlim := hL.lim
  simp only [lim] at hlim
  refine S_ref2_Vast_ok _ _ _ _ _ ?_
  unfold S_ref2_Vast
  refine ⟨fun z i w => ∃ q : Nat, i = q ∧ q ≤ L.length ∧ 0 < z ∧ z ≤ 5000 ∧ Sat (Ro W S :: F) w, fun _ i _ => (L.length - i).toNat, ⟨0, rfl, by omega, by omega, by omega, hs⟩, ?_⟩
  rintro z i w2 ⟨q, rfl, hq, hz1, hz2, h2⟩
  unfold S_ref2_Vast_l0
  by_cases hql : q < L.length
  · refine cond_t (by simp; omega) ?_
    have hx : L[q]? = some L[q] := List.getElem?_eq_getElem hql
    generalize L[q] = x at hx
    refine VRs.rd hL (h2.has 0 rfl) hx fun a cs hv hc => ?_
    obtain ⟨k', m', s', L', F', rfl⟩ : ∃ k' m' s' L' F', x = .mk k' m' s' L' F' := by cases x; exact ⟨_, _, _, _, _, rfl⟩
    obtain ⟨lp', ll', lc', fp', fl', fc', rfl, _, _⟩ := hv.open
    refine ldVal hc ?_
    refine (walked_c W _ _ (Nat.lt_succ_self _) _ _ _ _ _ hv hz1 hz2 h2).mono ?_
    rintro e w3 ⟨y, ok, ⟨hy1, hy2, hok⟩, rfl, h3⟩
    refine ⟨y, ok, rfl, ?_⟩
    cases ok
    · exact cond_t rfl ⟨true, rfl, h3⟩
    · refine cond_f rfl ?_
      rw [wrapI64 (by omega) (by omega)]
      exact ⟨⟨q + 1, by omega, by omega, hok rfl, hy2, h3⟩, by first | omega | (dsimp only; omega)⟩
  · exact cond_f (by simp; omega) ⟨false, rfl, h2⟩

/-- a deed: what, two, a number, a message. -/
structure Dd where
  do_ : Int
  a : Int
  b : Int
  n : Int
  m : Dm
def ddCells (x : Dd) (m : Mg) : List Value := [.int .i64 x.do_, .int .i64 x.a, .int .i64 x.b, .int .i64 x.n] ++ m.cells
def docsOf (l : List Dd) : List V := l.flatMap fun x => x.m.docs
/-- deeds that stand. -/
structure DRs (S : Mem) (L : List Dd) (p : Option Addr) (l : Nat) : Prop where
  len : l = L.length
  lim : L.length ≤ 1048576
  docs : (docsOf L).length ≤ 1048576
  each : ∀ i x, L[i]? = some x → ∃ m, DeepQ S m x.m ∧ ∀ j v, (ddCells x m)[j]? = some v → ∃ a, p = some a ∧ RdS S (a.add (i * 21 + j)) v
theorem DRs.mono {S S' : Mem} (e : Ext S S') {L : List Dd} {p : Option Addr} {l : Nat} (h : DRs S L p l) : DRs S' L p l :=
  ⟨h.len, h.lim, h.docs, fun i x hx => by
    obtain ⟨m, h1, h2⟩ := h.each i x hx
    exact ⟨m, h1.mono e, fun j v hv => by obtain ⟨a, h3, h4⟩ := h2 j v hv; exact ⟨a, h3, h4.mono e⟩⟩⟩
theorem DRs.rd {S : Mem} {L : List Dd} {p : Option Addr} {l : Nat} (h : DRs S L p l) {w : World} (hw : Has S w) {q : Nat} {x : Dd} (hx : L[q]? = some x) {K : Addr → Prop}
    (hk : ∀ a m, DeepQ S m x.m → (∀ j v, (ddCells x m)[j]? = some v → w.cell? (a.add j) = some v) → K a) : IdxC p l (q : Int) 21 K := by
  obtain ⟨m, hq, hr⟩ := h.each q x hx
  obtain ⟨a, rfl, _⟩ := hr 0 _ rfl
  have hlt := get_lt hx
  have hl := h.len
  refine ⟨by omega, by omega, hk _ m hq fun j v hj => ?_⟩
  obtain ⟨b, e1, h2⟩ := hr j v hj
  cases e1
  rw [add_add, Int.toNat_natCast]
  exact h2 w hw
theorem docsOf_take {L : List Dd} {q : Nat} {x : Dd} (hx : L[q]? = some x) : docsOf (L.take (q + 1)) = docsOf (L.take q) ++ x.m.docs := by
  unfold docsOf
  rw [List.take_add_one, hx, List.flatMap_append]
  simp
theorem docsOf_le {L : List Dd} (q : Nat) : (docsOf (L.take q)).length ≤ (docsOf L).length := by
  have : docsOf L = docsOf (L.take q) ++ docsOf (L.drop q) := by unfold docsOf; rw [← List.flatMap_append, List.take_append_drop]
  rw [this, List.length_append]; omega

theorem vast_c {W : World} {S : Mem} {L : List Dd} {p : Option Addr} {l c : Nat} (hL : DRs S L p l) {F : List HP} {w : World} (hs : Sat (Ro W S :: F) w) :
    Calls Try.prog 20 #[.slice p l c] w fun e w' => ∃ (ok : Bool) (S' : Mem), Ext S S' ∧ e = .returned (.bool ok) ∧ Sat (Ro W S' :: F) w' := by
  have hll := hL.len; have hlim := hL.lim; have hdocs := hL.docs
  refine S_law24_vast_ok _ _ _ _ _ ?_
  unfold S_law24_vast
  refine ⟨fun vp vl vc i w => ∃ (q : Nat) (xs : List Value), i = q ∧ q ≤ L.length ∧ vl = (docsOf (L.take q)).length ∧ VL S (docsOf (L.take q)) xs ∧ Sat (Own 102 5 vp vl vc xs :: Ro W S :: F) w,
    fun _ _ _ i _ => (L.length - i).toNat, ⟨0, [], rfl, by omega, rfl, rfl, Sat.ownNil hs _ _⟩, ?_⟩
  rintro vp vl vc i w2 ⟨q, xs, rfl, hq, rfl, hx, h2⟩
  unfold S_law24_vast_l0
  by_cases hql : q < L.length
  · refine cond_t (by simp; omega) ?_
    have hx' : L[q]? = some L[q] := List.getElem?_eq_getElem hql
    generalize L[q] = x at hx'
    refine DRs.rd hL (h2.has 1 rfl) hx' fun a m hm hc => ?_
    refine LdS.at (p := m.dp) (l := m.dl) (c := m.dc) (by rw [add_add, add_add]; exact hc 20 _ rfl) ?_
    obtain ⟨ys, hy, hy2⟩ := hm.docs.cells
    have hdl := hm.docs.len
    have e1 := docsOf_take hx'
    have e2 := docsOf_le (L := L) (q + 1)
    have e3 : (docsOf (L.take (q + 1))).length = (docsOf (L.take q)).length + m.dl := by rw [e1, List.length_append, hdl]
    refine RunS.appRo eok_val h2 0 rfl 1 rfl hy2 (by omega) (by omega) fun p' c' w3 h3 => ?_
    rw [wrapI64 (by omega) (by omega)]
    refine ⟨⟨q + 1, xs ++ ys, by omega, by omega, e3.symm, ?_, h3⟩, by first | omega | (dsimp only; omega)⟩
    rw [e1]
    exact hx.append hy
  · have hql : q = L.length := by omega
    subst hql
    refine cond_f (by simp; omega) ?_
    have hcap := h2.own_cap 0 rfl
    obtain ⟨S', e1, h3, h4⟩ := Sat.freezeAny h2
    rw [List.take_length] at hx hcap
    refine (Vast_c (VRs.ofCells (hx.mono e1) (by rw [List.take_length]) (by simpa [lim] using hdocs) hcap h3) h4).mono ?_
    rintro e w5 ⟨ok, rfl, h5⟩
    exact ⟨ok, rfl, ok, S', e1, rfl, h5⟩
end Go.Proofs.Ytjpaoggcphfjeaa
