
/- 'MarkDeep' answers true: a row of objects, each held by the one ahead, and a ring, are all marked, without more units than objects. No conditions. -/
import Derived.Test.YtdlplljmgkfkgaaMB
set_option maxRecDepth 100000
namespace Go.Proofs.Ytdlplljmgkfkgaa
open Go Go.Lw Go.Wd Go.Am Go.Tb Go.Hm Go.ChangeShapes Go.WideShapes Go.ChangeAt Go.RowKit

theorem setL_length : ∀ (l : List Ob) (k a : Nat) (o : Ob), (setL k l a o).length = l.length
  | [], _, _, _ => rfl
  | p :: l, k, a, o => by
    simp only [setL]
    split
    · rfl
    · simp only [List.length_cons, setL_length l]
/-- objects with two refs each, told by 'xs'; each of the first 'L' but the last holds the next. -/
structure DpB (H : Hp) (xs : List Nat) (L : Nat) : Prop where
  n : H.m.n = 8192
  tn : H.t.n = 4096
  op : H.m.op = false
  top : H.m.top = 3 * xs.length
  cnt : H.t.count = xs.length
  objs : H.m.low.length = xs.length
  nd : ∀ (i j x : Nat), xs[i]? = some x → xs[j]? = some x → i = j
  ob : ∀ (j x : Nat), xs[j]? = some x → ∃ o, H.look x = some o ∧ o.refs = 2 ∧ o.w.length = 2
  link : ∀ (j x y : Nat), j + 1 < L → xs[j]? = some x → xs[j + 1]? = some y → y ∈ refsOf H x
theorem DpB.made {H : Hp} {xs : List Nat} {L : Nat} (hm : H.WF) (h : DpB H xs L) (hl : xs.length < 2000) (hL : L ≤ xs.length) : DpB (H.made 1 2 2) (xs ++ [nextH H.t]) L := by
  have hnf := not_full hm (by rw [h.cnt, h.tn]; omega)
  have hlk := made_look hm (tag := 1) (refs := 2) (size := 2) hnf
  have hnone := next_look hm hnf
  have hin : ∀ i, xs[i]? = some (nextH H.t) → False := fun i hi => by
    obtain ⟨o, a, _⟩ := h.ob _ _ hi
    rw [hnone] at a; cases a
  refine ⟨?_, (make_n _ _).trans h.tn, ?_, ?_, ?_, ?_, fun i j y hi hj => ?_, fun j y hj => ?_, fun j x y hj hx hy => ?_⟩
  · have := h.n; unfold Hp.made Am.alloc; cases hop : H.m.op <;> simpa using this
  · have := h.op; unfold Hp.made Am.alloc; cases hop : H.m.op <;> simp_all
  · rw [made_top hm, h.top]; simp; omega
  · exact (count_make hm.tab).trans (by rw [h.cnt]; simp)
  · have := h.op; have := h.objs; unfold Hp.made Am.alloc; cases hop : H.m.op <;> simp_all
  · rcases Nat.lt_trichotomy i xs.length with g | g | g
    · rw [List.getElem?_append_left g] at hi
      rcases Nat.lt_trichotomy j xs.length with e | e | e
      · rw [List.getElem?_append_left e] at hj; exact h.nd i j y hi hj
      · subst e; simp at hj; subst hj; exact (hin _ hi).elim
      · rw [List.getElem?_eq_none (by simp; omega)] at hj; cases hj
    · subst g
      simp at hi
      subst hi
      rcases Nat.lt_trichotomy j xs.length with e | e | e
      · rw [List.getElem?_append_left e] at hj; exact (hin _ hj).elim
      · exact e.symm
      · rw [List.getElem?_eq_none (by simp; omega)] at hj; cases hj
    · rw [List.getElem?_eq_none (by simp; omega)] at hi; cases hi
  · rw [hlk]
    rcases Nat.lt_trichotomy j xs.length with e | e | e
    · rw [List.getElem?_append_left e] at hj
      obtain ⟨o, a, d⟩ := h.ob _ _ hj
      have hne : y ≠ nextH H.t := fun hh => by rw [hh, hnone] at a; cases a
      exact ⟨o, by rw [if_neg hne]; exact a, d⟩
    · subst e; simp at hj; subst hj; exact ⟨_, if_pos rfl, rfl, by simp [Fresh]⟩
    · rw [List.getElem?_eq_none (by simp; omega)] at hj; cases hj
  · rw [List.getElem?_append_left (by omega)] at hx hy
    have := h.link j x y hj hx hy
    obtain ⟨o, a, _⟩ := h.ob _ _ hx
    have hne : x ≠ nextH H.t := fun hh => by rw [hh, hnone] at a; cases a
    unfold refsOf at this ⊢
    rw [hlk, if_neg hne]; exact this
theorem DpB.set {H : Hp} {xs : List Nat} {L : Nat} (hm : H.WF) (h : DpB H xs L) {k x t y : Nat} {o : Ob} (hx : xs[k]? = some x) (hl : H.look x = some o) (hr : o.refs = 2) (hw : o.w.length = 2) (hk : L ≤ k + 1) : DpB (H.set x (o.put t y)) xs L := by
  have hlk := set_look (o' := o.put t y) hm hl (by simp [Ob.put])
  refine ⟨h.n, h.tn, h.op, (set_top hm hl (by simp [Ob.put])).trans h.top, h.cnt, ?_, h.nd, fun j z hj => ?_, fun j z z' hj hz hz' => ?_⟩
  · have := h.objs
    unfold Hp.set Am.set
    simp only [setL_length]
    exact this
  · rw [hlk]
    by_cases e : z = x
    · exact ⟨_, if_pos e, hr, by simp [Ob.put, hw]⟩
    · rw [if_neg e]; exact h.ob j z hj
  · have := h.link j z z' hj hz hz'
    have hne : z ≠ x := fun e => by
      rw [e] at hz
      have := h.nd _ _ _ hz hx
      omega
    unfold refsOf at this ⊢
    rw [hlk, if_neg hne]; exact this
theorem set_mem {H : Hp} (hm : H.WF) {x t y : Nat} {o : Ob} (hl : H.look x = some o) (hr : o.refs = 2) (hw : o.w.length = 2) (ht : t < 2) : y ∈ refsOf (H.set x (o.put t y)) x := by
  have hlk := set_look (o' := o.put t y) hm hl (by simp [Ob.put]) x
  rw [if_pos rfl] at hlk
  unfold refsOf
  rw [hlk]
  have e : (o.put t y).refs = 2 := hr
  dsimp only
  rw [e, List.take_of_length_le (by simp [Ob.put, hw])]
  exact List.mem_of_getElem? (i := t) (by simp [Ob.put, hw, ht])

/-- what is held while the row is made. -/
def DpS (W : World) (H : Hp) (b : Nat) (xs : List Nat) (p : Option Addr) (c : Nat) : List HP := [HeapH H .nilIface b, Own 26 1 p xs.length c (words xs), Base W]

theorem deep_c (W : World) (n : Int) (ring : Bool) (step : Int) : Calls Try.prog 3 #[.int .i64 n, .bool ring, .int .i64 step] W fun e W' => e = .returned (.bool true) ∧ Below W.heap.size W W' := by
  refine S_law10_MarkDeep_ok _ _ _ _ _ ?_
  unfold S_law10_MarkDeep
  refine (awake10_c (Sat.ofBase W)).mono ?_
  rintro e w1 ⟨rfl, s1⟩
  refine ⟨_, rfl, cond_f rfl ?_⟩
  refine (fresh_c (n := 8192) (k := 4096) (by omega) (by omega) (by omega) (by omega) s1).mono ?_
  rintro e w2 ⟨b, rfl, s2⟩
  refine ⟨_, rfl, cond_f rfl ?_⟩
  obtain ⟨y, hy, hye⟩ := bAnd_le n 1023 (by omega)
  have hye : bAnd .i64 n 1023 = (y : Int) := hye
  have hmany : IntKind.wrap .i64 (2 + bAnd .i64 n 1023) = ((y + 2 : Nat) : Int) := by rw [hye, wrapI64 (by omega) (by omega)]; omega
  obtain ⟨q, hq, hqe⟩ := bAnd_le step 15 (by omega)
  have hqe : bAnd .i64 step 15 = (q : Int) := hqe
  have hkk : IntKind.wrap .i64 (1 + bAnd .i64 step 15) = ((q + 1 : Nat) : Int) := by rw [hqe, wrapI64 (by omega) (by omega)]; omega
  have hy2 : 2 ≤ y + 2 ∧ y + 2 ≤ 1025 := by omega
  generalize y + 2 = many at hmany hy2
  generalize hkq : q + 1 = kk at hkk
  have hkk1 : 1 ≤ kk ∧ kk ≤ 16 := by omega
  refine ⟨fun p l c i w => ∃ (H : Hp) (xs : List Nat), i = xs.length ∧ l = xs.length ∧ xs.length ≤ many ∧ DpB H xs xs.length ∧ H.roots = List.replicate 16 0 ∧ Sat (DpS W H b xs p c) w, fun _ _ _ i _ => (many - i).toNat,
    ⟨Hp.new 8192 4096, [], rfl, rfl, by simp, ⟨rfl, rfl, rfl, rfl, rfl, rfl, fun i j x h => by simp at h, fun j x h => by simp at h, fun j x y hj => by simp at hj⟩, rfl, (s2.ownNil _ _).p1⟩, ?_⟩
  rintro p l c i w3 ⟨H, xs, rfl, rfl, hk, hD, hrt, s3⟩
  unfold S_law10_MarkDeep_l2
  rw [hmany]
  have hm := sat_wf s3
  by_cases hlt : xs.length < many
  · refine cond_t (by simp; omega) ?_
    intro k0 hk0
    have h1 := hD.n; have h2 := hD.tn; have h3 := hD.top; have h4 := hD.cnt
    have hnf := not_full hm (by omega)
    have hmade := hD.made hm (by omega) (Nat.le_refl _)
    refine (mk_c s3 (tag := 1) (refs := 2) (size := 2) (makeE_of (by omega) (by omega) (by omega) (by omega) (by omega))).mono ?_
    rintro e w4 ⟨rfl, s4⟩
    refine ⟨_, _, rfl, cond_f rfl ?_⟩
    have hm4 := sat_wf s4
    have hxu := next_u64 hm hnf
    have hr4 : (H.made 1 2 2).roots = List.replicate 16 0 := hrt
    generalize H.made 1 2 2 = H4 at s4 hm4 hmade hr4
    generalize nextH H.t = x at hmade hxu
    have fin : ∀ p' c' w H', DpB H' (xs ++ [x]) (xs.length + 1) → H'.roots = List.replicate 16 0 → Sat [HeapH H' .nilIface b, Own 26 1 p' (xs.length + 1) c' (words xs ++ [.int .u64 (x : Int)]), Base W] w → k0 p' (xs.length + 1) c' w := by
      intro p' c' w H' hD' hr' hs'
      refine hk0 _ _ _ _ ?_
      unfold S_law10_MarkDeep_j0
      rw [wrapI64 (by omega) (by omega)]
      refine ⟨⟨H', xs ++ [x], by simp, by simp, by simp; omega, by rw [List.length_append, List.length_singleton]; exact hD', hr', ?_⟩, by first | omega | (dsimp only; omega)⟩
      unfold DpS
      rw [words_snoc, List.length_append, List.length_singleton]
      exact hs'
    by_cases h0 : 0 < xs.length
    · refine cond_t (by simp; omega) ?_
      have hpx : xs[xs.length - 1]? = some (xs[xs.length - 1]'(by omega)) := List.getElem?_eq_getElem (by omega)
      generalize xs[xs.length - 1]'(by omega) = px at hpx
      have hi1 : IntKind.wrap .i64 ((xs.length : Int) - 1) = ((xs.length - 1 : Nat) : Int) := by rw [wrapI64 (by omega) (by omega)]; omega
      refine own_word s4 1 rfl rfl hpx hi1 ?_
      obtain ⟨t, ht, hte⟩ := bAnd_le (xs.length : Int) 1 (by omega)
      have hte : bAnd .i64 (xs.length : Int) 1 = (t : Int) := hte
      rw [hte]
      have hpx' : (xs ++ [x])[xs.length - 1]? = some px := by rw [List.getElem?_append_left (by omega)]; exact hpx
      obtain ⟨o, ho1, ho2, ho3⟩ := hmade.ob _ _ hpx'
      obtain ⟨ox, hox, _⟩ := hmade.ob xs.length x (by simp)
      refine (srf_c s4 (i := t) ho1 (by omega) rfl hxu (may_of hox)).mono ?_
      rintro e w5 ⟨rfl, s5⟩
      refine ⟨_, rfl, cond_f rfl ?_⟩
      refine RunS.one eok_u64 s5 1 rfl (by rfl) (by rfl) (by omega) (by simp only [maxLen]; omega) fun p' c' w6 s6 => ?_
      have hset := hmade.set hm4 (t := t) (y := x) hpx' ho1 ho2 ho3 (by omega)
      have hmem := set_mem hm4 (t := t) (y := x) ho1 ho2 ho3 (by omega)
      refine fin p' c' w6 _ ⟨hset.n, hset.tn, hset.op, hset.top, hset.cnt, hset.objs, hset.nd, hset.ob, fun j z z' hj hz hz' => ?_⟩ hr4 s6
      by_cases e : j + 1 < xs.length
      · exact hset.link j z z' e hz hz'
      · have e : j = xs.length - 1 := by omega
        subst e
        rw [hpx'] at hz
        cases hz
        rw [show xs.length - 1 + 1 = xs.length by omega] at hz'
        simp at hz'
        subst hz'
        exact hmem
    · refine cond_f (decide_eq_false (by omega)) ?_
      refine RunS.one eok_u64 s4 1 rfl (by rfl) (by rfl) (by omega) (by simp only [maxLen]; omega) fun p' c' w6 s6 => ?_
      refine fin p' c' w6 _ ⟨hmade.n, hmade.tn, hmade.op, hmade.top, hmade.cnt, hmade.objs, hmade.nd, hmade.ob, fun j z z' hj hz hz' => by omega⟩ hr4 s6
  · have hxm : xs.length = many := by omega
    refine cond_f (by simp; omega) ?_
    intro k1 hk1
    have hx0 : xs[0]? = some (xs[0]'(by omega)) := List.getElem?_eq_getElem (by omega)
    generalize xs[0]'(by omega) = x0 at hx0
    have hxl : xs[many - 1]? = some (xs[many - 1]'(by omega)) := List.getElem?_eq_getElem (by omega)
    generalize xs[many - 1]'(by omega) = xl at hxl
    have fin : ∀ w H', DpB H' xs xs.length → H'.roots = (List.replicate 16 0).set 7 x0 → Sat (DpS W H' b xs p c) w → k1 w := by
      intro w H' hD' hr' s4
      refine hk1 _ ?_
      unfold S_law10_MarkDeep_j1
      have hm' := sat_wf s4
      refine (mnew_c s4).mono ?_
      rintro e w4 ⟨mb, rfl, s5⟩
      refine ⟨_, rfl, ?_⟩
      refine (mstart_c s5 hD'.op).mono ?_
      rintro e w5 ⟨rfl, s6⟩
      refine ⟨_, rfl, cond_f rfl ?_⟩
      have hI := Inv.began hm'
      obtain ⟨hbw, hbs, hbp⟩ := began_ok hm'
      have hp0 : pot (began H') = many := by
        rw [hbp, hD'.objs, (hm'.am.shut hD'.op).2]; simp; omega
      have hreach : ∀ (j x : Nat), xs[j]? = some x → Hm.Reach H' x := by
        intro j
        induction j with
        | zero =>
          intro x hx
          rw [hx0] at hx
          cases hx
          obtain ⟨o, ho, _⟩ := hD'.ob _ _ hx0
          refine .root ?_ (by rw [ho]; rfl)
          rw [hr']
          exact List.mem_of_getElem? (i := 7) rfl
        | succ j ih =>
          intro x hx
          have hlt := get_lt hx
          have hp : xs[j]? = some (xs[j]'(by omega)) := List.getElem?_eq_getElem (by omega)
          obtain ⟨o, ho, _⟩ := hD'.ob _ _ hx
          exact .step (ih _ hp) (hD'.link j _ x (by omega) hp hx) (by rw [ho]; rfl)
      generalize began H' = s0 at s6 hI hbw hbs hbp hp0
      refine ⟨fun i w => ∃ q : Nat, i = q ∧ q ≤ many / kk ∧ Inv (units (q * kk) s0) ∧ Sk H' (units (q * kk) s0).1 ∧ pot (units (q * kk) s0) + q * kk = many ∧ Sat (HeapH (units (q * kk) s0).1 (mkW mb) b :: MkH b mb (units (q * kk) s0).2 true :: Own 26 1 p xs.length c (words xs) :: [Base W]) w, fun i _ => (many / kk + 1 - i.toNat),
        ⟨0, rfl, Nat.zero_le _, by rw [Nat.zero_mul]; exact hI, by rw [Nat.zero_mul]; exact hbs, by rw [Nat.zero_mul]; exact hp0, by rw [Nat.zero_mul]; exact s6⟩, ?_⟩
      rintro i w6 ⟨q, rfl, hq, hI6, hS6, hP6, s7⟩
      unfold S_law10_MarkDeep_l1
      rw [hmany, hkk, tdiv_nat]
      have hdv := Nat.div_le_self many kk
      generalize hz : many / kk = z at hq hdv ⊢
      rw [wrapI64 (n := ((z : Nat) : Int)) (by omega) (by omega)]
      refine ⟨by omega, cond_t (by simp; omega) ?_⟩
      have hu6 : ∀ x ∈ (units (q * kk) s0).2, x < 18446744073709551616 := fun x hx => by
        obtain ⟨o, ho⟩ := Option.isSome_iff_exists.1 (isM_live (hI6.stack x hx))
        exact look_lt hI6.wf ho
      refine (mstep_c s7 (n := kk) (by omega) (by omega) (by have : pot ((units (q * kk) s0).1, (units (q * kk) s0).2) = pot (units (q * kk) s0) := rfl; omega) hu6).mono ?_
      rintro e w7 ⟨rfl, s8⟩
      have he : units kk ((units (q * kk) s0).1, (units (q * kk) s0).2) = units ((q + 1) * kk) s0 := by rw [Nat.succ_mul, units_add]
      rw [he] at s8 ⊢
      refine ⟨_, _, rfl, cond_f rfl ?_⟩
      have hI7 : Inv (units ((q + 1) * kk) s0) := by rw [← he]; exact hI6.units kk
      obtain ⟨_, hS7, hP7⟩ := units_ok hI6.wf kk
      rw [show units kk (units (q * kk) s0) = units ((q + 1) * kk) s0 from he] at hS7 hP7
      have hS7 := hS6.trans hS7
      by_cases hdone : (units ((q + 1) * kk) s0).2 = []
      · refine cond_t (by simpa using hdone) ?_
        refine ⟨fun j w => ∃ r : Nat, j = r ∧ r ≤ many ∧ Sat (HeapH (units ((q + 1) * kk) s0).1 (mkW mb) b :: MkH b mb (units ((q + 1) * kk) s0).2 true :: Own 26 1 p xs.length c (words xs) :: [Base W]) w, fun j _ => (many - j).toNat, ⟨0, rfl, by omega, s8⟩, ?_⟩
        rintro j w8 ⟨r, rfl, hr, s9⟩
        unfold S_law10_MarkDeep_l0
        rw [hmany]
        by_cases hrm : r < many
        · refine cond_t (by simp; omega) ?_
          have hxr : xs[r]? = some (xs[r]'(by omega)) := List.getElem?_eq_getElem (by omega)
          generalize xs[r]'(by omega) = xr at hxr
          refine own_word s9 2 rfl rfl hxr rfl ?_
          have hmk := hI7.all hdone (hS7.reach (hreach r xr hxr))
          have hlv := isM_live hmk
          obtain ⟨o, ho⟩ := Option.isSome_iff_exists.1 hlv
          refine (is_m s9 (look_lt hI7.wf ho) true).mono ?_
          rintro e w9 ⟨rfl, s10⟩
          rw [hlv, hmk]
          refine ⟨_, rfl, cond_f rfl ?_⟩
          rw [wrapI64 (by omega) (by omega)]
          exact ⟨⟨r + 1, by omega, by omega, s10⟩, by first | omega | (dsimp only; omega)⟩
        · exact cond_f (by simp; omega) ⟨rfl, s9.below 3 rfl⟩
      · refine cond_f (by simpa using hdone) ?_
        have hp7 := hP7 hdone
        have hpos : 1 ≤ pot (units ((q + 1) * kk) s0) := by
          unfold pot
          cases hs2 : (units ((q + 1) * kk) s0).2 with
          | nil => exact absurd hs2 hdone
          | cons a l => simp; omega
        have hqk : (q + 1) * kk = q * kk + kk := Nat.succ_mul _ _
        have hq1 : q + 1 ≤ z := by rw [← hz]; exact (Nat.le_div_iff_mul_le (by omega)).2 (by omega)
        rw [wrapI64 (by omega) (by omega)]
        exact ⟨⟨q + 1, by omega, hq1, hI7, hS7, by omega, s8⟩, by first | omega | (dsimp only; omega)⟩
    have s4 := s3.drew
    generalize w3.drew = w4 at s4
    refine ⟨fun w => ∃ H, Sat (DpS W H b xs p c) w, ⟨_, s4⟩, ?_⟩
    have hC : ∀ w, (∃ H, Sat (DpS W H b xs p c) w) → ∃ (L' : List HP) (q' : Nat), Sat L' w ∧ L'[q']? = some (Own 26 1 p xs.length c (words xs)) := fun w ⟨H, h⟩ => ⟨_, 1, h, rfl⟩
    have s4' : Sat [HeapH H .nilIface b, Own 26 1 p xs.length c (words xs), Base W] w4 := s4
    obtain ⟨o0, ho0, _⟩ := hD.ob _ _ hx0
    have hx0u := look_lt hm ho0
    cases ring with
    | true =>
      refine cond_t rfl ?_
      have hi1 : IntKind.wrap .i64 ((many : Int) - 1) = ((many - 1 : Nat) : Int) := by rw [wrapI64 (by omega) (by omega)]; omega
      refine own_wordQ s4' 1 rfl hC rfl hxl hi1 ?_
      refine own_wordQ s4' 1 rfl hC rfl hx0 rfl ?_
      obtain ⟨o, ho1, ho2, ho3⟩ := hD.ob _ _ hxl
      refine (srf_c s4' (i := 1) ho1 (by omega) rfl hx0u (may_of ho0)).mono ?_
      rintro e w5 ⟨rfl, s5⟩
      have hD5 := hD.set hm (t := 1) (y := x0) hxl ho1 ho2 ho3 (by omega)
      have hm5 := sat_wf s5
      refine ⟨_, rfl, ⟨_, s5⟩, cond_f rfl ?_⟩
      refine own_wordQ s5 1 rfl hC rfl hx0 rfl ?_
      obtain ⟨o5, ho5, _⟩ := hD5.ob _ _ hx0
      refine (srt_c s5 (i := 7) (by omega) rfl hx0u (may_of ho5)).mono ?_
      rintro e w6 ⟨rfl, s6⟩
      refine ⟨_, rfl, ⟨_, s6⟩, cond_f rfl ?_⟩
      refine fin w6 (Hp.rooted (H.set xl (o.put 1 x0)) 7 x0) ⟨hD5.n, hD5.tn, hD5.op, hD5.top, hD5.cnt, hD5.objs, hD5.nd, hD5.ob, hD5.link⟩ ?_ s6
      have : (Hp.rooted (H.set xl (o.put 1 x0)) 7 x0).roots = H.roots.set 7 x0 := rfl
      rw [this, hrt]
    | false =>
      refine cond_f rfl ?_
      refine own_wordQ s4' 1 rfl hC rfl hx0 rfl ?_
      refine (srt_c s4' (i := 7) (by omega) rfl hx0u (may_of ho0)).mono ?_
      rintro e w6 ⟨rfl, s6⟩
      refine ⟨_, rfl, ⟨_, s6⟩, cond_f rfl ?_⟩
      refine fin w6 (H.rooted 7 x0) ⟨hD.n, hD.tn, hD.op, hD.top, hD.cnt, hD.objs, hD.nd, hD.ob, hD.link⟩ ?_ s6
      have : (H.rooted 7 x0).roots = H.roots.set 7 x0 := rfl
      rw [this, hrt]

set_option maxRecDepth 100000 in
theorem deep_lifted (os : Os) (started : os.Started) (H : Type) (enc : TypeId × Value → H) :
    ReturnsInHanded {} Try.checked os 3 .any (Rows.markDeepSpec.pre6 enc Try.prog Try.f3 Rows.markDeepRow.domain false) (Rows.markDeepSpec.post enc Try.prog Try.f3 false true false false) := by
  refine returnsInHanded_of_change (C := Try.checked) own started (by kernel_rfl) Try.func3
    (ChangeSpec.witness6 (enc := enc) (C := Try.checked) false ⟨#[], #[.int .i64 0, .bool false, .int .i64 0], []⟩ 8 (by kernel_rfl) (by kernel_rfl) (by kernel_rfl) (by kernel_rfl)) ?_
  intro W base args ds gs before hval hW hcnd _
  have hval : ∀ (j : Nat) t v, Try.f3.params[j]? = some t → args[j]? = some v → Value.okWide Try.prog W .any base t v := hval
  have hW' : DataW.Whole enc Try.prog Try.f3.params.toList Rows.markDeepSpec.vars false W args.toList ds gs before := hW
  obtain ⟨p, q, hA, hV, _⟩ := hW'
  rw [Try.params3] at hA hval
  obtain ⟨v0, v1, v2, d0, d1, d2, p0, p1, p2, rfl, rfl, rfl, h0, h1, h2⟩ := trodAll_three hA
  obtain ⟨n0, rfl, rfl, rfl, wn0⟩ := open_int Try.underlying3 (hval 0 3 v0 rfl rfl) h0
  obtain ⟨n1, rfl, rfl, rfl⟩ := open_bool Try.underlying4 (hval 1 4 v1 rfl rfl) h1
  obtain ⟨n2, rfl, rfl, rfl, wn2⟩ := open_int Try.underlying3 (hval 2 3 v2 rfl rfl) h2
  refine (deep_c W n0 n1 n2).mono fun e W' ⟨he, hs⟩ => ?_
  exact ⟨_, he, law_post (tb := 4) laidOut (by decide +kernel) (by kernel_rfl) Try.underlying4 rfl hW ⟨rfl, rfl, rfl⟩ hs⟩

theorem deep_holds : Rows.MarkDeepSaid :=
  OpenClaim.holds_of_wide 3 Try.f3 rfl rfl rfl rfl rfl rfl rfl ⟨rfl, rfl, rfl, rfl, rfl⟩ rfl rfl rfl rfl rfl (by kernel_rfl) Try.func3 (by kernel_rfl)
    (of_decide_eq_true (by kernel_rfl)) (by unfold Func.isWrapper; first | (rw [if_pos (by decide +kernel)]; kernel_rfl) | (rw [if_neg (by decide +kernel)]; exact ⟨rfl, rfl⟩))
    (fun os started H enc _ => deep_lifted os started H enc)
end Go.Proofs.Ytdlplljmgkfkgaa
