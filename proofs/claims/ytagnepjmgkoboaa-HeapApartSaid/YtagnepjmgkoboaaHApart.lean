
/- 'HeapApart' answers true: what is set in one object, or one root, changes no other one. No conditions. -/
import Derived.Test.YtagnepjmgkoboaaHB
set_option maxRecDepth 100000
namespace Go.Proofs.Ytagnepjmgkoboaa
open Go Go.Lw Go.Wd Go.Am Go.Tb Go.Hm Go.ChangeShapes Go.WideShapes Go.ChangeAt Go.RowKit

theorem iMin_nat (a b : Nat) : iMin (a : Int) (b : Int) = ((min a b : Nat) : Int) := by unfold iMin; split <;> omega
/-- the word with each bit turned. -/
def cpl (z : Int) : Nat := (bXor .u64 (IntKind.max .u64) z).toNat
theorem wrap_u64_lt (n : Int) : 0 ≤ IntKind.wrap .u64 n ∧ IntKind.wrap .u64 n < 18446744073709551616 := by
  simp [IntKind.wrap, IntKind.bits, IntKind.signed]; omega
theorem cpl_eq (z : Int) : bXor .u64 (IntKind.max .u64) z = (cpl z : Int) ∧ cpl z < 18446744073709551616 := by
  have : 0 ≤ bXor .u64 (IntKind.max .u64) z ∧ bXor .u64 (IntKind.max .u64) z < 18446744073709551616 := wrap_u64_lt _
  unfold cpl; omega

/-- objects with a ref and two words each, told by 'xs'. -/
structure ApB (zs : List Int) (H : Hp) (xs : List Nat) (g : Nat → List Nat) : Prop where
  n : H.m.n = 4096
  tn : H.t.n = 256
  top : H.m.top = 4 * xs.length
  cnt : H.t.count = xs.length
  nd : ∀ (i j x : Nat), xs[i]? = some x → xs[j]? = some x → i = j
  ob : ∀ (j x : Nat), xs[j]? = some x → ∃ o, H.look x = some o ∧ o.refs = 1 ∧ o.w = g j
def apW (zs : List Int) (j : Nat) : List Nat := [0, (zs.getD j 0).toNat, cpl (zs.getD j 0)]

theorem ApB.set {zs : List Int} {H : Hp} {xs : List Nat} {g : Nat → List Nat} (h : ApB zs H xs g) (hm : H.WF) {k x i y : Nat} {o : Ob} (hx : xs[k]? = some x) (hl : H.look x = some o) (hr : o.refs = 1) (hw : o.w = g k) :
    ApB zs (H.set x (o.put i y)) xs (fun j => if j = k then (g k).set i y else g j) := by
  refine ⟨h.n, h.tn, (set_top hm hl (by simp [Ob.put])).trans h.top, h.cnt, h.nd, fun j x' hj => ?_⟩
  rw [set_look hm hl (by simp [Ob.put])]
  by_cases e : j = k
  · subst e
    rw [hx] at hj
    cases hj
    exact ⟨_, if_pos rfl, hr, by simp [Ob.put, hw]⟩
  · obtain ⟨p, h1, h2, h3⟩ := h.ob j x' hj
    refine ⟨p, ?_, h2, by rw [if_neg e]; exact h3⟩
    have hne : x' ≠ x := fun hh => e (h.nd _ _ _ (by rw [hh] at hj; exact hj) hx)
    rw [if_neg hne, h1]
theorem ApB.rooted {zs : List Int} {H : Hp} {xs : List Nat} {g : Nat → List Nat} (h : ApB zs H xs g) (i x : Nat) : ApB zs (H.rooted i x) xs g := ⟨h.n, h.tn, h.top, h.cnt, h.nd, h.ob⟩
theorem ApB.congr {zs : List Int} {H : Hp} {xs : List Nat} {g g' : Nat → List Nat} (h : ApB zs H xs g) (hg : ∀ j, j < xs.length → g j = g' j) : ApB zs H xs g' :=
  ⟨h.n, h.tn, h.top, h.cnt, h.nd, fun j x hj => by obtain ⟨o, a, b, c⟩ := h.ob j x hj; exact ⟨o, a, b, c.trans (hg j (get_lt hj))⟩⟩

theorem apart_c (W : World) {p : Option Addr} {l c : Nat} {zs : List Int} (hz : ArgI W .u64 p l zs) (i : Int) {v : Nat} (hv : v < 18446744073709551616) :
    Calls Try.prog 3 #[.slice p l c, .int .i64 i, .int .u64 (v : Int)] W fun e W' => e = .returned (.bool true) ∧ Below W.heap.size W W' := by
  have hzl := hz.len
  have hzw : ∀ (j : Nat) z, zs[j]? = some z → ∃ n : Nat, z = n ∧ n < 18446744073709551616 := fun j z h => wf_u64 (hz.wf z (List.mem_of_getElem? h))
  have hzg : ∀ j, j < l → zs[j]? = some ((zs.getD j 0).toNat : Int) ∧ (zs.getD j 0).toNat < 18446744073709551616 := fun j hj => by
    have h1 : zs[j]? = some (zs.getD j 0) := by rw [List.getD_eq_getElem?_getD, List.getElem?_eq_getElem (by omega)]; rfl
    obtain ⟨n, h2, h3⟩ := hzw j _ h1
    rw [h1, h2]
    exact ⟨rfl, h3⟩
  refine S_law9_HeapApart_ok _ _ _ _ _ _ _ ?_
  unfold S_law9_HeapApart
  refine (awake_c (Sat.ofBase W)).mono ?_
  rintro e w1 ⟨rfl, s1⟩
  refine ⟨_, rfl, cond_f rfl ?_⟩
  refine (fresh_c (n := 4096) (k := 256) (by omega) (by omega) (by omega) (by omega) s1).mono ?_
  rintro e w2 ⟨b, rfl, s2⟩
  refine ⟨_, rfl, cond_f rfl ?_⟩
  rw [show (30 : Int) = ((30 : Nat) : Int) from rfl, iMin_nat]
  have hn30 : min l 30 ≤ 30 := Nat.min_le_right _ _
  have hnl : min l 30 ≤ l := Nat.min_le_left _ _
  generalize hn : min l 30 = n at hn30 hnl ⊢
  by_cases hn0 : n = 0
  · subst hn0
    exact cond_t (by rfl) ⟨rfl, s2.below 1 rfl⟩
  refine cond_f (by simpa using hn0) ?_
  refine ⟨fun xp xl xc k w => ∃ (H : Hp) (xs : List Nat), k = xs.length ∧ xl = xs.length ∧ xs.length ≤ n ∧ ApB zs H xs (apW zs) ∧ H.roots = List.replicate 16 0 ∧ Sat [HeapH H .nilIface b, Own 23 1 xp xl xc (words xs), Base W] w,
    fun _ _ _ k _ => (n - k).toNat, ⟨Hp.new 4096 256, [], rfl, rfl, by simp, ⟨rfl, rfl, rfl, rfl, fun i j x h => by simp at h, fun j x h => by simp at h⟩, rfl, (s2.ownNil _ _).p1⟩, ?_⟩
  rintro xp xl xc k w3 ⟨H, xs, rfl, rfl, hk, hA, hrt, s3⟩
  unfold S_law9_HeapApart_l2
  rw [show (30 : Int) = ((30 : Nat) : Int) from rfl, iMin_nat, hn]
  by_cases hlt : xs.length < n
  · refine cond_t (by simp; omega) ?_
    have hm := sat_wf s3
    have h1 := hA.n; have h2 := hA.tn; have h3 := hA.top; have h4 := hA.cnt
    have hnf : ¬ H.t.full := not_full hm (by omega)
    refine (mk_c s3 (tag := 3) (refs := 1) (size := 3) (makeE_of (by omega) (by omega) (by omega) (by omega) (by omega))).mono ?_
    rintro e w4 ⟨rfl, s4⟩
    refine ⟨_, _, rfl, cond_f rfl ?_⟩
    have hm4 := sat_wf s4
    have hnone := next_look hm hnf
    have hu := next_u64 hm hnf
    have hn4 : (H.made 3 1 3).m.n = 4096 := by unfold Hp.made Am.alloc; cases hop : H.m.op <;> simpa using h1
    have ht4 : (H.made 3 1 3).t.n = 256 := (make_n _ _).trans h2
    have htop4 := made_top (tag := 3) (refs := 1) (size := 3) hm
    have hcnt4 : (H.made 3 1 3).t.count = xs.length + 1 := (count_make hm.tab).trans (by rw [h4])
    have hr4 : (H.made 3 1 3).roots = List.replicate 16 0 := hrt
    have hl4 := made_look hm (tag := 3) (refs := 1) (size := 3) hnf
    have how : (Fresh 3 1 3 H.t.nextSlot).w = [0, 0, 0] := rfl
    have hor : (Fresh 3 1 3 H.t.nextSlot).refs = 1 := rfl
    generalize H.made 3 1 3 = H4 at s4 hm4 hn4 ht4 htop4 hcnt4 hr4 hl4
    generalize Fresh 3 1 3 H.t.nextSlot = o4 at hl4 how hor
    generalize nextH H.t = x at *
    have hl4x := (hl4 x).trans (if_pos rfl)
    obtain ⟨hz1, hz2⟩ := hzg xs.length (by omega)
    refine arg_int s4 2 rfl hz hz1 rfl ?_
    refine (swd_c s4 (i := 0) hl4x (by rw [how, hor]; simp) rfl hz2).mono ?_
    rintro e w5 ⟨rfl, s5⟩
    refine ⟨_, rfl, cond_f rfl ?_⟩
    refine arg_int s5 2 rfl hz hz1 rfl ?_
    have how5 : (o4.put (o4.refs + 0) (zs.getD xs.length 0).toNat).w = [0, (zs.getD xs.length 0).toNat, 0] := by rw [hor]; simp [Ob.put, how]
    have hor5 : (o4.put (o4.refs + 0) (zs.getD xs.length 0).toNat).refs = 1 := hor
    have hlen5 : (o4.put (o4.refs + 0) (zs.getD xs.length 0).toNat).w.length = o4.w.length := by rw [how5, how]; rfl
    generalize o4.put (o4.refs + 0) (zs.getD xs.length 0).toNat = o5 at s5 how5 hor5 hlen5
    have hl5 := set_look hm4 hl4x hlen5
    have htop5 := set_top hm4 hl4x hlen5
    have hm5 := sat_wf s5
    have hn5 : (H4.set x o5).m.n = 4096 := hn4
    have ht5 : (H4.set x o5).t.n = 256 := ht4
    have hcnt5 : (H4.set x o5).t.count = xs.length + 1 := hcnt4
    have hr5 : (H4.set x o5).roots = List.replicate 16 0 := hr4
    generalize H4.set x o5 = H5 at s5 hl5 htop5 hm5 hn5 ht5 hcnt5 hr5
    have hl5x := (hl5 x).trans (if_pos rfl)
    have hc := cpl_eq (zs.getD xs.length 0)
    have hzz : (((zs.getD xs.length 0).toNat : Nat) : Int) = zs.getD xs.length 0 := by
      rw [List.getD_eq_getElem?_getD, hz1]; rfl
    rw [hzz, hc.1]
    refine (swd_c s5 (i := 1) hl5x (by rw [how5, hor5]; simp) rfl hc.2).mono ?_
    rintro e w6 ⟨rfl, s6⟩
    refine ⟨_, rfl, cond_f rfl ?_⟩
    have how6 : (o5.put (o5.refs + 1) (cpl (zs.getD xs.length 0))).w = [0, (zs.getD xs.length 0).toNat, cpl (zs.getD xs.length 0)] := by rw [hor5]; simp [Ob.put, how5]
    have hor6 : (o5.put (o5.refs + 1) (cpl (zs.getD xs.length 0))).refs = 1 := hor5
    have hlen6 : (o5.put (o5.refs + 1) (cpl (zs.getD xs.length 0))).w.length = o5.w.length := by rw [how6, how5]; rfl
    generalize o5.put (o5.refs + 1) (cpl (zs.getD xs.length 0)) = o6 at s6 how6 hor6 hlen6
    have hl6 := set_look hm5 hl5x hlen6
    have htop6 := set_top hm5 hl5x hlen6
    have hn6 : (H5.set x o6).m.n = 4096 := hn5
    have ht6 : (H5.set x o6).t.n = 256 := ht5
    have hcnt6 : (H5.set x o6).t.count = xs.length + 1 := hcnt5
    have hr6 : (H5.set x o6).roots = List.replicate 16 0 := hr5
    generalize H5.set x o6 = H6 at s6 hl6 htop6 hn6 ht6 hcnt6 hr6
    refine RunS.one eok_u64 s6 1 rfl (by rfl) (by rfl) (by omega) (by simp only [maxLen]; omega) fun p' c' w' s7 => ?_
    rw [wrapI64 (by omega) (by omega)]
    have hin : ∀ i, xs[i]? = some x → False := fun i h => by
      obtain ⟨o, a, _⟩ := hA.ob _ _ h
      rw [hnone] at a; cases a
    refine ⟨⟨H6, xs ++ [x], by simp, by simp, by simp; omega, ⟨hn6, ht6, by rw [htop6, htop5, htop4, h3]; simp; omega, by rw [hcnt6]; simp, ?_, ?_⟩, hr6, ?_⟩, by first | omega | (dsimp only; omega)⟩
    · intro i j y hi hj
      rcases Nat.lt_trichotomy i xs.length with h | h | h
      · rw [List.getElem?_append_left h] at hi
        rcases Nat.lt_trichotomy j xs.length with g | g | g
        · rw [List.getElem?_append_left g] at hj; exact hA.nd i j y hi hj
        · subst g; simp at hj; subst hj; exact (hin _ hi).elim
        · rw [List.getElem?_eq_none (by simp; omega)] at hj; cases hj
      · subst h
        simp at hi
        subst hi
        rcases Nat.lt_trichotomy j xs.length with g | g | g
        · rw [List.getElem?_append_left g] at hj; exact (hin _ hj).elim
        · exact g.symm
        · rw [List.getElem?_eq_none (by simp; omega)] at hj; cases hj
      · rw [List.getElem?_eq_none (by simp; omega)] at hi; cases hi
    · intro j y hj
      rw [hl6, hl5, hl4]
      rcases Nat.lt_trichotomy j xs.length with g | g | g
      · rw [List.getElem?_append_left g] at hj
        obtain ⟨o, a, d⟩ := hA.ob _ _ hj
        have hne : y ≠ x := fun hh => by rw [hh, hnone] at a; cases a
        rw [if_neg hne, if_neg hne, if_neg hne]
        exact ⟨o, a, d⟩
      · subst g
        simp at hj
        subst hj
        exact ⟨_, if_pos rfl, hor6, how6⟩
      · rw [List.getElem?_eq_none (by simp; omega)] at hj; cases hj
    · rw [words_snoc]
      exact s7
  · have hkn : xs.length = n := by omega
    refine cond_f (by simp; omega) ?_
    refine ⟨by omega, fun k1 hk1 => ?_⟩
    have hkk : ∃ k : Nat, k < n ∧ cond (decide (Int.tmod i (n : Int) < 0)) (k1 (IntKind.wrap .i64 (0 - Int.tmod i (n : Int))) w3) (k1 (Int.tmod i (n : Int)) w3) = k1 (k : Int) w3 := by
      have e1 : (Int.tmod i (n : Int)).natAbs < n := by
        have := Int.natAbs_tmod i (n : Int)
        rw [this]
        simpa using Nat.mod_lt i.natAbs (by omega : 0 < n)
      refine ⟨(Int.tmod i (n : Int)).natAbs, e1, ?_⟩
      by_cases hneg : Int.tmod i (n : Int) < 0
      · rw [show decide (Int.tmod i (n : Int) < 0) = true by simpa using hneg, cond_true, wrapI64 (by omega) (by omega)]
        congr 1; omega
      · rw [show decide (Int.tmod i (n : Int) < 0) = false by simpa using hneg, cond_false]
        congr 1; omega
    obtain ⟨k, hkn', hke⟩ := hkk
    rw [hke]
    refine hk1 _ _ ?_
    unfold S_law9_HeapApart_j2
    have hxk : xs[k]? = some (xs[k]'(by omega)) := List.getElem?_eq_getElem (by omega)
    have hx0 : xs[0]? = some (xs[0]'(by omega)) := List.getElem?_eq_getElem (by omega)
    generalize xs[k]'(by omega) = xk at hxk
    generalize xs[0]'(by omega) = x0 at hx0
    have s4 := s3.drew
    generalize World.drew w3 = w4 at s4
    refine ⟨fun w => ∃ H, Sat [HeapH H .nilIface b, Own 23 1 xp xs.length xc (words xs), Base W] w, ⟨_, s4⟩, ?_⟩
    have hC : ∀ w, (∃ H, Sat [HeapH H .nilIface b, Own 23 1 xp xs.length xc (words xs), Base W] w) → ∃ (L' : List HP) (q' : Nat), Sat L' w ∧ L'[q']? = some (Own 23 1 xp xs.length xc (words xs)) := fun w ⟨H, h⟩ => ⟨_, 1, h, rfl⟩
    refine own_wordQ s4 1 rfl hC rfl hxk rfl ?_
    obtain ⟨o, ho1, ho2, ho3⟩ := hA.ob _ _ hxk
    have hm4 := sat_wf s4
    refine (swd_c s4 (i := 1) ho1 (by rw [ho2, ho3]; simp [apW]) rfl hv).mono ?_
    rintro e w5 ⟨rfl, s5⟩
    refine ⟨_, rfl, ⟨_, s5⟩, cond_f rfl ?_⟩
    have hA5 := hA.set (i := o.refs + 1) (y := v) hm4 hxk ho1 ho2 ho3
    have hm5 := sat_wf s5
    generalize hH5 : H.set xk (o.put (o.refs + 1) v) = H5 at s5 hA5 hm5
    have hr5 : H5.roots = List.replicate 16 0 := by rw [← hH5]; exact hrt
    rw [ho2] at hA5
    refine own_wordQ s5 1 rfl hC rfl hxk rfl ?_
    refine own_wordQ s5 1 rfl hC rfl hx0 rfl ?_
    obtain ⟨o5, ho4, ho5, ho6⟩ := hA5.ob _ _ hxk
    obtain ⟨o0, ho7, _⟩ := hA5.ob _ _ hx0
    refine (srf_c s5 (i := 0) ho4 (by omega) rfl (look_lt hm5 ho7) (may_of ho7)).mono ?_
    rintro e w6 ⟨rfl, s6⟩
    refine ⟨_, rfl, ⟨_, s6⟩, cond_f rfl ?_⟩
    have hA6 := hA5.set (i := 0) (y := x0) hm5 hxk ho4 ho5 ho6
    have hm6 := sat_wf s6
    generalize hH6 : H5.set xk (o5.put 0 x0) = H6 at s6 hA6 hm6
    have hr6 : H6.roots = List.replicate 16 0 := by rw [← hH6]; exact hr5
    refine own_wordQ s6 1 rfl hC rfl hxk rfl ?_
    obtain ⟨o6, ho8, _⟩ := hA6.ob _ _ hxk
    refine (srt_c s6 (i := 5) (by omega) rfl (look_lt hm6 ho8) (may_of ho8)).mono ?_
    rintro e w7 ⟨rfl, s7⟩
    refine ⟨_, rfl, ⟨_, s7⟩, cond_f rfl ?_⟩
    have hA7 := hA6.rooted 5 xk
    have hr7 : (H6.rooted 5 xk).roots = (List.replicate 16 0).set 5 xk := by rw [← hr6]; rfl
    generalize H6.rooted 5 xk = H7 at s7 hA7 hr7
    clear hA hA5 hA6 hm4 hm5 hm6
    have hob : ∀ (j x : Nat), xs[j]? = some x → ∃ o, H7.look x = some o ∧ o.refs = 1 ∧ o.w = if j = k then [x0, (zs.getD j 0).toNat, v] else apW zs j := fun j x hj => by
      obtain ⟨o, a, d, f⟩ := hA7.ob j x hj
      refine ⟨o, a, d, f.trans ?_⟩
      by_cases e : j = k
      · subst e; simp [apW]
      · simp [e]
    have hxu : xk < 18446744073709551616 ∧ x0 < 18446744073709551616 := by
      have hm7 := sat_wf s7
      obtain ⟨_, a, _⟩ := hob _ _ hxk
      obtain ⟨_, a', _⟩ := hob _ _ hx0
      exact ⟨look_lt hm7 a, look_lt hm7 a'⟩
    have hxk0 : xk ≠ 0 := fun e => by
      obtain ⟨_, a, _⟩ := hob _ _ hxk
      rw [e, look_zero (sat_wf s7)] at a; cases a
    refine ⟨fun j w => ∃ q : Nat, j = q ∧ q ≤ n ∧ Sat [HeapH H7 .nilIface b, Own 23 1 xp xs.length xc (words xs), Base W] w, fun j _ => (n - j).toNat, ⟨0, rfl, by omega, s7⟩, ?_⟩
    rintro j w8 ⟨q, rfl, hq, s8⟩
    unfold S_law9_HeapApart_l1
    rw [show (30 : Int) = ((30 : Nat) : Int) from rfl, iMin_nat, hn]
    by_cases hqn : q < n
    · refine cond_t (by simp; omega) ?_
      intro k3 hk3
      have hxq : xs[q]? = some (xs[q]'(by omega)) := List.getElem?_eq_getElem (by omega)
      generalize xs[q]'(by omega) = xq at hxq
      obtain ⟨oq, g1, g2, g3⟩ := hob _ _ hxq
      obtain ⟨hz1, hz2⟩ := hzg q (by omega)
      have hc := cpl_eq (zs.getD q 0)
      have hzz : (((zs.getD q 0).toNat : Nat) : Int) = zs.getD q 0 := by
        rw [List.getD_eq_getElem?_getD, hz1]; rfl
      have fin : ∀ w, Sat [HeapH H7 .nilIface b, Own 23 1 xp xs.length xc (words xs), Base W] w → k3 w := fun w hs => by
        refine hk3 w ?_
        unfold S_law9_HeapApart_j0
        rw [wrapI64 (by omega) (by omega)]
        exact ⟨⟨q + 1, by omega, by omega, hs⟩, by first | omega | (dsimp only; omega)⟩
      have w1 : oq.w[1]? = some (zs.getD q 0).toNat := by rw [g3]; split <;> rfl
      refine own_word s8 1 rfl rfl hxq rfl ?_
      refine (gwd_c s8 (i := 0) g1 (by rw [g2]; exact w1) rfl).mono ?_
      rintro e w9 ⟨rfl, s9⟩
      refine ⟨_, _, rfl, ?_⟩
      refine own_word s9 1 rfl rfl hxq rfl ?_
      by_cases hqk : q = k
      · rw [if_pos hqk] at g3
        refine (gwd_c s9 (i := 1) (y := v) g1 (by rw [g2, g3]; rfl) rfl).mono ?_
        rintro e w10 ⟨rfl, s10⟩
        refine ⟨_, _, rfl, ?_⟩
        refine own_word s10 1 rfl rfl hxq rfl ?_
        refine (grf_c s10 (i := 0) (y := x0) g1 (by omega) (by rw [g3]; rfl) rfl).mono ?_
        rintro e w11 ⟨rfl, s11⟩
        refine ⟨_, _, rfl, ?_⟩
        refine cond_f rfl (cond_f rfl (cond_f rfl ?_))
        refine arg_int s11 2 rfl hz hz1 rfl ?_
        refine cond_f (by simp) ?_
        refine cond_f (by simp [hqk]) ?_
        refine cond_t (by simp [hqk]) ?_
        refine cond_f (by simp) ?_
        refine own_word s11 1 rfl rfl hx0 rfl ?_
        exact cond_f (by simp) (fin _ s11)
      · rw [if_neg hqk] at g3
        refine (gwd_c s9 (i := 1) (y := cpl (zs.getD q 0)) g1 (by rw [g2, g3]; rfl) rfl).mono ?_
        rintro e w10 ⟨rfl, s10⟩
        refine ⟨_, _, rfl, ?_⟩
        refine own_word s10 1 rfl rfl hxq rfl ?_
        refine (grf_c s10 (i := 0) (y := 0) g1 (by omega) (by rw [g3]; rfl) rfl).mono ?_
        rintro e w11 ⟨rfl, s11⟩
        refine ⟨_, _, rfl, ?_⟩
        refine cond_f rfl (cond_f rfl (cond_f rfl ?_))
        refine arg_int s11 2 rfl hz hz1 rfl ?_
        refine cond_f (by simp) ?_
        refine cond_t (by simp; omega) ?_
        refine arg_int s11 2 rfl hz hz1 rfl ?_
        rw [hzz, hc.1]
        refine cond_f (by simp) (cond_f (by rfl) ?_)
        exact cond_f (by simp; omega) (fin _ s11)
    · refine cond_f (by simp; omega) ?_
      refine ⟨fun j w => ∃ q : Nat, j = q ∧ q ≤ 16 ∧ Sat [HeapH H7 .nilIface b, Own 23 1 xp xs.length xc (words xs), Base W] w, fun j _ => (16 - j).toNat, ⟨0, rfl, by omega, s8⟩, ?_⟩
      rintro j w9 ⟨q, rfl, hq, s9⟩
      unfold S_law9_HeapApart_l0
      by_cases hq16 : q < 16
      · refine cond_t (by simp; omega) ?_
        intro k4 hk4
        have fin : ∀ w, Sat [HeapH H7 .nilIface b, Own 23 1 xp xs.length xc (words xs), Base W] w → k4 w := fun w hs => by
          refine hk4 w ?_
          unfold S_law9_HeapApart_j1
          rw [wrapI64 (by omega) (by omega)]
          exact ⟨⟨q + 1, by omega, by omega, hs⟩, by first | omega | (dsimp only; omega)⟩
        by_cases h5 : q = 5
        · subst h5
          refine (grt_c s9 (i := 5) (y := xk) (by rw [hr7]; rfl) rfl).mono ?_
          rintro e w10 ⟨rfl, s10⟩
          refine ⟨_, _, rfl, cond_f rfl (cond_t rfl ?_)⟩
          refine own_word s10 1 rfl rfl hxk rfl ?_
          exact cond_f (by simp) (cond_f rfl (fin _ s10))
        · refine (grt_c s9 (i := q) (y := 0) (by rw [hr7, List.getElem?_set_ne (by omega), List.getElem?_replicate, if_pos hq16]) rfl).mono ?_
          rintro e w10 ⟨rfl, s10⟩
          refine ⟨_, _, rfl, cond_f rfl (cond_f (by simp; omega) (cond_t (by simp; omega) (cond_f rfl (fin _ s10))))⟩
      · exact cond_f (by simp; omega) ⟨rfl, s9.below 2 rfl⟩

set_option maxRecDepth 100000 in
theorem apart_lifted (os : Os) (started : os.Started) (H : Type) (enc : TypeId × Value → H) :
    ReturnsInHanded {} Try.checked os 3 .any (Rows.heapApartSpec.pre6 enc Try.prog Try.f3 Rows.heapApartRow.domain false) (Rows.heapApartSpec.post enc Try.prog Try.f3 false true false false) := by
  refine returnsInHanded_of_change (C := Try.checked) own started (by kernel_rfl) Try.func3
    (ChangeSpec.witness6 (enc := enc) (C := Try.checked) false ⟨#[], #[.slice none 0 0, .int .i64 0, .int .u64 0], []⟩ 8 (by kernel_rfl) (by kernel_rfl) (by kernel_rfl) (by kernel_rfl)) ?_
  intro W base args ds gs before hval hW hcnd _
  have hval : ∀ (j : Nat) t v, Try.f3.params[j]? = some t → args[j]? = some v → Value.okWide Try.prog W .any base t v := hval
  have hW' : DataW.Whole enc Try.prog Try.f3.params.toList Rows.heapApartSpec.vars false W args.toList ds gs before := hW
  obtain ⟨p, q, hA, hV, _⟩ := hW'
  rw [Try.params3] at hA hval
  obtain ⟨v0, v1, v2, d0, d1, d2, p0, p1, p2, rfl, rfl, rfl, h0, h1, h2⟩ := trodAll_three hA
  obtain ⟨a0, l0, c0, rfl⟩ := okWide_slice Try.underlying22 (hval 0 22 v0 rfl rfl)
  obtain ⟨zs0, hz0⟩ := argInts Try.underlying22 Try.underlying23 (by kernel_rfl) h0
  obtain ⟨n1, rfl, rfl, rfl, wn1⟩ := open_int Try.underlying3 (hval 1 3 v1 rfl rfl) h1
  obtain ⟨n2, rfl, rfl, rfl, wn2⟩ := open_int Try.underlying23 (hval 2 23 v2 rfl rfl) h2
  obtain ⟨x2, rfl, hx2⟩ := wf_u64 wn2
  refine (apart_c W hz0 n1 hx2).mono fun e W' ⟨he, hs⟩ => ?_
  exact ⟨_, he, law_post (tb := 4) laidOut (by decide +kernel) (by kernel_rfl) Try.underlying4 rfl hW ⟨rfl, rfl, rfl⟩ hs⟩

theorem apart_holds : Rows.HeapApartSaid :=
  OpenClaim.holds_of_wide 3 Try.f3 rfl rfl rfl rfl rfl rfl rfl ⟨rfl, rfl, rfl, rfl, rfl⟩ rfl rfl rfl rfl rfl (by kernel_rfl) Try.func3 (by kernel_rfl)
    (of_decide_eq_true (by kernel_rfl)) (by unfold Func.isWrapper; first | (rw [if_pos (by decide +kernel)]; kernel_rfl) | (rw [if_neg (by decide +kernel)]; exact ⟨rfl, rfl⟩))
    (fun os started H enc _ => apart_lifted os started H enc)
end Go.Proofs.Ytagnepjmgkoboaa
