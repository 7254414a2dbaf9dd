/- Messages with whatever values they bear: copied into new memory, which stands from then on. -/
import Derived.Test.YtjpaoggcphfjeaaNBare
import Derived.Test.YtjpaoggcphfjeaaVd
namespace Go.Lw
open Go Go.Tb
theorem add_add (a : Addr) (m n : Nat) : (a.add m).add n = a.add (m + n) := by
  unfold Addr.add
  by_cases h1 : m = 0 <;> by_cases h2 : n = 0 <;> simp [h1, h2, Nat.add_assoc]
theorem Sat.own_cap {L : List HP} {w : World} {e s l c : Nat} {p : Option Addr} {xs : List Value} (hs : Sat L w) (i : Nat) (hi : L[i]? = some (Own e s p l c xs)) : l ≤ c := by
  obtain ⟨_, ⟨_, h0, h1⟩ | ⟨_, _, _, h, _⟩⟩ := hs.own i hi
  · omega
  · exact h
section
variable {L : List HP} {w : World} {b T : Nat}
theorem stRow5 {c0 c1 c2 c3 c4 v0 v1 v2 v3 v4 : Value} {K : World → Prop} (hs : Sat L w) (i : Nat) (hi : L[i]? = some (Row b [c0, c1, c2, c3, c4] T)) (h : ∀ w', Sat (L.set i (Row b [v0, v1, v2, v3, v4] T)) w' → K w') :
    StC w ⟨b, 0, none⟩ v0 fun w => StC w (Addr.add ⟨b, 0, none⟩ 1) v1 fun w => StC w (Addr.add ⟨b, 0, none⟩ 2) v2 fun w => StC w (Addr.add ⟨b, 0, none⟩ 3) v3 fun w => StC w (Addr.add ⟨b, 0, none⟩ 4) v4 K := by
  simp only [add_mk, Nat.zero_add]
  refine StC.of hs i hi (off := 0) rfl rfl fun w1 h1 => ?_
  refine StC.of h1 i (get_set_self hi) (off := 1) rfl rfl fun w2 h2 => ?_
  rw [set_set_self] at h2
  refine StC.of h2 i (get_set_self hi) (off := 2) rfl rfl fun w3 h3 => ?_
  rw [set_set_self] at h3
  refine StC.of h3 i (get_set_self hi) (off := 3) rfl rfl fun w4 h4 => ?_
  rw [set_set_self] at h4
  refine StC.of h4 i (get_set_self hi) (off := 4) rfl rfl fun w5 h5 => ?_
  rw [set_set_self] at h5
  exact h w5 h5
theorem stRow6 {c0 c1 c2 c3 c4 c5 v0 v1 v2 v3 v4 v5 : Value} {K : World → Prop} (hs : Sat L w) (i : Nat) (hi : L[i]? = some (Row b [c0, c1, c2, c3, c4, c5] T)) (h : ∀ w', Sat (L.set i (Row b [v0, v1, v2, v3, v4, v5] T)) w' → K w') :
    StC w ⟨b, 0, none⟩ v0 fun w => StC w (Addr.add ⟨b, 0, none⟩ 1) v1 fun w => StC w (Addr.add ⟨b, 0, none⟩ 2) v2 fun w => StC w (Addr.add ⟨b, 0, none⟩ 3) v3 fun w => StC w (Addr.add ⟨b, 0, none⟩ 4) v4 fun w => StC w (Addr.add ⟨b, 0, none⟩ 5) v5 K := by
  simp only [add_mk, Nat.zero_add]
  refine StC.of hs i hi (off := 0) rfl rfl fun w1 h1 => ?_
  refine StC.of h1 i (get_set_self hi) (off := 1) rfl rfl fun w2 h2 => ?_
  rw [set_set_self] at h2
  refine StC.of h2 i (get_set_self hi) (off := 2) rfl rfl fun w3 h3 => ?_
  rw [set_set_self] at h3
  refine StC.of h3 i (get_set_self hi) (off := 3) rfl rfl fun w4 h4 => ?_
  rw [set_set_self] at h4
  refine StC.of h4 i (get_set_self hi) (off := 4) rfl rfl fun w5 h5 => ?_
  rw [set_set_self] at h5
  refine StC.of h5 i (get_set_self hi) (off := 5) rfl rfl fun w6 h6 => ?_
  rw [set_set_self] at h6
  exact h w6 h6
end
/-- cells in memory that stands, 's' to each of 'l' elements. -/
structure CRs (S : Mem) (s : Nat) (xs : List Value) (p : Option Addr) (l c : Nat) : Prop where
  len : xs.length = l * s
  lim : l ≤ 1048576
  cap : l ≤ c
  one : ∀ u ∈ xs, u.oneCell' = true
  reads : ∀ j v, xs[j]? = some v → ∃ a, p = some a ∧ RdS S (a.add j) v
theorem CRs.mono {S S' : Mem} (e : Ext S S') {s : Nat} {xs : List Value} {p : Option Addr} {l c : Nat} (h : CRs S s xs p l c) : CRs S' s xs p l c :=
  ⟨h.len, h.lim, h.cap, h.one, fun j v hv => by obtain ⟨a, h1, h2⟩ := h.reads j v hv; exact ⟨a, h1, h2.mono e⟩⟩
/-- 'append(make([]T, 0, n), x...)' of what stands. -/
theorem RunS.copyRo {P : Program} {L : List HP} {w W : World} {S : Mem} {t e s bytes ty : Nat} (hE : EOK P t e s bytes) {p0 p : Option Addr} {l c c0 : Nat} {xs : List Value} {K : Option Addr → Nat → Nat → World → Prop} (hs : Sat L w)
    (i : Nat) (hi : L[i]? = some (Own e s p0 0 c0 [])) (k : Nat) (hk : L[k]? = some (Ro W S)) (hx : CRs S s xs p l c) (hb : bytes ≤ 1024)
    (h : ∀ p' c' w', Sat (L.set i (Own e s p' l c' xs)) w' → K p' l c' w') : RunS P (Builtin.append_ #[t, t] ty #[.slice p0 0 c0, .slice p l c]) w K := by
  have hl := hx.lim
  by_cases hl0 : l = 0
  · subst hl0
    have hx0 : xs = [] := List.eq_nil_of_length_eq_zero (by simpa using hx.len)
    subst hx0
    refine RunS.nothing hE (by omega) (h _ _ _ ?_)
    have : L.set i (Own e s p0 0 c0 []) = L := by
      apply List.ext_getElem?
      intro j
      by_cases hij : i = j
      · subst hij; rw [hi]; exact get_set_self hi
      · rw [List.getElem?_set_ne hij]
    rw [this]; exact hs
  · have hpos := hE.pos
    have hne : 0 < xs.length := by rw [hx.len]; exact Nat.mul_pos (by omega) hpos
    obtain ⟨a, rfl, _⟩ := hx.reads 0 _ (List.getElem?_eq_getElem hne)
    have hh := hs.has k hk
    have hm : (0 + l) * bytes ≤ 140737488355328 := by
      rw [Nat.zero_add]
      calc l * bytes ≤ 1048576 * 1024 := Nat.mul_le_mul hl hb
        _ ≤ 140737488355328 := by omega
    refine RunS.own hE hs i hi (news := xs) (fun b hb' j v hj => ?_) hx.len hx.one hm (by simp only [maxLen]; omega) fun p' c' w' h' => ?_
    · cases hb'
      obtain ⟨b, e1, h2⟩ := hx.reads j v hj
      cases e1
      exact h2 w hh
    · rw [Nat.zero_add] at h' ⊢
      rw [List.nil_append] at h'
      exact h p' c' w' h'
end Go.Lw
namespace Go.Proofs.Ytjpaoggcphfjeaa
open Go Go.Lw Go.Tb Go.Wd Go.Vd

set_option maxRecDepth 100000 in
theorem eok_field : EOK Try.prog 100 107 6 96 := ⟨by kernel_rfl, ⟨_, _, rfl, rfl, rfl, rfl, rfl⟩, by omega⟩

theorem ldVal {w : World} {a : Addr} {k n : Int} {s : ByteArray} {lp fp : Option Addr} {ll lc fl fc : Nat} {K : Int → Int → ByteArray → Option Addr → Nat → Nat → Option Addr → Nat → Nat → Prop}
    (hc : ∀ j v, [Value.int .i64 k, .int .i64 n, .string s, .slice lp ll lc, .slice fp fl fc][j]? = some v → w.cell? (a.add j) = some v) (h : K k n s lp ll lc fp fl fc) :
    LdI .i64 w a fun n0 => LdI .i64 w (Addr.add a 1) fun n1 => LdStr w (Addr.add a 2) fun t => LdS w (Addr.add a 3) fun p l c => LdS w (Addr.add a 4) fun p' l' c' => K n0 n1 t p l c p' l' c' :=
  LdI.at (by simpa [Addr.add] using hc 0 _ rfl) (LdI.at (hc 1 _ rfl) (LdStr.at (hc 2 _ rfl) (LdS.at (hc 3 _ rfl) (LdS.at (hc 4 _ rfl) h))))
theorem ldFld {w : World} {a : Addr} {nm : ByteArray} {k n : Int} {s : ByteArray} {lp fp : Option Addr} {ll lc fl fc : Nat} {K : ByteArray → Int → Int → ByteArray → Option Addr → Nat → Nat → Option Addr → Nat → Nat → Prop}
    (hc : ∀ j v, [Value.string nm, .int .i64 k, .int .i64 n, .string s, .slice lp ll lc, .slice fp fl fc][j]? = some v → w.cell? (a.add j) = some v) (h : K nm k n s lp ll lc fp fl fc) :
    LdStr w a fun nm => LdI .i64 w (Addr.add a 1) fun n0 => LdI .i64 w (Addr.add a 2) fun n1 => LdStr w (Addr.add a 3) fun t => LdS w (Addr.add a 4) fun p l c => LdS w (Addr.add a 5) fun p' l' c' => K nm n0 n1 t p l c p' l' c' :=
  LdStr.at (by simpa [Addr.add] using hc 0 _ rfl) (LdI.at (hc 1 _ rfl) (LdI.at (hc 2 _ rfl) (LdStr.at (hc 3 _ rfl) (LdS.at (hc 4 _ rfl) (LdS.at (hc 5 _ rfl) h)))))

/-- an element that stands is read. -/
theorem VRs.rd {S : Mem} {L : List V} {p : Option Addr} {l c : Nat} (h : VRs S L p l c) {w : World} (hw : Has S w) {q : Nat} {x : V} (hx : L[q]? = some x) {K : Addr → Prop}
    (hk : ∀ a cs, VR S x cs → (∀ j v, cs[j]? = some v → w.cell? (a.add j) = some v) → K a) : IdxC p l (q : Int) 5 K := by
  obtain ⟨cs, hv, hr⟩ := h.each q x hx
  have h5 := hv.len
  obtain ⟨a, rfl, _⟩ := hr 0 _ (List.getElem?_eq_getElem (by omega))
  have hlt := get_lt hx
  have hl := h.len
  refine ⟨by omega, by omega, hk _ cs hv fun j v hj => ?_⟩
  obtain ⟨b, e1, h2⟩ := hr j v hj
  cases e1
  rw [add_add, Int.toNat_natCast]
  exact h2 w hw
theorem FRs.rd {S : Mem} {F : List (ByteArray × V)} {p : Option Addr} {l c : Nat} (h : FRs S F p l c) {w : World} (hw : Has S w) {q : Nat} {x : ByteArray × V} (hx : F[q]? = some x) {K : Addr → Prop}
    (hk : ∀ a cs, VR S x.2 cs → (∀ j v, (Value.string x.1 :: cs)[j]? = some v → w.cell? (a.add j) = some v) → K a) : IdxC p l (q : Int) 6 K := by
  obtain ⟨cs, hv, ⟨a, rfl, h0⟩, hr⟩ := h.each q x hx
  have hlt := get_lt hx
  have hl := h.len
  refine ⟨by omega, by omega, hk _ cs hv fun j v hj => ?_⟩
  rw [add_add, Int.toNat_natCast]
  cases j with
  | zero =>
    simp only [List.getElem?_cons_zero, Option.some.injEq] at hj
    subst hj
    exact h0 w hw
  | succ j =>
    simp only [List.getElem?_cons_succ] at hj
    obtain ⟨b, e1, h2⟩ := hr j v hj
    cases e1
    have := h2 w hw
    rw [Nat.add_comm 1 j] at this
    exact this

def setF (f : Nat → List Value) (q : Nat) (v : List Value) : Nat → List Value := fun j => if j = q then v else f j
theorem rowsF_snoc (f : Nat → List Value) (q : Nat) (v : List Value) : rowsF (q + 1) (setF f q v) = rowsF q f ++ v := by
  rw [rowsF_succ]
  congr 1
  · exact rowsF_congr fun i hi => by unfold setF; rw [if_neg (by omega)]
  · unfold setF; rw [if_pos rfl]
theorem setF_len {f : Nat → List Value} {s q : Nat} {v : List Value} (hf : ∀ j, (f j).length = s) (hv : v.length = s) : ∀ j, (setF f q v j).length = s := by
  intro j; unfold setF; split
  · exact hv
  · exact hf j

theorem value_c (W : World) : ∀ (n : Nat) (v : V), _root_.SizeOf.sizeOf v < n → ∀ (S : Mem) (cs : List Value) (F : List HP) (w : World), VR S v cs → Sat (Ro W S :: F) w →
    Calls Try.prog 46 #[.agg cs.toArray] w fun e w' => ∃ S' cs', Ext S S' ∧ VR S' v cs' ∧ e = .returned (.agg cs'.toArray) ∧ Sat (Ro W S' :: F) w'
  | 0, _, h => by omega
  | n + 1, .mk k m s L Fs, hn => by
    intro S cs F w hv hs
    obtain ⟨lp, ll, lc, fp, fl, fc, rfl, hL, hF⟩ := hv.open
    have hll := hL.len; have hlim := hL.lim; have hfl := hF.len; have hflim := hF.lim
    simp only [lim] at hlim hflim
    refine S_net_value_ok _ _ _ _ _ _ _ _ _ _ _ ?_
    unfold S_net_value
    refine NewC.ofRow hs fun b0 w1 h1 => NewC.ofRow h1 fun b1 w2 h2 => ?_
    refine LdS.of h2 1 rfl (off := 3) rfl (by simp [add_mk]) ?_
    refine RunS.makeOwn eok_val h2 (by omega) (by omega) (by omega) fun p1 w3 h3 => ?_
    refine LdS.of h3 2 rfl (off := 3) rfl (by simp [add_mk]) ?_
    refine ⟨fun p l c i w => ∃ (q : Nat) (S' : Mem) (f : Nat → List Value), i = q ∧ q ≤ L.length ∧ q = l ∧ Ext S S' ∧ (∀ j, (f j).length = 5) ∧ (∀ j x, j < q → L[j]? = some x → VR S' x (f j)) ∧
        Sat (Own 102 5 p q c (rowsF q f) :: Row b1 [.int .i64 0, .int .i64 0, .string ⟨#[]⟩, .slice none 0 0, .slice none 0 0] 102 :: Row b0 [.int .i64 k, .int .i64 m, .string s, .slice lp ll lc, .slice fp fl fc] 102 :: Ro W S' :: F) w,
      fun _ _ _ i _ => (L.length - i).toNat, ⟨0, S, fun _ => List.replicate 5 (.bool true), rfl, by omega, rfl, Ext.refl S, fun _ => by simp, fun j x h => by omega, h3⟩, ?_⟩
    clear h1 h2 h3
    rintro p l c i w4 ⟨q, S1, f, rfl, hq, rfl, he1, hf5, hfv, h4⟩
    unfold S_net_value_l1
    by_cases hql : q < L.length
    · refine cond_t (by simp; omega) ?_
      have hx : L[q]? = some L[q] := List.getElem?_eq_getElem hql
      have hsz : _root_.SizeOf.sizeOf L[q] < n := by
        have := List.sizeOf_lt_of_mem (List.getElem_mem hql)
        simp only [V.mk.sizeOf_spec] at hn
        omega
      generalize L[q] = x at hx hsz
      refine VRs.rd (hL.mono he1) (h4.has 3 rfl) hx fun a cs hv hc => ?_
      obtain ⟨k', m', s', L', F', rfl⟩ : ∃ k' m' s' L' F', x = .mk k' m' s' L' F' := by cases x; exact ⟨_, _, _, _, _, rfl⟩
      obtain ⟨lp', ll', lc', fp', fl', fc', rfl, _, _⟩ := hv.open
      refine ldVal hc ?_
      refine NewC.ofRow h4 fun b2 w5 h5 => stRow5 h5 0 rfl fun w6 h6 => ?_
      refine ldVal (k := k') (n := m') (s := s') (lp := lp') (ll := ll') (lc := lc') (fp := fp') (fl := fl') (fc := fc') (fun j v hj => by rw [add_mk, Nat.zero_add]; exact h6.cell 0 rfl hj) ?_
      refine (value_c W n _ hsz _ _ _ _ hv (h6.pull 4 rfl)).mono ?_
      rintro e w7 ⟨S2, cs2, he2, hv2, rfl, h7⟩
      obtain ⟨lp2, ll2, lc2, fp2, fl2, fc2, rfl, _, _⟩ := hv2.open
      refine ⟨_, _, _, _, _, _, _, _, _, rfl, ?_⟩
      have h8 : Sat (Own 102 5 p q c (rowsF q f) :: Row b1 [.int .i64 0, .int .i64 0, .string ⟨#[]⟩, .slice none 0 0, .slice none 0 0] 102 :: Row b0 [.int .i64 k, .int .i64 m, .string s, .slice lp ll lc, .slice fp fl fc] 102 :: Ro W S2 :: F) w7 := by
        have a1 := (h7.pull 1 rfl).drop
        have a2 := a1.pull 3 rfl
        have a3 := a2.pull 3 rfl
        exact a3.pull 3 rfl
      refine RunS.one eok_val h8 0 rfl (by rfl) (by rfl) (by omega) (by simp only [maxLen]; omega) fun p' c' w9 h9 => ?_
      rw [wrapI64 (by omega) (by omega)]
      refine ⟨⟨q + 1, S2, setF f q [.int .i64 k', .int .i64 m', .string s', .slice lp2 ll2 lc2, .slice fp2 fl2 fc2], by omega, by omega, rfl, he1.trans he2, setF_len hf5 rfl, fun j y hj hy => ?_, ?_⟩, by first | omega | (dsimp only; omega)⟩
      · unfold setF
        split
        · rename_i e; subst e; rw [hx] at hy; cases hy; exact hv2
        · exact (hfv j y (by omega) hy).mono he2
      · rw [rowsF_snoc]; exact h9
    have hql : q = L.length := by omega
    subst hql
    refine cond_f (by simp; omega) ?_
    refine LdS.of h4 2 rfl (off := 4) rfl (by simp [add_mk]) ?_
    refine RunS.makeOwn eok_field h4 (by omega) (by omega) (by omega) fun p2 w5 h5 => ?_
    refine LdS.of h5 3 rfl (off := 4) rfl (by simp [add_mk]) ?_
    refine ⟨fun p' l c' i w => ∃ (q : Nat) (S' : Mem) (g : Nat → List Value), i = q ∧ q ≤ Fs.length ∧ q = l ∧ Ext S1 S' ∧ (∀ j, (g j).length = 6) ∧ (∀ j x, j < q → Fs[j]? = some x → ∃ cs, g j = .string x.1 :: cs ∧ VR S' x.2 cs) ∧
        Sat (Own 107 6 p' q c' (rowsF q g) :: Own 102 5 p L.length c (rowsF L.length f) :: Row b1 [.int .i64 0, .int .i64 0, .string ⟨#[]⟩, .slice none 0 0, .slice none 0 0] 102 :: Row b0 [.int .i64 k, .int .i64 m, .string s, .slice lp ll lc, .slice fp fl fc] 102 :: Ro W S' :: F) w,
      fun _ _ _ i _ => (Fs.length - i).toNat, ⟨0, S1, fun _ => List.replicate 6 (.bool true), rfl, by omega, rfl, Ext.refl S1, fun _ => by simp, fun j x h => by omega, h5⟩, ?_⟩
    clear h4 h5
    rintro p' l c' i w6 ⟨q, S2, g, rfl, hq, rfl, he2, hg6, hgv, h6⟩
    unfold S_net_value_l0
    by_cases hqf : q < Fs.length
    · refine cond_t (by simp; omega) ?_
      have hx : Fs[q]? = some Fs[q] := List.getElem?_eq_getElem hqf
      have hsz : _root_.SizeOf.sizeOf Fs[q].2 < n := by
        have h1 := List.sizeOf_lt_of_mem (List.getElem_mem hqf)
        have h2 : _root_.SizeOf.sizeOf Fs[q].2 < _root_.SizeOf.sizeOf Fs[q] := by
          obtain ⟨a, b⟩ := Fs[q]
          simp only [Prod.mk.sizeOf_spec]
          omega
        simp only [V.mk.sizeOf_spec] at hn
        omega
      generalize Fs[q] = x at hx hsz
      obtain ⟨nm, x⟩ := x
      refine FRs.rd (hF.mono (he1.trans he2)) (h6.has 4 rfl) hx fun a cs hv hc => ?_
      obtain ⟨k', m', s', L', F', rfl⟩ : ∃ k' m' s' L' F', x = .mk k' m' s' L' F' := by cases x; exact ⟨_, _, _, _, _, rfl⟩
      obtain ⟨lp', ll', lc', fp', fl', fc', rfl, _, _⟩ := hv.open
      refine ldFld hc ?_
      refine NewC.ofRow h6 fun b2 w7 h7 => stRow6 h7 0 rfl fun w8 h8 => ?_
      have h9 := h8.drew
      have h9 : Sat (Row b2 [.string nm, .int .i64 k', .int .i64 m', .string s', .slice lp' ll' lc', .slice fp' fl' fc'] 107 :: Own 107 6 p' q c' (rowsF q g) :: Own 102 5 p L.length c (rowsF L.length f) :: Row b1 [.int .i64 0, .int .i64 0, .string ⟨#[]⟩, .slice none 0 0, .slice none 0 0] 102 :: Row b0 [.int .i64 k, .int .i64 m, .string s, .slice lp ll lc, .slice fp fl fc] 102 :: Ro W S2 :: F) w8.drew := h9
      refine ⟨fun w => ∃ L i, L[i]? = some (Row b2 [.string nm, .int .i64 k', .int .i64 m', .string s', .slice lp' ll' lc', .slice fp' fl' fc'] 107) ∧ Sat L w, ⟨_, 0, rfl, h9⟩, ?_⟩
      refine ⟨nm, fun w ⟨L, i, hi, h⟩ => LdStr.at (h.cell i hi rfl) rfl, ?_⟩
      refine ⟨k', m', s', lp', ll', lc', fp', fl', fc', fun w ⟨L, i, hi, h⟩ => ldVal (fun j v hj => by rw [add_mk, add_mk, Nat.zero_add, Nat.add_comm 1 j]; exact h.cell i hi (by rw [List.getElem?_cons_succ]; exact hj)) rfl, ?_⟩
      refine (value_c W n _ hsz _ _ _ _ hv (h9.pull 5 rfl)).mono ?_
      rintro e w10 ⟨S3, cs2, he3, hv2, rfl, h10⟩
      obtain ⟨lp2, ll2, lc2, fp2, fl2, fc2, rfl, _, _⟩ := hv2.open
      refine ⟨_, _, _, _, _, _, _, _, _, rfl, ⟨_, 1, rfl, h10⟩, ?_⟩
      have h11 : Sat (Own 107 6 p' q c' (rowsF q g) :: Row b2 [.string nm, .int .i64 k', .int .i64 m', .string s', .slice lp' ll' lc', .slice fp' fl' fc'] 107 :: Ro W S3 :: Own 102 5 p L.length c (rowsF L.length f) :: Row b1 [.int .i64 0, .int .i64 0, .string ⟨#[]⟩, .slice none 0 0, .slice none 0 0] 102 :: Row b0 [.int .i64 k, .int .i64 m, .string s, .slice lp ll lc, .slice fp fl fc] 102 :: F) w10 := by
        have a1 := h10.pull 1 rfl
        exact a1.pull 2 rfl
      refine NewC.ofRow h11 fun b5 w12 h12 => ⟨⟨_, 2, rfl, h12⟩, ?_⟩
      refine RunS.own eok_field h12 1 rfl (news := [.string nm, .int .i64 k', .int .i64 m', .string s', .slice lp2 ll2 lc2, .slice fp2 fl2 fc2]) (fun a ha j v hj => by cases ha; rw [add_mk, Nat.zero_add]; exact h12.cell 0 rfl hj) rfl
        (fun u hu => by simp only [List.mem_cons, List.not_mem_nil, or_false] at hu; rcases hu with rfl | rfl | rfl | rfl | rfl | rfl <;> rfl) (by omega) (by simp only [maxLen]; omega) fun p3 c3 w13 h13 => ⟨⟨_, 2, rfl, h13⟩, ?_⟩
      rw [wrapI64 (by omega) (by omega)]
      refine ⟨⟨q + 1, S3, setF g q [.string nm, .int .i64 k', .int .i64 m', .string s', .slice lp2 ll2 lc2, .slice fp2 fl2 fc2], by omega, by omega, rfl, he2.trans he3, setF_len hg6 rfl, fun j y hj hy => ?_, ?_⟩, by first | omega | (dsimp only; omega)⟩
      · unfold setF
        split
        · rename_i e; subst e; rw [hx] at hy; cases hy; exact ⟨_, rfl, hv2⟩
        · obtain ⟨cs, h1, h2⟩ := hgv j y (by omega) hy
          exact ⟨cs, h1, h2.mono he3⟩
      · rw [rowsF_snoc]
        have a1 : Sat (Own 107 6 p3 (q + 1) c3 _ :: Ro W S3 :: Own 102 5 p L.length c (rowsF L.length f) :: Row b1 [.int .i64 0, .int .i64 0, .string ⟨#[]⟩, .slice none 0 0, .slice none 0 0] 102 :: Row b0 [.int .i64 k, .int .i64 m, .string s, .slice lp ll lc, .slice fp fl fc] 102 :: F) w13 := (h13.drop.pull 1 rfl).drop
        have a2 := a1.pull 4 rfl
        have a3 := a2.pull 4 rfl
        have a4 := a3.pull 4 rfl
        exact a4.pull 3 rfl
    have hqf : q = Fs.length := by omega
    subst hqf
    refine cond_f (by simp; omega) ?_
    refine StC.of h6 3 rfl (off := 3) rfl (by simp [add_mk]) fun w7 h7 => StC.of h7 3 rfl (off := 4) rfl (by simp [add_mk]) fun w8 h8 => ?_
    refine ldVal (k := k) (n := m) (s := s) (lp := p) (ll := L.length) (lc := c) (fp := p') (fl := Fs.length) (fc := c') (fun j v hj => by rw [add_mk, Nat.zero_add]; exact h8.cell 3 rfl hj) ?_
    refine stRow5 h8 2 rfl fun w9 h9 => ?_
    refine ldVal (k := k) (n := m) (s := s) (lp := p) (ll := L.length) (lc := c) (fp := p') (fl := Fs.length) (fc := c') (fun j v hj => by rw [add_mk, Nat.zero_add]; exact h9.cell 2 rfl hj) ?_
    have hcap1 := h9.own_cap 1 rfl
    have hcap2 := h9.own_cap 0 rfl
    have h10 : Sat (Own 107 6 p' Fs.length c' (rowsF Fs.length g) :: Ro W S2 :: Own 102 5 p L.length c (rowsF L.length f) :: F) w9 := by
      have a1 := (h9.pull 2 rfl).drop
      have a2 := (a1.pull 2 rfl).drop
      have a3 := a2.pull 2 rfl
      exact a3.pull 1 rfl
    obtain ⟨S3, he3, hr3, h11⟩ := h10.freezeAny
    obtain ⟨S4, he4, hr4, h12⟩ := Sat.freezeAny (h11.pull 1 rfl)
    have hE : Ext S2 S4 := he3.trans he4
    refine ⟨S4, _, (he1.trans he2).trans hE, VR.close (lp := p) (ll := L.length) (lc := c) (fp := p') (fl := Fs.length) (fc := c') ⟨rfl, hL.lim, hcap1, fun i x hx => ?_⟩ ⟨rfl, hF.lim, hcap2, fun i x hx => ?_⟩, rfl, h12⟩
    · have hi := get_lt hx
      refine ⟨f i, (hfv i x hi hx).mono (he2.trans hE), fun j v hj => ?_⟩
      have h5 : j < 5 := by have := get_lt hj; rw [hf5] at this; exact this
      exact hr4 _ v (by rw [rowsF_get hf5 hi h5]; exact hj)
    · have hi := get_lt hx
      obtain ⟨cs, e1, h2⟩ := hgv i x hi hx
      refine ⟨cs, h2.mono hE, ?_, fun j v hj => ?_⟩
      · have h0 : (rowsF Fs.length g)[i * 6]? = some (.string x.1) := by
          have := rowsF_get hg6 hi (j := 0) (by omega)
          rw [Nat.add_zero] at this
          rw [this, e1]; rfl
        obtain ⟨a, h3, h4⟩ := hr3 _ _ h0
        exact ⟨a, h3, h4.mono he4⟩
      · have h5 : j < 5 := by have := get_lt hj; rw [h2.len] at this; exact this
        have h0 : (rowsF Fs.length g)[i * 6 + (1 + j)]? = some v := by
          rw [rowsF_get hg6 hi (by omega), e1, Nat.add_comm 1 j, List.getElem?_cons_succ]; exact hj
        obtain ⟨a, h3, h4⟩ := hr3 _ _ h0
        exact ⟨a, h3, h4.mono he4⟩
end Go.Proofs.Ytjpaoggcphfjeaa
