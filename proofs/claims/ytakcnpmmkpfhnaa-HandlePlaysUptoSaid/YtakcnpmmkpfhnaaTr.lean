/- What each call of the document's own answer (tidemarkref8) does to its table: contracts of its functions. -/
import Derived.Test.YtakcnpmmkpfhnaaLStale
namespace Go.Proofs.Ytakcnpmmkpfhnaa
open Go Go.Lw Go.Tb

/-! Its rows. -/
def rcells (r : Slot) : List Value := [.int .u64 (r.gen : Int), .int .i64 (r.at_ : Int), .bool r.taken]
def rfun (rl : List Slot) (i : Nat) : List Value := match rl[i]? with | some r => rcells r | none => rcells ⟨0, 0, false⟩
def rrow (rl : List Slot) : List Value := rowsF rl.length (rfun rl)
theorem rfun_len (rl : List Slot) (i : Nat) : (rfun rl i).length = 3 := by unfold rfun; split <;> rfl
theorem rrow_len (rl : List Slot) : (rrow rl).length = rl.length * 3 := rowsF_len (rfun_len rl) _
theorem rrow_get {rl : List Slot} {i j : Nat} {r : Slot} (hi : rl[i]? = some r) (hj : j < 3) : (rrow rl)[i * 3 + j]? = (rcells r)[j]? := by
  unfold rrow
  rw [rowsF_get (rfun_len rl) (get_lt hi) hj]
  simp [rfun, hi]
theorem rrow_snoc (rl : List Slot) (r : Slot) : rrow (rl ++ [r]) = rrow rl ++ rcells r := by
  unfold rrow
  rw [List.length_append, List.length_singleton, rowsF_succ]
  congr 1
  · refine rowsF_congr fun i hi => ?_
    simp [rfun, List.getElem?_append_left hi]
  · simp [rfun]
theorem rrow_set {rl : List Slot} {i j : Nat} {r r' : Slot} {v : Value} (hi : rl[i]? = some r) (hj : j < 3) (hv : (rcells r).set j v = rcells r') : (rrow rl).set (i * 3 + j) v = rrow (rl.set i r') := by
  unfold rrow
  rw [rowsF_set (rfun_len rl) (get_lt hi) hj, List.length_set]
  refine rowsF_congr fun k hk => ?_
  unfold setRowF
  by_cases hki : k = i
  · subst hki
    rw [if_pos rfl]
    simp only [rfun, hi, List.getElem?_set_self hk, hv]
  · rw [if_neg hki]
    simp only [rfun, List.getElem?_set_ne (Ne.symm hki)]
theorem rrow_one (rl : List Slot) : ∀ u ∈ rrow rl, u.oneCell' = true := by
  intro u hu
  unfold rrow rowsF at hu
  obtain ⟨i, _, hi⟩ := List.mem_flatMap.1 hu
  unfold rfun at hi
  split at hi <;> simp [rcells] at hi <;> rcases hi with rfl | rfl | rfl <;> rfl
theorem ints_one (l : List Nat) : ∀ u ∈ ints l, u.oneCell' = true := by
  intro u hu
  obtain ⟨n, _, rfl⟩ := List.mem_map.1 hu
  rfl
theorem eok_rslots : EOK Try.prog 47 71 3 24 := ⟨by kernel_rfl, ⟨_, _, rfl, rfl, rfl, rfl, rfl⟩, by omega⟩

/-- the answer's slots are the table's: but for the numbers of those that are not taken. -/
structure RSame (rl : List Slot) (m : Tab) : Prop where
  len : rl.length = m.L.length
  each : ∀ (i : Nat) s, m.L[i]? = some s → ∃ r, rl[i]? = some r ∧ r.gen = s.gen ∧ r.taken = s.taken ∧ (s.taken = true → r.at_ = s.at_)

abbrev R1 (rl : List Slot) (p : Option Addr) (c : Nat) : HP := Own 71 3 p rl.length c (rrow rl)
abbrev R2 (fr : List Nat) (p : Option Addr) (c : Nat) : HP := Own 3 1 p fr.length c (ints fr.reverse)
abbrev rval (n : Int) (rl : List Slot) (fr : List Nat) (p1 : Option Addr) (c1 : Nat) (p2 : Option Addr) (c2 : Nat) : Value :=
  .agg #[.int .i64 n, .slice p1 rl.length c1, .slice p2 fr.length c2]
abbrev brow (n : Int) (rl : List Slot) (fr : List Nat) (p1 : Option Addr) (c1 : Nat) (p2 : Option Addr) (c2 : Nat) : List Value :=
  [.int .i64 n, .slice p1 rl.length c1, .slice p2 fr.length c2]

section
variable {rl : List Slot} {fr : List Nat} {p1 p2 : Option Addr} {c1 c2 : Nat} {L F : List HP} {w : World} {n : Int} {m : Tab}

theorem copied_r (hs : Sat L w) (i : Nat) (hi : L[i]? = some (R1 rl p1 c1)) (j : Nat) (hj : L[j]? = some (R2 fr p2 c2)) (h1 : rl.length ≤ 1048576) (h2 : fr.length ≤ 1048576) :
    Calls Try.prog 30 #[rval n rl fr p1 c1 p2 c2] w fun e w' => ∃ p1 c1 p2 c2, e = .returned (rval n rl fr p1 c1 p2 c2) ∧ Sat (R1 rl p1 c1 :: R2 fr p2 c2 :: L) w' := by
  refine S_ref8_copied_ok _ _ _ _ _ _ _ _ _ ?_
  unfold S_ref8_copied
  refine NewC.ofRow hs fun b0 w0 h0 => ?_
  refine NewC.ofRow h0 fun b1 w1 h1' => ?_
  simp only [add_mk, Nat.zero_add]
  refine LdS.of h1' 1 rfl (off := 1) rfl rfl ?_
  refine RunS.dup eok_rslots h1' (i + 2) (by simpa using hi) (rrow_one rl) (by omega) (by simp only [maxLen]; omega) fun q1 d1 w2 h3 => ?_
  refine StC.of h3 2 rfl (off := 1) rfl rfl fun w3 h4 => ?_
  refine LdS.of h4 2 rfl (off := 2) rfl rfl ?_
  refine RunS.dup eok_int h4 (j + 3) (by simpa using hj) (ints_one _) (by omega) (by simp only [maxLen]; omega) fun q2 d2 w4 h5 => ?_
  refine StC.of h5 3 rfl (off := 2) rfl rfl fun w5 h6 => ?_
  refine LdI.of h6 3 rfl (off := 0) rfl rfl ?_
  refine LdS.of h6 3 rfl (off := 1) rfl rfl ?_
  refine LdS.of h6 3 rfl (off := 2) rfl rfl ?_
  refine StC.of h6 2 rfl (off := 0) rfl rfl fun w6 h7 => ?_
  refine StC.of h7 2 rfl (off := 1) rfl rfl fun w7 h8 => ?_
  refine StC.of h8 2 rfl (off := 2) rfl rfl fun w8 h9 => ?_
  refine LdI.of h9 2 rfl (off := 0) rfl rfl ?_
  refine LdS.of h9 2 rfl (off := 1) rfl rfl ?_
  refine LdS.of h9 2 rfl (off := 2) rfl rfl ?_
  refine ⟨q1, d1, q2, d2, rfl, ?_⟩
  exact (((h9.pull 2 rfl).drop.pull 2 rfl).drop).pull 1 rfl

theorem handle_r (hs : Sat L w) (k : Nat) (hk : L[k]? = some (R1 rl p1 c1)) {l2 : Nat} {i : Nat} {r : Slot} (hi : rl[i]? = some r) (hi' : i + 1 < 4294967296) (hg : r.gen < 4294967296) :
    Calls Try.prog 31 #[.agg #[.int .i64 n, .slice p1 rl.length c1, .slice p2 l2 c2], .int .i64 (i : Int)] w fun e w' => e = .returned (.int .u64 (hnd r.gen i : Nat)) ∧ Sat L w' := by
  refine S_ref8_handle_ok _ _ _ _ _ _ _ _ _ _ ?_
  unfold S_ref8_handle
  refine NewC.ofRow hs fun b0 w0 h0 => ?_
  have hk0 : ∀ R : HP, (R :: L)[k + 1]? = some (R1 rl p1 c1) := fun R => by simpa using hk
  simp only [add_mk, Nat.zero_add]
  refine LdS.of h0 0 rfl (off := 1) rfl rfl ?_
  have hil := get_lt hi
  obtain ⟨g, rfl⟩ := h0.own_some (k + 1) (hk0 _) (by omega)
  refine IdxC.of (by omega) (by omega) ?_
  simp only [Int.toNat_natCast, Nat.zero_add]
  have hc := h0.ownCell (k + 1) (hk0 _) (off := i * 3) (v := .int .u64 (r.gen : Int)) (by have := rrow_get hi (j := 0) (by omega); simpa [rcells] using this)
  refine LdI.at hc ?_
  have := hnd_word hg hi'
  rw [wrapU64 (n := (r.gen : Int)) (by omega) (by omega)] at this
  rw [this]
  exact ⟨rfl, h0.drop⟩

theorem find_r (hs : Sat L w) (k : Nat) (hk : L[k]? = some (R1 rl p1 c1)) {l2 : Nat} (hr : RSame rl m) (hm : m.WF) {h : Nat} (hh : h < 18446744073709551616) :
    Calls Try.prog 32 #[.agg #[.int .i64 n, .slice p1 rl.length c1, .slice p2 l2 c2], .int .u64 (h : Int)] w fun e w' =>
      e = .returned (.int .i64 (match m.find h with | some i => (i : Int) | none => -1)) ∧ Sat L w' := by
  have hl := hm.len; have hmo := hm.most; have hrl := hr.len
  refine S_ref8_find_ok _ _ _ _ _ _ _ _ _ _ ?_
  unfold S_ref8_find
  refine NewC.ofRow hs fun b0 w0 h0 => ?_
  have hk0 : ∀ R : HP, (R :: L)[k + 1]? = some (R1 rl p1 c1) := fun R => by simpa using hk
  simp only [add_mk, Nat.zero_add, low_word hh, high_word]
  have hlow : h % 4294967296 < 4294967296 := Nat.mod_lt _ (by omega)
  generalize hlo : h % 4294967296 = lo at hlow ⊢
  rw [wrapI64 (n := (lo : Int)) (by omega) (by omega), wrapI64 (by omega) (by omega)]
  cases lo with
  | zero =>
    have hf : m.find h = none := by unfold Tab.find; rw [hlo]
    rw [hf]
    exact cond_t (by simp) ⟨rfl, h0.drop⟩
  | succ i =>
    have e1 : (((i + 1 : Nat) : Int) - 1) = (i : Int) := by omega
    rw [e1]
    refine cond_f (by simp) ?_
    refine LdS.of h0 0 rfl (off := 1) rfl rfl ?_
    by_cases hi : i < m.L.length
    · refine cond_f (by simp; omega) ?_
      refine LdS.of h0 0 rfl (off := 1) rfl rfl ?_
      obtain ⟨g, rfl⟩ := h0.own_some (k + 1) (hk0 _) (by omega)
      obtain ⟨r, hri, hrg, hrt, _⟩ := hr.each i _ (List.getElem?_eq_getElem hi)
      have hx := List.getElem?_eq_getElem hi
      refine IdxC.of (by omega) (by omega) ?_
      simp only [Int.toNat_natCast, Nat.zero_add, add_mk]
      refine LdB.at (h0.ownCell (k + 1) (hk0 _) (off := i * 3 + 2) (v := .bool r.taken) (by rw [rrow_get hri (by omega)]; rfl)) ?_
      generalize m.L[i] = s at *
      cases ht : s.taken
      · rw [hrt, ht]
        rw [find_no hlo hx ht]
        exact cond_t rfl ⟨rfl, h0.drop⟩
      · rw [hrt, ht]
        refine cond_f rfl ?_
        refine LdS.of h0 0 rfl (off := 1) rfl rfl ?_
        refine IdxC.of (by omega) (by omega) ?_
        simp only [Int.toNat_natCast, Nat.zero_add, add_mk]
        refine LdI.at (h0.ownCell (k + 1) (hk0 _) (off := i * 3) (v := .int .u64 (r.gen : Int)) (by have := rrow_get hri (j := 0) (by omega); simpa [rcells] using this)) ?_
        rw [hrg]
        by_cases hge : s.gen = h / 4294967296
        · rw [find_at hlo hge.symm hx ht]
          exact cond_f (by rw [hge]; simp) ⟨rfl, h0.drop⟩
        · rw [find_old hlo hx hge]
          exact cond_t (by simp; omega) ⟨rfl, h0.drop⟩
    · refine cond_t (by simp; omega) ?_
      have hf : m.find h = none := by
        unfold Tab.find; rw [hlo]; dsimp only
        rw [List.getElem?_eq_none (by omega)]
      rw [hf]
      exact ⟨rfl, h0.drop⟩
theorem at_r (hs : Sat L w) (k : Nat) (hk : L[k]? = some (R1 rl p1 c1)) {l2 : Nat} (hr : RSame rl m) (hm : m.WF) {h : Nat} (hh : h < 18446744073709551616) :
    Calls Try.prog 21 #[.agg #[.int .i64 n, .slice p1 rl.length c1, .slice p2 l2 c2], .int .u64 (h : Int)] w fun e w' =>
      e = .returned (match m.find h with | some i => .tuple #[.int .i64 (m.atOf i : Nat), .int .i64 0] | none => .tuple #[.int .i64 0, .int .i64 6]) ∧ Sat L w' := by
  refine S_ref8_At_ok _ _ _ _ _ _ _ _ _ _ ?_
  unfold S_ref8_At
  refine NewC.ofRow hs fun b0 w0 h0 => ?_
  simp only [add_mk, Nat.zero_add]
  have hk0 : ∀ R : HP, (R :: L)[k + 1]? = some (R1 rl p1 c1) := fun R => by simpa using hk
  refine LdI.of h0 0 rfl (off := 0) rfl rfl ?_
  refine LdS.of h0 0 rfl (off := 1) rfl rfl ?_
  refine LdS.of h0 0 rfl (off := 2) rfl rfl ?_
  refine (find_r h0 (k + 1) (hk0 _) hr hm hh).mono ?_
  rintro e w1 ⟨rfl, h1⟩
  refine ⟨_, rfl, ?_⟩
  cases hf : m.find h with
  | none => exact cond_t (by decide) ⟨rfl, h1.drop⟩
  | some i =>
    dsimp only
    obtain ⟨s, hx, ht, _⟩ := find_some hf
    obtain ⟨r, hri, hrg, hrt, hra⟩ := hr.each i s hx
    have hil := get_lt hri
    refine cond_f (by simp) ?_
    refine LdS.of h1 0 rfl (off := 1) rfl rfl ?_
    obtain ⟨g, rfl⟩ := h1.own_some (k + 1) (hk0 _) (by omega)
    refine IdxC.of (by omega) (by omega) ?_
    simp only [Int.toNat_natCast, Nat.zero_add, add_mk]
    refine LdI.at (h1.ownCell (k + 1) (hk0 _) (off := i * 3 + 1) (v := .int .i64 (r.at_ : Int)) (by rw [rrow_get hri (by omega)]; rfl)) ?_
    rw [hra ht]
    have : m.atOf i = s.at_ := by simp [Tab.atOf, hx]
    rw [this]
    exact ⟨rfl, h1.drop⟩

theorem of_r (hs : Sat L w) (k : Nat) (hk : L[k]? = some (R1 rl p1 c1)) {l2 : Nat} (hr : RSame rl m) (hm : m.WF) (i : Int) :
    Calls Try.prog 24 #[.agg #[.int .i64 (m.n : Nat), .slice p1 rl.length c1, .slice p2 l2 c2], .int .i64 i] w fun e w' =>
      e = .returned (if i < 0 ∨ m.n ≤ i then .tuple #[.int .u64 0, .int .i64 1] else if m.takenAt i.toNat = true then .tuple #[.int .u64 (hnd (m.genAt i.toNat) i.toNat : Nat), .int .i64 0] else .tuple #[.int .u64 0, .int .i64 6]) ∧ Sat L w' := by
  have hl := hm.len; have hmo := hm.most; have hrl := hr.len
  refine S_ref8_Of_ok _ _ _ _ _ _ _ _ _ _ ?_
  unfold S_ref8_Of
  refine NewC.ofRow hs fun b0 w0 h0 => ?_
  simp only [add_mk, Nat.zero_add]
  have hk0 : ∀ R : HP, (R :: L)[k + 1]? = some (R1 rl p1 c1) := fun R => by simpa using hk
  by_cases h1 : i < 0
  · rw [if_pos (.inl h1)]
    exact cond_t (by simpa using h1) ⟨rfl, h0.drop⟩
  refine cond_f (by simpa using h1) ?_
  refine LdI.of h0 0 rfl (off := 0) rfl rfl ?_
  by_cases h2 : (m.n : Int) ≤ i
  · rw [if_pos (.inr h2)]
    exact cond_t (by simp; omega) ⟨rfl, h0.drop⟩
  rw [if_neg (by omega)]
  refine cond_f (by simp; omega) ?_
  obtain ⟨x, rfl⟩ := Int.eq_ofNat_of_zero_le (Int.not_lt.1 h1)
  simp only [Int.toNat_natCast]
  refine LdS.of h0 0 rfl (off := 1) rfl rfl ?_
  by_cases h3 : x < m.L.length
  · refine cond_f (by simp; omega) ?_
    have hx := List.getElem?_eq_getElem h3
    obtain ⟨r, hri, hrg, hrt, _⟩ := hr.each x _ hx
    generalize m.L[x] = s at hx hrg hrt
    refine LdS.of h0 0 rfl (off := 1) rfl rfl ?_
    obtain ⟨g, rfl⟩ := h0.own_some (k + 1) (hk0 _) (by omega)
    refine IdxC.of (by omega) (by omega) ?_
    simp only [Int.toNat_natCast, Nat.zero_add, add_mk]
    refine LdB.at (h0.ownCell (k + 1) (hk0 _) (off := x * 3 + 2) (v := .bool r.taken) (by rw [rrow_get hri (by omega)]; rfl)) ?_
    have htk : m.takenAt x = r.taken := by rw [hrt]; simp [Tab.takenAt, hx]
    rw [htk]
    cases ht : r.taken
    · exact cond_t rfl ⟨rfl, h0.drop⟩
    · refine cond_f rfl ?_
      refine LdI.of h0 0 rfl (off := 0) rfl rfl ?_
      refine LdS.of h0 0 rfl (off := 1) rfl rfl ?_
      refine LdS.of h0 0 rfl (off := 2) rfl rfl ?_
      have hg := hm.gen x s hx
      refine (handle_r h0 (k + 1) (hk0 _) hri (by omega) (by rw [hrg]; exact hg)).mono ?_
      rintro e w1 ⟨rfl, h4⟩
      refine ⟨_, rfl, ?_⟩
      have hge : m.genAt x = r.gen := by rw [genAt_of hx, hrg]
      rw [hge]
      exact ⟨rfl, h4.drop⟩
  · refine cond_t (by simp; omega) ⟨?_, h0.drop⟩
    rw [takenAt_none (by omega)]
    rfl

theorem liveTo_ge {k : Nat} (hk : m.L.length ≤ k) : m.liveTo k = m.liveTo m.L.length := by
  obtain ⟨d, rfl⟩ := Nat.le.dest hk
  clear hk
  induction d with
  | zero => rfl
  | succ d ih => rw [← Nat.add_assoc, liveTo_succ, ih, takenAt_none (by omega)]; simp

theorem live_r (hs : Sat L w) (k : Nat) (hk : L[k]? = some (R1 rl p1 c1)) {l2 : Nat} (hr : RSame rl m) (hm : m.WF) :
    Calls Try.prog 25 #[.agg #[.int .i64 n, .slice p1 rl.length c1, .slice p2 l2 c2]] w fun e w' =>
      ∃ p l c, e = .returned (.slice p l c) ∧ l = m.live.length ∧ Sat (Own 25 1 p l c (words m.live) :: L) w' := by
  have hlen := hm.len; have hmo := hm.most; have hrl := hr.len
  refine S_ref8_Live_ok _ _ _ _ _ _ _ _ _ ?_
  unfold S_ref8_Live
  refine NewC.ofRow hs fun b0 w0 h0 => ?_
  have hk0 : ∀ R R' : HP, (R :: R' :: L)[k + 2]? = some (R1 rl p1 c1) := fun R R' => by simpa using hk
  refine ⟨fun p l c i w => ∃ x : Nat, i = x ∧ x ≤ rl.length ∧ l = (m.liveTo x).length ∧ Sat (Own 25 1 p l c (words (m.liveTo x)) :: Row b0 [.int .i64 n, .slice p1 rl.length c1, .slice p2 l2 c2] 49 :: L) w, fun _ _ _ i _ => (rl.length - i).toNat, ⟨0, rfl, by omega, rfl, h0.ownNil _ _⟩, ?_⟩
  rintro p l c i w1 ⟨x, rfl, hx, rfl, h1⟩
  have hkl := liveTo_len m x
  unfold S_ref8_Live_l0
  simp only [add_mk, Nat.zero_add]
  refine LdS.of h1 1 rfl (off := 1) rfl rfl ?_
  by_cases hlt : x < rl.length
  · refine cond_t (by simp; omega) ?_
    intro k0 hk0'
    refine LdS.of h1 1 rfl (off := 1) rfl rfl ?_
    obtain ⟨g, rfl⟩ := h1.own_some (k + 2) (hk0 _ _) (by omega)
    have hx' := List.getElem?_eq_getElem (l := m.L) (i := x) (by omega)
    obtain ⟨r, hri, hrg, hrt, _⟩ := hr.each x _ hx'
    generalize m.L[x]'(by omega) = s at hx' hrg hrt
    refine IdxC.of (by omega) (by omega) ?_
    simp only [Int.toNat_natCast, Nat.zero_add, add_mk]
    refine LdB.at (h1.ownCell (k + 2) (hk0 _ _) (off := x * 3 + 2) (v := .bool r.taken) (by rw [rrow_get hri (by omega)]; rfl)) ?_
    have htk : m.takenAt x = r.taken := by rw [hrt]; simp [Tab.takenAt, hx']
    cases ht : r.taken
    · refine cond_f rfl (hk0' _ _ _ _ ?_)
      unfold S_ref8_Live_j0
      rw [wrapI64 (by omega) (by omega)]
      refine ⟨⟨x + 1, by omega, by omega, ?_, ?_⟩, by dsimp only; omega⟩ <;> rw [liveTo_succ, htk, ht] <;> simp
      exact h1
    · refine cond_t rfl ?_
      refine LdI.of h1 1 rfl (off := 0) rfl rfl ?_
      refine LdS.of h1 1 rfl (off := 1) rfl rfl ?_
      refine LdS.of h1 1 rfl (off := 2) rfl rfl ?_
      have hg := hm.gen x s hx'
      refine (handle_r h1 (k + 2) (hk0 _ _) hri (by omega) (by rw [hrg]; exact hg)).mono ?_
      rintro e w2 ⟨rfl, h2⟩
      refine ⟨_, rfl, ?_⟩
      refine RunS.one eok_u64 h2 0 rfl (by rfl) (by rfl) (by omega) (by simp only [maxLen]; omega) fun p' c' w' h3 => ?_
      refine hk0' _ _ _ _ ?_
      unfold S_ref8_Live_j0
      rw [wrapI64 (by omega) (by omega)]
      have e1 : m.liveTo (x + 1) = m.liveTo x ++ [hnd r.gen x] := by rw [liveTo_succ, htk, ht, genAt_of hx', hrg]; rfl
      refine ⟨⟨x + 1, by omega, by omega, by rw [e1]; simp, ?_⟩, by dsimp only; omega⟩
      rw [e1, words_snoc]
      exact h3
  · have : x = m.L.length := by omega
    subst this
    have e1 : m.live = m.liveTo m.L.length := liveTo_ge hlen
    refine cond_f (by simp; omega) ⟨_, _, _, rfl, by rw [e1], ?_⟩
    rw [e1]
    exact (h1.pull 1 rfl).drop

/-! What changes its table. -/
theorem RSame.set {m' : Tab} (hr : RSame rl m) {i : Nat} {s r : Slot} (hm' : m'.L = m.L.set i s) (hg : r.gen = s.gen) (ht : r.taken = s.taken) (ha : s.taken = true → r.at_ = s.at_) : RSame (rl.set i r) m' := by
  refine ⟨by rw [hm', List.length_set, List.length_set, hr.len], fun j u hu => ?_⟩
  rw [hm'] at hu
  by_cases hij : i = j
  · subst hij
    have hlt : i < m.L.length := by simpa using get_lt hu
    rw [List.getElem?_set_self hlt] at hu
    cases hu
    exact ⟨r, List.getElem?_set_self (by rw [hr.len]; exact hlt), hg, ht, ha⟩
  · rw [List.getElem?_set_ne hij] at hu
    obtain ⟨q, hq, h1⟩ := hr.each j u hu
    exact ⟨q, by rw [List.getElem?_set_ne hij]; exact hq, h1⟩

def moveT (m : Tab) (h : Nat) (a : Int) : Tab × Int := match m.find h with | none => (m, 6) | some i => if a < 0 then (m, 1) else (m.move i a.toNat, 0)
def freeT (m : Tab) (h : Nat) : Tab × Int := match m.find h with | none => (m, 6) | some i => (m.free i, 0)

theorem move_r (hs : Sat (R1 rl p1 c1 :: R2 m.fr p2 c2 :: F) w) (hr : RSame rl m) (hm : m.WF) {h : Nat} (hh : h < 18446744073709551616) (a : Int) :
    Calls Try.prog 22 #[rval n rl m.fr p1 c1 p2 c2, .int .u64 (h : Int), .int .i64 a] w fun e w' =>
      ∃ rl' p1 c1 p2 c2, e = .returned (.tuple #[rval n rl' (moveT m h a).1.fr p1 c1 p2 c2, .int .i64 (moveT m h a).2]) ∧ RSame rl' (moveT m h a).1 ∧ Sat (R1 rl' p1 c1 :: R2 (moveT m h a).1.fr p2 c2 :: F) w' := by
  have hl := hm.len; have hmo := hm.most; have hrl := hr.len; have hfl := hm.fr_len
  refine S_ref8_Move_ok _ _ _ _ _ _ _ _ _ _ _ ?_
  unfold S_ref8_Move
  refine NewC.ofRow hs fun b0 w0 h0 => ?_
  refine NewC.ofRow h0 fun b1 w1 h1 => ?_
  simp only [add_mk, Nat.zero_add]
  refine LdI.of h1 1 rfl (off := 0) rfl rfl ?_
  refine LdS.of h1 1 rfl (off := 1) rfl rfl ?_
  refine LdS.of h1 1 rfl (off := 2) rfl rfl ?_
  refine (find_r h1 2 rfl hr hm hh).mono ?_
  rintro e w2 ⟨rfl, h2⟩
  refine ⟨_, rfl, ?_⟩
  unfold moveT
  cases hf : m.find h with
  | none =>
    refine cond_t (by decide) ?_
    refine LdI.of h2 1 rfl (off := 0) rfl rfl ?_
    refine LdS.of h2 1 rfl (off := 1) rfl rfl ?_
    refine LdS.of h2 1 rfl (off := 2) rfl rfl ?_
    refine StC.of h2 0 rfl (off := 0) rfl rfl fun _ h2q0 => ?_
    refine StC.of h2q0 0 rfl (off := 1) rfl rfl fun _ h2q1 => ?_
    refine StC.of h2q1 0 rfl (off := 2) rfl rfl fun _ h2q2 => ?_
    refine LdI.of h2q2 0 rfl (off := 0) rfl rfl ?_
    refine LdS.of h2q2 0 rfl (off := 1) rfl rfl ?_
    refine LdS.of h2q2 0 rfl (off := 2) rfl rfl ?_
    exact ⟨rl, p1, c1, p2, c2, rfl, hr, h2q2.drop.drop⟩
  | some i =>
    dsimp only
    obtain ⟨s, hx, ht, _⟩ := find_some hf
    obtain ⟨r, hri, hrg, hrt, hra⟩ := hr.each i s hx
    have hil := get_lt hri
    refine cond_f (by simp) ?_
    by_cases ha : a < 0
    · simp only [if_pos ha]
      refine cond_t (by simpa using ha) ?_
      refine LdI.of h2 1 rfl (off := 0) rfl rfl ?_
      refine LdS.of h2 1 rfl (off := 1) rfl rfl ?_
      refine LdS.of h2 1 rfl (off := 2) rfl rfl ?_
      refine StC.of h2 0 rfl (off := 0) rfl rfl fun _ h2q0 => ?_
      refine StC.of h2q0 0 rfl (off := 1) rfl rfl fun _ h2q1 => ?_
      refine StC.of h2q1 0 rfl (off := 2) rfl rfl fun _ h2q2 => ?_
      refine LdI.of h2q2 0 rfl (off := 0) rfl rfl ?_
      refine LdS.of h2q2 0 rfl (off := 1) rfl rfl ?_
      refine LdS.of h2q2 0 rfl (off := 2) rfl rfl ?_
      exact ⟨rl, p1, c1, p2, c2, rfl, hr, h2q2.drop.drop⟩
    · simp only [if_neg ha]
      refine cond_f (by simpa using ha) ?_
      obtain ⟨x, rfl⟩ := Int.eq_ofNat_of_zero_le (Int.not_lt.1 ha)
      simp only [Int.toNat_natCast]
      refine LdI.of h2 1 rfl (off := 0) rfl rfl ?_
      refine LdS.of h2 1 rfl (off := 1) rfl rfl ?_
      refine LdS.of h2 1 rfl (off := 2) rfl rfl ?_
      refine (copied_r h2 2 rfl 3 rfl (by omega) (by omega)).mono ?_
      rintro e w3 ⟨q1, d1, q2, d2, rfl, h3⟩
      refine ⟨_, _, _, _, _, _, _, rfl, ?_⟩
      refine StC.of h3 3 rfl (off := 0) rfl rfl fun _ h40 => ?_
      refine StC.of h40 3 rfl (off := 1) rfl rfl fun _ h41 => ?_
      refine StC.of h41 3 rfl (off := 2) rfl rfl fun _ h42 => ?_
      refine LdS.of h42 3 rfl (off := 1) rfl rfl ?_
      obtain ⟨g, rfl⟩ := h42.own_some 0 rfl (by omega)
      refine IdxC.of (by omega) (by omega) ?_
      simp only [Int.toNat_natCast, Nat.zero_add, add_mk]
      refine StC.own h42 0 rfl (off := i * 3 + 1) (rrow_get hri (by omega)) rfl fun w5 h5 => ?_
      have h5 : Sat (Own 71 3 (some ⟨g, 0, none⟩) rl.length d1 ((rrow rl).set (i * 3 + 1) (.int .i64 (x : Int))) :: R2 m.fr q2 d2 :: Row b1 [.int .i64 0, .slice none 0 0, .slice none 0 0] 49 :: Row b0 (brow n rl m.fr (some ⟨g, 0, none⟩) d1 q2 d2) 49 :: R1 rl p1 c1 :: R2 m.fr p2 c2 :: F) w5 := h5
      rw [rrow_set hri (by omega) (r' := { r with at_ := x }) rfl] at h5
      refine LdI.of h5 3 rfl (off := 0) rfl rfl ?_
      refine LdS.of h5 3 rfl (off := 1) rfl rfl ?_
      refine LdS.of h5 3 rfl (off := 2) rfl rfl ?_
      refine StC.of h5 2 rfl (off := 0) rfl rfl fun _ h60 => ?_
      refine StC.of h60 2 rfl (off := 1) rfl rfl fun _ h61 => ?_
      refine StC.of h61 2 rfl (off := 2) rfl rfl fun _ h62 => ?_
      refine LdI.of h62 2 rfl (off := 0) rfl rfl ?_
      refine LdS.of h62 2 rfl (off := 1) rfl rfl ?_
      refine LdS.of h62 2 rfl (off := 2) rfl rfl ?_
      have hr' : RSame (rl.set i { r with at_ := x }) (m.move i x) := hr.set (s := ⟨m.genAt i, x, true⟩) rfl (by rw [genAt_of hx]; exact hrg) (by rw [hrt]; exact ht) (fun _ => rfl)
      have h7 := ((((h62.pull 2 rfl).drop.pull 2 rfl).drop.pull 2 rfl).drop.pull 2 rfl).drop
      refine ⟨rl.set i { r with at_ := x }, some ⟨g, 0, none⟩, d1, q2, d2, ?_, hr', ?_⟩
      · unfold rval; rw [List.length_set]; rfl
      · unfold R1; rw [List.length_set]; exact h7

theorem free_r (hs : Sat (R1 rl p1 c1 :: R2 m.fr p2 c2 :: F) w) (hr : RSame rl m) (hm : m.WF) {h : Nat} (hh : h < 18446744073709551616) :
    Calls Try.prog 23 #[rval n rl m.fr p1 c1 p2 c2, .int .u64 (h : Int)] w fun e w' =>
      ∃ rl' p1 c1 p2 c2, e = .returned (.tuple #[rval n rl' (freeT m h).1.fr p1 c1 p2 c2, .int .i64 (freeT m h).2]) ∧ RSame rl' (freeT m h).1 ∧ Sat (R1 rl' p1 c1 :: R2 (freeT m h).1.fr p2 c2 :: F) w' := by
  have hl := hm.len; have hmo := hm.most; have hrl := hr.len; have hfl := hm.fr_len
  refine S_ref8_Free_ok _ _ _ _ _ _ _ _ _ _ ?_
  unfold S_ref8_Free
  refine NewC.ofRow hs fun b0 w0 h0 => ?_
  refine NewC.ofRow h0 fun b1 w1 h1 => ?_
  simp only [add_mk, Nat.zero_add]
  refine LdI.of h1 1 rfl (off := 0) rfl rfl ?_
  refine LdS.of h1 1 rfl (off := 1) rfl rfl ?_
  refine LdS.of h1 1 rfl (off := 2) rfl rfl ?_
  refine (find_r h1 2 rfl hr hm hh).mono ?_
  rintro e w2 ⟨rfl, h2⟩
  refine ⟨_, rfl, ?_⟩
  unfold freeT
  cases hf : m.find h with
  | none =>
    refine cond_t (by decide) ?_
    refine LdI.of h2 1 rfl (off := 0) rfl rfl ?_
    refine LdS.of h2 1 rfl (off := 1) rfl rfl ?_
    refine LdS.of h2 1 rfl (off := 2) rfl rfl ?_
    refine StC.of h2 0 rfl (off := 0) rfl rfl fun _ h2q0 => ?_
    refine StC.of h2q0 0 rfl (off := 1) rfl rfl fun _ h2q1 => ?_
    refine StC.of h2q1 0 rfl (off := 2) rfl rfl fun _ h2q2 => ?_
    refine LdI.of h2q2 0 rfl (off := 0) rfl rfl ?_
    refine LdS.of h2q2 0 rfl (off := 1) rfl rfl ?_
    refine LdS.of h2q2 0 rfl (off := 2) rfl rfl ?_
    exact ⟨rl, p1, c1, p2, c2, rfl, hr, h2q2.drop.drop⟩
  | some i =>
    dsimp only
    obtain ⟨s, hx, ht, _⟩ := find_some hf
    obtain ⟨r, hri, hrg, hrt, hra⟩ := hr.each i s hx
    have hil := get_lt hri
    have hg := hm.gen i s hx
    refine cond_f (by simp) ?_
    refine LdI.of h2 1 rfl (off := 0) rfl rfl ?_
    refine LdS.of h2 1 rfl (off := 1) rfl rfl ?_
    refine LdS.of h2 1 rfl (off := 2) rfl rfl ?_
    refine (copied_r h2 2 rfl 3 rfl (by omega) (by omega)).mono ?_
    rintro e w3 ⟨q1, d1, q2, d2, rfl, h3⟩
    refine ⟨_, _, _, _, _, _, _, rfl, ?_⟩
    refine StC.of h3 3 rfl (off := 0) rfl rfl fun _ h40 => ?_
    refine StC.of h40 3 rfl (off := 1) rfl rfl fun _ h41 => ?_
    refine StC.of h41 3 rfl (off := 2) rfl rfl fun _ h42 => ?_
    refine LdS.of h42 3 rfl (off := 1) rfl rfl ?_
    obtain ⟨g, rfl⟩ := h42.own_some 0 rfl (by omega)
    refine IdxC.of (by omega) (by omega) ?_
    simp only [Int.toNat_natCast, Nat.zero_add, add_mk]
    refine StC.own h42 0 rfl (off := i * 3 + 2) (rrow_get hri (by omega)) rfl fun w5 h5 => ?_
    have h5 : Sat (Own 71 3 (some ⟨g, 0, none⟩) rl.length d1 ((rrow rl).set (i * 3 + 2) (.bool false)) :: R2 m.fr q2 d2 :: Row b1 [.int .i64 0, .slice none 0 0, .slice none 0 0] 49 :: Row b0 (brow n rl m.fr (some ⟨g, 0, none⟩) d1 q2 d2) 49 :: R1 rl p1 c1 :: R2 m.fr p2 c2 :: F) w5 := h5
    rw [rrow_set hri (by omega) (r' := { r with taken := false }) rfl] at h5
    refine LdS.of h5 3 rfl (off := 1) rfl rfl ?_
    refine IdxC.of (by omega) (by omega) ?_
    simp only [Int.toNat_natCast, Nat.zero_add]
    have hri2 : (rl.set i { r with taken := false })[i]? = some { r with taken := false } := List.getElem?_set_self hil
    have hg0 : (rrow (rl.set i { r with taken := false }))[i * 3]? = some (.int .u64 (r.gen : Int)) := by have := rrow_get hri2 (j := 0) (by omega); simpa [rcells] using this
    refine LdI.at (h5.ownCell 0 rfl (off := i * 3) hg0) ?_
    refine IdxC.of (by omega) (by omega) ?_
    simp only [Int.toNat_natCast, Nat.zero_add]
    refine StC.own h5 0 rfl (off := i * 3) hg0 rfl fun w6 h6 => ?_
    rw [wrapU64 (by omega) (by omega)] at h6
    have e0 : (rrow (rl.set i { r with taken := false })).set (i * 3) (.int .u64 ((r.gen : Int) + 1)) = rrow (rl.set i { r with taken := false, gen := r.gen + 1 }) := by
      have := rrow_set hri2 (j := 0) (r' := { r with taken := false, gen := r.gen + 1 }) (v := .int .u64 ((r.gen + 1 : Nat) : Int)) (by omega) rfl
      rw [List.set_set] at this
      exact this
    have h6 : Sat (Own 71 3 (some ⟨g, 0, none⟩) rl.length d1 ((rrow (rl.set i { r with taken := false })).set (i * 3) (.int .u64 ((r.gen : Int) + 1))) :: R2 m.fr q2 d2 :: Row b1 [.int .i64 0, .slice none 0 0, .slice none 0 0] 49 :: Row b0 (brow n rl m.fr (some ⟨g, 0, none⟩) d1 q2 d2) 49 :: R1 rl p1 c1 :: R2 m.fr p2 c2 :: F) w6 := h6
    rw [e0] at h6
    refine LdS.of h6 3 rfl (off := 2) rfl rfl ?_
    refine RunS.one eok_int h6 1 rfl (by rfl) (by rfl) (by omega) (by simp only [maxLen]; omega) fun q3 d3 w7 h7 => ?_
    refine StC.of h7 3 rfl (off := 2) rfl rfl fun w8 h8 => ?_
    refine LdI.of h8 3 rfl (off := 0) rfl rfl ?_
    refine LdS.of h8 3 rfl (off := 1) rfl rfl ?_
    refine LdS.of h8 3 rfl (off := 2) rfl rfl ?_
    refine StC.of h8 2 rfl (off := 0) rfl rfl fun _ h90 => ?_
    refine StC.of h90 2 rfl (off := 1) rfl rfl fun _ h91 => ?_
    refine StC.of h91 2 rfl (off := 2) rfl rfl fun _ h92 => ?_
    refine LdI.of h92 2 rfl (off := 0) rfl rfl ?_
    refine LdS.of h92 2 rfl (off := 1) rfl rfl ?_
    refine LdS.of h92 2 rfl (off := 2) rfl rfl ?_
    have hr' : RSame (rl.set i { r with taken := false, gen := r.gen + 1 }) (m.free i) := hr.set (s := ⟨m.genAt i + 1, 0, false⟩) rfl (by rw [genAt_of hx, ← hrg]) rfl (fun h => by cases h)
    have h10 := ((((h92.pull 2 rfl).drop.pull 2 rfl).drop.pull 2 rfl).drop.pull 2 rfl).drop
    refine ⟨rl.set i { r with taken := false, gen := r.gen + 1 }, some ⟨g, 0, none⟩, d1, q3, d3, ?_, hr', ?_⟩
    · unfold rval; rw [List.length_set]; rfl
    · have e1 : ints m.fr.reverse ++ [Value.int .i64 (i : Int)] = ints (i :: m.fr).reverse := by rw [List.reverse_cons, ints_snoc]
      unfold R1 R2
      rw [List.length_set]
      show Sat (_ :: Own _ _ _ (m.fr.length + 1) _ (ints (i :: m.fr).reverse) :: F) _
      rw [← e1]
      exact h10
/-! Make. -/
def makeT (m : Tab) (a : Int) : Tab × Nat × Int :=
  if a < 0 then (m, 0, 1) else if m.fr = [] ∧ m.L.length = m.n then (m, 0, 5) else (m.make a.toNat, hnd (m.genAt m.nextSlot) m.nextSlot, 0)

theorem RSame.snoc {m' : Tab} (hr : RSame rl m) {s : Slot} (hm' : m'.L = m.L ++ [s]) : RSame (rl ++ [s]) m' := by
  refine ⟨by rw [hm', List.length_append, List.length_append, hr.len], fun j u hu => ?_⟩
  rw [hm'] at hu
  rcases Nat.lt_or_ge j m.L.length with h | h
  · rw [List.getElem?_append_left h] at hu
    obtain ⟨q, hq, h1⟩ := hr.each j u hu
    exact ⟨q, by rw [List.getElem?_append_left (by rw [hr.len]; exact h)]; exact hq, h1⟩
  · rw [List.getElem?_append_right h] at hu
    have hl := hr.len
    refine ⟨u, ?_, rfl, rfl, fun _ => rfl⟩
    rw [List.getElem?_append_right (by omega), hl]
    exact hu

theorem make_r (hs : Sat (R1 rl p1 c1 :: R2 m.fr p2 c2 :: F) w) (hr : RSame rl m) (hm : m.WF) (a : Int) :
    Calls Try.prog 20 #[rval (m.n : Nat) rl m.fr p1 c1 p2 c2, .int .i64 a] w fun e w' =>
      ∃ rl' p1 c1 p2 c2, e = .returned (.tuple #[rval (m.n : Nat) rl' (makeT m a).1.fr p1 c1 p2 c2, .int .u64 ((makeT m a).2.1 : Nat), .int .i64 (makeT m a).2.2]) ∧ RSame rl' (makeT m a).1 ∧ Sat (R1 rl' p1 c1 :: R2 (makeT m a).1.fr p2 c2 :: F) w' := by
  have hl := hm.len; have hmo := hm.most; have hrl := hr.len; have hfl := hm.fr_len
  refine S_ref8_Make_ok _ _ _ _ _ _ _ _ _ _ ?_
  unfold S_ref8_Make
  refine NewC.ofRow hs fun b0 w0 h0 => ?_
  refine NewC.ofRow h0 fun b1 w1 h1 => ?_
  simp only [add_mk, Nat.zero_add]
  unfold makeT
  by_cases ha : a < 0
  · simp only [if_pos ha]
    refine cond_t (by simpa using ha) ?_
    refine LdI.of h1 1 rfl (off := 0) rfl rfl ?_
    refine LdS.of h1 1 rfl (off := 1) rfl rfl ?_
    refine LdS.of h1 1 rfl (off := 2) rfl rfl ?_
    refine StC.of h1 0 rfl (off := 0) rfl rfl fun _ h1q0 => ?_
    refine StC.of h1q0 0 rfl (off := 1) rfl rfl fun _ h1q1 => ?_
    refine StC.of h1q1 0 rfl (off := 2) rfl rfl fun _ h1q2 => ?_
    refine LdI.of h1q2 0 rfl (off := 0) rfl rfl ?_
    refine LdS.of h1q2 0 rfl (off := 1) rfl rfl ?_
    refine LdS.of h1q2 0 rfl (off := 2) rfl rfl ?_
    exact ⟨rl, p1, c1, p2, c2, rfl, hr, h1q2.drop.drop⟩
  simp only [if_neg ha]
  refine cond_f (by simpa using ha) ?_
  obtain ⟨x, rfl⟩ := Int.eq_ofNat_of_zero_le (Int.not_lt.1 ha)
  simp only [Int.toNat_natCast]
  refine LdI.of h1 1 rfl (off := 0) rfl rfl ?_
  refine LdS.of h1 1 rfl (off := 1) rfl rfl ?_
  refine LdS.of h1 1 rfl (off := 2) rfl rfl ?_
  refine (copied_r h1 2 rfl 3 rfl (by omega) (by omega)).mono ?_
  rintro e w3 ⟨q1, d1, q2, d2, rfl, h3⟩
  refine ⟨_, _, _, _, _, _, _, rfl, ?_⟩
  refine StC.of h3 3 rfl (off := 0) rfl rfl fun _ h40 => ?_
  refine StC.of h40 3 rfl (off := 1) rfl rfl fun _ h41 => ?_
  refine StC.of h41 3 rfl (off := 2) rfl rfl fun _ h42 => ?_
  refine LdS.of h42 3 rfl (off := 2) rfl rfl ?_
  have h4 : Sat (R1 rl q1 d1 :: R2 m.fr q2 d2 :: Row b1 [.int .i64 0, .slice none 0 0, .slice none 0 0] 49 :: Row b0 (brow (m.n : Nat) rl m.fr q1 d1 q2 d2) 49 :: R1 rl p1 c1 :: R2 m.fr p2 c2 :: F) _ := h42
  clear h3 h40 h41 h42
  cases hfr : m.fr with
  | cons j rs =>
    rw [if_neg (fun h => by cases h.1)]
    have hlen : m.fr.length = rs.length + 1 := by rw [hfr]; rfl
    refine cond_t (by simp) ?_
    try rw [← hfr]
    refine LdS.of h4 3 rfl (off := 2) rfl rfl ?_
    refine LdS.of h4 3 rfl (off := 2) rfl rfl ?_
    obtain ⟨g2, rfl⟩ := h4.own_some 1 rfl (by omega)
    have hd2 : m.fr.length ≤ d2 := by
      rcases (h4.own 1 rfl).2 with ⟨h, _⟩ | ⟨_, _, _, h, _⟩
      · cases h
      · exact h
    have ei : IntKind.wrap .i64 (((m.fr.length : Nat) : Int) - 1) = ((rs.length : Nat) : Int) := by rw [wrapI64 (by omega) (by omega)]; omega
    rw [ei]
    refine IdxC.of (by omega) (by omega) ?_
    simp only [Int.toNat_natCast, Nat.zero_add, Nat.mul_one]
    have hjv : (ints m.fr.reverse)[rs.length]? = some (.int .i64 (j : Int)) := by rw [hfr, List.reverse_cons]; simp [ints]
    refine LdI.at (h4.ownCell 1 rfl (off := rs.length) hjv) ?_
    refine LdS.of h4 3 rfl (off := 2) rfl rfl ?_
    refine LdS.of h4 3 rfl (off := 2) rfl rfl ?_
    rw [ei]
    refine SlC.of 0 rs.length d2 rfl rfl rfl (by omega) (by omega) (Nat.le_refl _) ?_
    rw [slAddr_zero, Nat.sub_zero, Nat.sub_zero]
    refine StC.of h4 3 rfl (off := 2) rfl rfl fun w5 h5 => ?_
    have h6 : Sat (R1 rl q1 d1 :: Own 3 1 (some ⟨g2, 0, none⟩) rs.length d2 ((ints m.fr.reverse).take (rs.length * 1)) :: Row b1 [.int .i64 0, .slice none 0 0, .slice none 0 0] 49 :: Row b0 (brow (m.n : Nat) rl rs q1 d1 (some ⟨g2, 0, none⟩) d2) 49 :: R1 rl p1 c1 :: R2 m.fr p2 c2 :: F) w5 := h5.ownTake 1 rfl (by omega)
    have et : (ints m.fr.reverse).take (rs.length * 1) = ints rs.reverse := by
      rw [hfr, List.reverse_cons, Nat.mul_one]
      unfold ints
      rw [List.map_append, List.take_append_of_le_length (by simp), List.take_of_length_le (by simp)]
    rw [et] at h6
    have hjm := hm.mem_lt (i := j) (by rw [hfr]; simp)
    obtain ⟨s, hx, hst⟩ := (hm.mem j).1 (by rw [hfr]; simp)
    obtain ⟨r, hri, hrg, hrt, _⟩ := hr.each j s hx
    have hg := hm.gen j s hx
    have hjl := get_lt hri
    refine LdS.of h6 3 rfl (off := 1) rfl rfl ?_
    obtain ⟨g, rfl⟩ := h6.own_some 0 rfl (by omega)
    refine IdxC.of (by omega) (by omega) ?_
    simp only [Int.toNat_natCast, Nat.zero_add, add_mk]
    refine StC.own h6 0 rfl (off := j * 3 + 2) (rrow_get hri (by omega)) rfl fun w7 h7 => ?_
    have h7 : Sat (Own 71 3 (some ⟨g, 0, none⟩) rl.length d1 ((rrow rl).set (j * 3 + 2) (.bool true)) :: R2 rs (some ⟨g2, 0, none⟩) d2 :: Row b1 [.int .i64 0, .slice none 0 0, .slice none 0 0] 49 :: Row b0 (brow (m.n : Nat) rl rs (some ⟨g, 0, none⟩) d1 (some ⟨g2, 0, none⟩) d2) 49 :: R1 rl p1 c1 :: R2 m.fr p2 c2 :: F) w7 := h7
    rw [rrow_set hri (by omega) (r' := { r with taken := true }) rfl] at h7
    refine LdS.of h7 3 rfl (off := 1) rfl rfl ?_
    refine IdxC.of (by omega) (by omega) ?_
    simp only [Int.toNat_natCast, Nat.zero_add, add_mk]
    have hri2 : (rl.set j { r with taken := true })[j]? = some { r with taken := true } := List.getElem?_set_self hjl
    refine StC.own h7 0 rfl (off := j * 3 + 1) (rrow_get hri2 (by omega)) rfl fun w8 h8 => ?_
    have h8 : Sat (Own 71 3 (some ⟨g, 0, none⟩) rl.length d1 ((rrow (rl.set j { r with taken := true })).set (j * 3 + 1) (.int .i64 (x : Int))) :: R2 rs (some ⟨g2, 0, none⟩) d2 :: Row b1 [.int .i64 0, .slice none 0 0, .slice none 0 0] 49 :: Row b0 (brow (m.n : Nat) rl rs (some ⟨g, 0, none⟩) d1 (some ⟨g2, 0, none⟩) d2) 49 :: R1 rl p1 c1 :: R2 m.fr p2 c2 :: F) w8 := h8
    rw [rrow_set hri2 (by omega) (r' := { r with taken := true, at_ := x }) rfl, List.set_set] at h8
    have hri3 : (rl.set j { r with taken := true, at_ := x })[j]? = some { r with taken := true, at_ := x } := List.getElem?_set_self hjl
    generalize hrl' : rl.set j { r with taken := true, at_ := x } = rl' at h8 hri3
    have hll : rl.length = rl'.length := by rw [← hrl', List.length_set]
    unfold brow at h8
    rw [hll] at h8
    let C : World → Prop := fun w => ∃ vs : List Value, Sat (R1 rl' (some ⟨g, 0, none⟩) d1 :: R2 rs (some ⟨g2, 0, none⟩) d2 :: Row b1 vs 49 :: Row b0 (brow (m.n : Nat) rl' rs (some ⟨g, 0, none⟩) d1 (some ⟨g2, 0, none⟩) d2) 49 :: R1 rl p1 c1 :: R2 m.fr p2 c2 :: F) w
    have ag : ∀ w, C w → LdI .i64 w ⟨b0, 0, none⟩ fun n => LdS w ⟨b0, 1, none⟩ fun s1p s1l s1c => LdS w ⟨b0, 2, none⟩ fun s2p s2l s2c =>
        Value.agg #[.int .i64 n, .slice s1p s1l s1c, .slice s2p s2l s2c] = rval (m.n : Nat) rl' rs (some ⟨g, 0, none⟩) d1 (some ⟨g2, 0, none⟩) d2 := by
      rintro w ⟨vs, hw⟩
      refine LdI.of hw 3 rfl (off := 0) rfl rfl ?_
      refine LdS.of hw 3 rfl (off := 1) rfl rfl ?_
      refine LdS.of hw 3 rfl (off := 2) rfl rfl ?_
      rfl
    refine ⟨C, ⟨_, h8.drew⟩, _, _, _, _, _, _, _, ag, _, _, _, _, _, _, _, ag, ?_⟩
    refine (handle_r h8.drew 0 rfl hri3 (by omega) (by dsimp only; omega)).mono ?_
    rintro e w9 ⟨rfl, h9⟩
    refine ⟨_, rfl, ⟨_, h9⟩, ?_⟩
    refine StC.of h9 2 rfl (off := 0) rfl rfl fun _ h9q0 => ?_
    refine StC.of h9q0 2 rfl (off := 1) rfl rfl fun _ h9q1 => ?_
    refine StC.of h9q1 2 rfl (off := 2) rfl rfl fun _ h9q2 => ?_
    refine ⟨⟨_, h9q2⟩, ?_⟩
    refine LdI.of h9q2 2 rfl (off := 0) rfl rfl ?_
    refine LdS.of h9q2 2 rfl (off := 1) rfl rfl ?_
    refine LdS.of h9q2 2 rfl (off := 2) rfl rfl ?_
    have hnx : m.nextSlot = j := by simp [Tab.nextSlot, hfr]
    have hmk : m.make x = { m with L := m.L.set j ⟨m.genAt j, x, true⟩, fr := rs } := by simp [Tab.make, hfr]
    have hr' : RSame rl' (m.make x) := by rw [← hrl', hmk]; exact hr.set (s := ⟨m.genAt j, x, true⟩) rfl (by rw [genAt_of hx]; exact hrg) rfl (fun _ => rfl)
    have h10 := ((((h9q2.pull 2 rfl).drop.pull 2 rfl).drop.pull 2 rfl).drop.pull 2 rfl).drop
    refine ⟨rl', some ⟨g, 0, none⟩, d1, some ⟨g2, 0, none⟩, d2, ?_, hr', ?_⟩
    · rw [hnx, genAt_of hx, ← hrg, hmk]
    · rw [hmk]; exact h10
  | nil =>
    rw [hfr] at h4
    refine cond_f (by simp) ?_
    refine LdS.of h4 3 rfl (off := 1) rfl rfl ?_
    refine LdI.of h4 3 rfl (off := 0) rfl rfl ?_
    by_cases hfull : m.L.length = m.n
    · rw [if_pos ⟨rfl, hfull⟩]
      refine cond_t (by rw [hrl, hfull]; simp) ?_
      refine LdI.of h4 3 rfl (off := 0) rfl rfl ?_
      refine LdS.of h4 3 rfl (off := 1) rfl rfl ?_
      refine LdS.of h4 3 rfl (off := 2) rfl rfl ?_
      refine StC.of h4 2 rfl (off := 0) rfl rfl fun _ h4q0 => ?_
      refine StC.of h4q0 2 rfl (off := 1) rfl rfl fun _ h4q1 => ?_
      refine StC.of h4q1 2 rfl (off := 2) rfl rfl fun _ h4q2 => ?_
      refine LdI.of h4q2 2 rfl (off := 0) rfl rfl ?_
      refine LdS.of h4q2 2 rfl (off := 1) rfl rfl ?_
      refine LdS.of h4q2 2 rfl (off := 2) rfl rfl ?_
      refine ⟨rl, q1, d1, q2, d2, ?_, hr, ?_⟩
      · simp only [hfr]; rfl
      · simp only [hfr]; exact ((((h4q2.pull 2 rfl).drop.pull 2 rfl).drop.pull 2 rfl).drop.pull 2 rfl).drop
    · rw [if_neg (fun h => hfull h.2)]
      refine cond_f (by simp; omega) ?_
      refine LdS.of h4 3 rfl (off := 1) rfl rfl ?_
      refine RunS.one eok_rslots h4 0 rfl (by rfl) (by rfl) (by omega) (by simp only [maxLen]; omega) fun q3 d3 w5 h5 => ?_
      refine StC.of h5 3 rfl (off := 1) rfl rfl fun w6 h6 => ?_
      have e1 : rrow rl ++ [Value.int .u64 1, .int .i64 (x : Int), .bool true] = rrow (rl ++ [⟨1, x, true⟩]) := by rw [rrow_snoc]; rfl
      have e2 : rl.length + 1 = (rl ++ [(⟨1, x, true⟩ : Slot)]).length := by simp
      have hri3 : (rl ++ [(⟨1, x, true⟩ : Slot)])[rl.length]? = some ⟨1, x, true⟩ := by simp
      have hmk : m.make x = { m with L := m.L ++ [⟨1, x, true⟩] } := by simp [Tab.make, hfr]
      have hr' : RSame (rl ++ [⟨1, x, true⟩]) (m.make x) := hr.snoc (by rw [hmk])
      have h6 : Sat (Own 71 3 q3 (rl.length + 1) d3 (rrow rl ++ [Value.int .u64 1, .int .i64 (x : Int), .bool true]) :: R2 [] q2 d2 :: Row b1 [.int .i64 0, .slice none 0 0, .slice none 0 0] 49 :: Row b0 [.int .i64 (m.n : Nat), .slice q3 (rl.length + 1) d3, .slice q2 0 d2] 49 :: R1 rl p1 c1 :: R2 [] p2 c2 :: F) w6 := h6
      rw [e1] at h6
      have ei : IntKind.wrap .i64 (((rl.length + 1 : Nat) : Int) - 1) = ((rl.length : Nat) : Int) := by rw [wrapI64 (by omega) (by omega)]; omega
      generalize hrl' : rl ++ [(⟨1, x, true⟩ : Slot)] = rl' at h6 hri3 e2 hr'
      rw [e2] at h6
      let C : World → Prop := fun w => ∃ vs : List Value, Sat (R1 rl' q3 d3 :: R2 [] q2 d2 :: Row b1 vs 49 :: Row b0 (brow (m.n : Nat) rl' [] q3 d3 q2 d2) 49 :: R1 rl p1 c1 :: R2 [] p2 c2 :: F) w
      have ag : ∀ w, C w → LdI .i64 w ⟨b0, 0, none⟩ fun n => LdS w ⟨b0, 1, none⟩ fun s1p s1l s1c => LdS w ⟨b0, 2, none⟩ fun s2p s2l s2c =>
          Value.agg #[.int .i64 n, .slice s1p s1l s1c, .slice s2p s2l s2c] = rval (m.n : Nat) rl' [] q3 d3 q2 d2 := by
        rintro w ⟨vs, hw⟩
        refine LdI.of hw 3 rfl (off := 0) rfl rfl ?_
        refine LdS.of hw 3 rfl (off := 1) rfl rfl ?_
        refine LdS.of hw 3 rfl (off := 2) rfl rfl ?_
        rfl
      refine ⟨C, ⟨_, h6.drew⟩, _, _, _, _, _, _, _, ag, _, _, _, _, _, _, _, ag, ?_⟩
      refine ⟨q3, rl'.length, d3, ?_, ?_⟩
      · rintro w ⟨vs, hw⟩
        exact LdS.of hw 3 rfl (off := 1) rfl rfl rfl
      dsimp only
      rw [← e2, ei, e2]
      refine (handle_r h6.drew 0 rfl hri3 (by omega) (by dsimp only; omega)).mono ?_
      rintro e w9 ⟨rfl, h9⟩
      refine ⟨_, rfl, ⟨_, h9⟩, ?_⟩
      refine StC.of h9 2 rfl (off := 0) rfl rfl fun _ h9q0 => ?_
      refine StC.of h9q0 2 rfl (off := 1) rfl rfl fun _ h9q1 => ?_
      refine StC.of h9q1 2 rfl (off := 2) rfl rfl fun _ h9q2 => ?_
      refine ⟨⟨_, h9q2⟩, ?_⟩
      refine LdI.of h9q2 2 rfl (off := 0) rfl rfl ?_
      refine LdS.of h9q2 2 rfl (off := 1) rfl rfl ?_
      refine LdS.of h9q2 2 rfl (off := 2) rfl rfl ?_
      have hnx : m.nextSlot = rl.length := by simp [Tab.nextSlot, hfr, hrl]
      have h10 := ((((h9q2.pull 2 rfl).drop.pull 2 rfl).drop.pull 2 rfl).drop.pull 2 rfl).drop
      refine ⟨rl', q3, d3, q2, d2, ?_, hr', ?_⟩
      · rw [hnx, genAt_none (by omega), hmk]
        simp only [hfr]
      · rw [hmk]; simp only [hfr]; exact h10
end
end Go.Proofs.Ytakcnpmmkpfhnaa
