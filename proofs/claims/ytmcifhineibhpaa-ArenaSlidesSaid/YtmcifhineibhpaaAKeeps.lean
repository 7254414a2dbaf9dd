/- 'ArenaKeeps' answers true: words put into objects are got, marks are set each for itself. No conditions. -/
import Derived.Test.YtmcifhineibhpaaAKnown
import Derived.Test.YtmcifhineibhpaaLx
namespace Go.Am
/-! Objects one behind the other, told by their number. -/
def pos (os : List Ob) (i : Nat) : Nat := osz (os.take i)
def poss (os : List Ob) : List Nat := (List.range os.length).map (pos os)
theorem poss_len (os : List Ob) : (poss os).length = os.length := by simp [poss]
theorem poss_get {os : List Ob} {i : Nat} (h : i < os.length) : (poss os)[i]? = some (pos os i) := by simp [poss, h]
theorem pos_app {os l : List Ob} {i : Nat} (h : i ≤ os.length) : pos (os ++ l) i = pos os i := by unfold pos; rw [List.take_append_of_le_length h]
theorem pos_all (os : List Ob) : pos os os.length = osz os := by simp [pos]
theorem poss_snoc (os : List Ob) (o : Ob) : poss (os ++ [o]) = poss os ++ [osz os] := by
  unfold poss
  rw [List.length_append, List.length_singleton, List.range_succ, List.map_append]
  congr 1
  · exact List.map_congr_left fun i hi => pos_app (by have := List.mem_range.1 hi; omega)
  · simp [pos]
theorem find_pos : ∀ {os : List Ob} {c i : Nat} {o : Ob}, os[i]? = some o → findL c os (c + pos os i) = some o
  | [], _, _, _, h => by simp at h
  | p :: l, c, 0, o, h => by simp at h; subst h; simp [findL, pos, osz]
  | p :: l, c, i + 1, o, h => by
    simp only [List.getElem?_cons_succ] at h
    simp only [findL, pos, List.take_succ_cons, osz]
    rw [if_neg (by omega)]
    have := find_pos (c := c + 1 + p.w.length) h
    rw [show c + (1 + p.w.length + osz (l.take i)) = c + 1 + p.w.length + pos l i by unfold pos; omega]
    exact this
theorem set_pos : ∀ {os : List Ob} {c i : Nat} {o o' : Ob}, os[i]? = some o → setL c os (c + pos os i) o' = os.set i o'
  | [], _, _, _, _, h => by simp at h
  | p :: l, c, 0, o, o', h => by simp [setL, pos, osz]
  | p :: l, c, i + 1, o, o', h => by
    simp only [List.getElem?_cons_succ] at h
    simp only [setL, pos, List.take_succ_cons, osz, List.set_cons_succ]
    rw [if_neg (by omega), show c + (1 + p.w.length + osz (l.take i)) = c + 1 + p.w.length + pos l i by unfold pos; omega, set_pos h]
theorem osz_set : ∀ {os : List Ob} {i : Nat} {o o' : Ob}, os[i]? = some o → o'.w.length = o.w.length → osz (os.set i o') = osz os
  | [], _, _, _, h, _ => by simp at h
  | p :: l, 0, o, o', h, hl => by simp at h; subst h; simp [osz, hl]
  | p :: l, i + 1, o, o', h, hl => by
    simp only [List.getElem?_cons_succ] at h
    simp only [List.set_cons_succ, osz, osz_set h hl]
theorem pos_set {os : List Ob} {i : Nat} {o o' : Ob} (h : os[i]? = some o) (hl : o'.w.length = o.w.length) (k : Nat) : pos (os.set i o') k = pos os k := by
  unfold pos
  rw [List.take_set]
  by_cases hk : i < k
  · exact osz_set (o := o) (by rw [List.getElem?_take_of_lt hk]; exact h) hl
  · rw [List.set_eq_of_length_le (by rw [List.length_take]; omega)]
theorem poss_set {os : List Ob} {i : Nat} {o o' : Ob} (h : os[i]? = some o) (hl : o'.w.length = o.w.length) : poss (os.set i o') = poss os := by
  unfold poss
  rw [List.length_set]
  exact List.map_congr_left fun k _ => pos_set h hl k
theorem osz_le {os : List Ob} {c : Nat} (h : ∀ o ∈ os, 1 + o.w.length ≤ c) : osz os ≤ c * os.length := by
  induction os with
  | nil => simp [osz]
  | cons p l ih =>
    have h1 := h p List.mem_cons_self
    have h2 := ih fun o ho => h o (List.mem_cons_of_mem _ ho)
    simp only [osz, List.length_cons, Nat.mul_succ]
    omega
/-- an arena that is shut. -/
def Am.flat (n : Nat) (os : List Ob) : Am := ⟨n, os, [], 0, false⟩
theorem flat_top (n : Nat) (os : List Ob) : (Am.flat n os).top = osz os := rfl
theorem flat_find {n : Nat} {os : List Ob} {i : Nat} {o : Ob} (h : os[i]? = some o) : (Am.flat n os).find (pos os i) = some o := by
  have := find_pos (c := 0) h
  rw [Nat.zero_add] at this
  simp [Am.find, Am.flat, this]
theorem flat_set {n : Nat} {os : List Ob} {i : Nat} {o o' : Ob} (h : os[i]? = some o) : (Am.flat n os).set (pos os i) o' = Am.flat n (os.set i o') := by
  have h1 := find_pos (c := 0) h
  have h2 := set_pos (c := 0) (o' := o') h
  rw [Nat.zero_add] at h1 h2
  simp [Am.set, Am.flat, h1, h2]
theorem flat_alloc (n : Nat) (os : List Ob) (o : Ob) : (Am.flat n os).alloc o = Am.flat n (os ++ [o]) := rfl
end Go.Am
namespace Go.Proofs.Ytmcifhineibhpaa
open Go Go.Lw Go.Tb Go.Wd Go.Am Go.ChangeShapes Go.WideShapes Go.ChangeAt Go.RowKit

theorem eok_i : EOK Try.prog 22 3 1 8 := ⟨by kernel_rfl, ⟨_, _, rfl, rfl, rfl, rfl, rfl⟩, by omega⟩
theorem eok_b : EOK Try.prog 28 4 1 1 := ⟨by kernel_rfl, ⟨_, _, rfl, rfl, rfl, rfl, rfl⟩, by omega⟩
theorem eok_wss : EOK Try.prog 27 32 1 24 := ⟨by kernel_rfl, ⟨_, _, rfl, rfl, rfl, rfl, rfl⟩, by omega⟩

/-- what the objects are, but for their words and marks. -/
structure Sh (os : List Ob) : Prop where
  len : os.length ≤ 40
  each : ∀ (i : Nat) o, os[i]? = some o → o.tag = 9 ∧ o.refs = o.w.length / 2 ∧ o.owner = i ∧ o.w.length ≤ 31
theorem Sh.set {os : List Ob} (h : Sh os) {i : Nat} {o o' : Ob} (hi : os[i]? = some o) (h1 : o'.tag = o.tag) (h2 : o'.refs = o.refs) (h3 : o'.owner = o.owner) (h4 : o'.w.length = o.w.length) : Sh (os.set i o') := by
  refine ⟨by simpa using h.len, fun k p hk => ?_⟩
  rw [List.getElem?_set] at hk
  split at hk
  · rename_i e
    subst e
    split at hk
    · cases hk
      have := h.each i o hi
      rw [h1, h2, h3, h4]
      exact this
    · cases hk
  · exact h.each k p hk
theorem Sh.snoc {os : List Ob} (h : Sh os) (hl : os.length < 40) {x : Nat} (hx : x ≤ 31) : Sh (os ++ [Ob.fresh 9 (x / 2) x os.length]) := by
  refine ⟨by simp; omega, fun k p hk => ?_⟩
  rcases Nat.lt_or_ge k os.length with hlt | hge
  · rw [List.getElem?_append_left hlt] at hk; exact h.each k p hk
  · rw [List.getElem?_append_right hge] at hk
    have : k - os.length = 0 := by
      rcases Nat.eq_zero_or_pos (k - os.length) with h | h
      · exact h
      · rw [List.getElem?_eq_none (by rw [List.length_singleton]; omega)] at hk; cases hk
    rw [this] at hk
    cases hk
    refine ⟨rfl, by simp [Ob.fresh], by dsimp only [Ob.fresh]; omega, by simpa [Ob.fresh] using hx⟩
theorem Sh.osz {os : List Ob} (h : Sh os) : Go.Am.osz os ≤ 32 * os.length := osz_le fun o ho => by
  obtain ⟨i, hi⟩ := List.mem_iff_getElem?.1 ho
  have := (h.each i o hi).2.2.2
  omega

def kRows (gs : List Nat) (os : List Ob) : List HP := List.zipWith (fun g o => Row g (words o.w) 33) gs os
def sls (gs : List Nat) (os : List Ob) : List Value := List.zipWith (fun g o => .slice (some ⟨g, 0, none⟩) o.w.length o.w.length) gs os
def marksV (os : List Ob) : List Value := os.map fun o => .bool o.mark
def KM (W : World) (b : Nat) (oa os : List Ob) (gs : List Nat) (ap : Option Addr) (ac : Nat) (wp : Option Addr) (wc : Nat) (mp : Option Addr) (mc : Nat) : List HP :=
  Own 3 1 ap os.length ac (intsL (poss os)) :: Own 32 1 wp os.length wc (sls gs os) :: Own 4 1 mp os.length mc (marksV os) :: Arena (Am.flat 2000 oa) b :: Base W :: kRows gs os

theorem zip_set {α : Type} (f : Nat → Ob → α) {gs : List Nat} {os : List Ob} {i g : Nat} {o' : Ob} (hg : gs[i]? = some g) : List.zipWith f gs (os.set i o') = (List.zipWith f gs os).set i (f g o') := by
  apply List.ext_getElem?
  intro k
  rw [List.getElem?_set, List.getElem?_zipWith, List.getElem?_set, List.length_zipWith]
  by_cases e : i = k
  · subst e
    have hl := get_lt hg
    simp only [if_true, hg]
    by_cases h : i < os.length
    · rw [if_pos h, if_pos (by omega)]
    · rw [if_neg h, if_neg (by omega)]
  · rw [if_neg e, if_neg e, List.getElem?_zipWith]
theorem kRows_get {gs : List Nat} {os : List Ob} {i g : Nat} {o : Ob} (hg : gs[i]? = some g) (ho : os[i]? = some o) : (kRows gs os)[i]? = some (Row g (words o.w) 33) := by
  unfold kRows; rw [List.getElem?_zipWith, hg, ho]
theorem sls_get {gs : List Nat} {os : List Ob} {i g : Nat} {o : Ob} (hg : gs[i]? = some g) (ho : os[i]? = some o) : (sls gs os)[i]? = some (.slice (some ⟨g, 0, none⟩) o.w.length o.w.length) := by
  unfold sls; rw [List.getElem?_zipWith, hg, ho]
theorem sls_set {gs : List Nat} {os : List Ob} {i g : Nat} {o o' : Ob} (hg : gs[i]? = some g) (ho : os[i]? = some o) (hl : o'.w.length = o.w.length) : sls gs (os.set i o') = sls gs os := by
  have h := sls_get hg ho
  unfold sls at h ⊢
  rw [zip_set _ hg, hl]
  apply List.ext_getElem?
  intro k
  rw [List.getElem?_set]
  split
  · rename_i e; subst e
    rw [h, if_pos (get_lt h)]
  · rfl
theorem marks_get {os : List Ob} {i : Nat} {o : Ob} (ho : os[i]? = some o) : (marksV os)[i]? = some (.bool o.mark) := by simp [marksV, ho]
theorem marks_set (os : List Ob) (i : Nat) (o' : Ob) : marksV (os.set i o') = (marksV os).set i (.bool o'.mark) := by simp [marksV, List.map_set]
theorem set_self_get {α : Type} {l : List α} {i : Nat} {a : α} (h : l[i]? = some a) : l.set i a = l := by
  apply List.ext_getElem?
  intro k
  rw [List.getElem?_set]
  split
  · rename_i e; subst e; rw [h, if_pos (get_lt h)]
  · rfl
theorem words_set (l : List Nat) (j x : Nat) : (words l).set j (.int .u64 (x : Int)) = words (l.set j x) := by simp [words, List.map_set]
theorem words_at {l : List Nat} {j x : Nat} (h : l[j]? = some x) : (words l)[j]? = some (.int .u64 (x : Int)) := by simp [words, h]
theorem ints_at {l : List Nat} {j x : Nat} (h : l[j]? = some x) : (intsL l)[j]? = some (.int .i64 (x : Int)) := by simp [intsL, h]

abbrev dks : List IntKind := [.i64, .i64, .i64, .i64, .i64, .u64]

theorem keeps_c (W : World) {p : Option Addr} {l c : Nat} {zs : List Int} (hz : ArgI W .i64 p l zs) {p2 : Option Addr} {l2 c2 : Nat} {xs : List Value} (hx : ArgR W dks p2 l2 xs) :
    Calls Try.prog 3 #[.slice p l c, .slice p2 l2 c2] W (Ret (.bool true) (Go.RowKit.Below W.heap.size W)) := by
  refine S_law7_ArenaKeeps_ok _ _ _ _ _ _ _ _ ?_
  unfold S_law7_ArenaKeeps
  refine (awake_c (Sat.ofBase W)).mono ?_
  rintro e w0 ⟨rfl, h0⟩
  refine ⟨_, rfl, cond_f rfl ?_⟩
  refine (fresh_c (n := 2000) (by omega) (by omega) h0).mono ?_
  rintro e w1 ⟨b, rfl, h1⟩
  refine ⟨_, rfl, cond_f rfl ?_⟩
  have hzm := hz.max; have hxm := hx.max
  simp only [maxLen] at hzm hxm
  intro k0 hk0
  refine ⟨fun ap al ac wp wl wc mp ml mc i w => ∃ (os : List Ob) (gs : List Nat), i = os.length ∧ al = os.length ∧ wl = os.length ∧ ml = os.length ∧ gs.length = os.length ∧ Sh os ∧ Sat (KM W b os os gs ap ac wp wc mp mc) w,
    fun _ _ _ _ _ _ _ _ _ i _ => (40 - i).toNat, ⟨[], [], rfl, rfl, rfl, rfl, rfl, ⟨by simp, fun i o h => by simp at h⟩, ?_⟩, ?_⟩
  · have a1 := ((h1.ownNil 4 1).ownNil 32 1).ownNil 3 1
    exact a1
  rintro ap al ac wp wl wc mp ml mc i w2 ⟨os, gs, rfl, rfl, rfl, rfl, hgs, hsh, h2⟩
  unfold S_law7_ArenaKeeps_l0
  have hlen := hsh.len
  have hosz := hsh.osz
  -- when they are made: the deeds
  have made : k0 ap os.length ac wp os.length wc mp os.length mc w2 := by
    refine hk0 _ _ _ _ _ _ _ _ _ _ ?_
    unfold S_law7_ArenaKeeps_j2
    intro k1 hk1
    generalize hn : os.length = n at *
    refine ⟨fun i w => ∃ (os : List Ob) (j : Nat), i = j ∧ j ≤ l2 ∧ os.length = n ∧ Sh os ∧ Sat (KM W b os os gs ap ac wp wc mp mc) w, fun i _ => (l2 - i).toNat, ⟨os, 0, rfl, by omega, hn, hsh, h2⟩, ?_⟩
    clear h2 hsh hosz
    clear os hn
    rintro i w3 ⟨os, j, rfl, hj, hn, hsh, h3⟩
    unfold S_law7_ArenaKeeps_l1
    -- when all is put: it is looked at
    have look : k1 w3 := by
      refine hk1 _ ?_
      unfold S_law7_ArenaKeeps_j1
      refine ⟨fun i w => ∃ k : Nat, i = k ∧ k ≤ n ∧ Sat (KM W b os os gs ap ac wp wc mp mc) w, fun i _ => (n - i).toNat, ⟨0, rfl, by omega, h3⟩, ?_⟩
      clear h3
      rintro i w4 ⟨k, rfl, hk, h4⟩
      unfold S_law7_ArenaKeeps_l3
      by_cases hkn : k < n
      case neg => exact cond_f (by simp; omega) ⟨rfl, h4.below 4 rfl⟩
      refine cond_t (by simp; omega) ?_
      have ho : os[k]? = some os[k] := List.getElem?_eq_getElem (by omega)
      generalize os[k] = o at ho
      have hg : gs[k]? = some gs[k] := List.getElem?_eq_getElem (by omega)
      generalize gs[k] = g at hg
      obtain ⟨e1, e2, e3, e4⟩ := hsh.each k o ho
      have hpos : (intsL (poss os))[k]? = some (.int .i64 (pos os k : Int)) := ints_at (poss_get (by omega))
      have hfd := flat_find (n := 2000) ho
      subst hn
      refine IdxC.ownAt h4 0 rfl (by omega) fun ga hga => ?_
      rw [Nat.mul_one]
      refine LdI.at (h4.ownAt 0 rfl hga hpos) ?_
      refine (head2 (h4.pull 3 rfl) (pos os k : Int)).mono ?_
      rintro e w5 ⟨rfl, h5⟩
      have h5 : Sat (KM W b os os gs ap ac wp wc mp mc) w5 := Sat.back 3 (A := Arena (Am.flat 2000 os) b) rfl h5
      rw [findI_nat, hfd]
      refine ⟨_, _, _, _, _, _, rfl, ?_⟩
      refine NewC.ofRow h5 fun b0 w6 h6 => st5 h6 0 rfl fun w7 h7 => cond_f rfl ?_
      have h8 := h7.drew
      simp only [add_mk, Nat.zero_add]
      refine LdI.of h8 0 rfl (off := 0) rfl rfl (cond_f (by simp [e1]) ?_)
      refine LdI.of h8 0 rfl (off := 1) rfl rfl ?_
      refine IdxC.ownAt h8 2 rfl (by omega) fun gw hgw => ?_
      rw [Nat.mul_one]
      refine LdS.at (h8.ownAt 2 rfl hgw (sls_get hg ho)) ⟨by omega, ?_⟩
      have t1 : Int.tdiv ((o.w.length : Nat) : Int) 2 = ((o.w.length / 2 : Nat) : Int) := tdiv_nat _ 2
      rw [t1, wrapI64 (by omega) (by omega)]
      refine cond_f (by simp [e2]) ?_
      refine LdI.of h8 0 rfl (off := 2) rfl rfl ?_
      refine IdxC.ownAt h8 2 rfl (by omega) fun gw hgw => ?_
      rw [Nat.mul_one]
      refine LdS.at (h8.ownAt 2 rfl hgw (sls_get hg ho)) (cond_f (by simp) ?_)
      refine LdB.of h8 0 rfl (off := 3) rfl rfl ?_
      refine IdxC.ownAt h8 3 rfl (by omega) fun gm hgm => ?_
      rw [Nat.mul_one]
      refine LdB.at (h8.ownAt 3 rfl hgm (marks_get ho)) (cond_f (by simp) ?_)
      refine LdI.of h8 0 rfl (off := 4) rfl rfl (cond_f (by simp [e3]) ?_)
      refine ⟨fun i w => ∃ j : Nat, i = j ∧ j ≤ o.w.length ∧ Sat (KM W b os os gs ap ac wp wc mp mc) w, fun i _ => (o.w.length - i).toNat, ⟨0, rfl, by omega, h8.drop⟩, ?_⟩
      clear h4 h5 h6 h7 h8
      rintro i w9 ⟨q, rfl, hq, h9⟩
      unfold S_law7_ArenaKeeps_l2
      refine IdxC.ownAt h9 1 rfl (by omega) fun gw hgw => ?_
      rw [Nat.mul_one]
      refine LdS.at (h9.ownAt 1 rfl hgw (sls_get hg ho)) ?_
      by_cases hqn : q < o.w.length
      · refine cond_t (by simpa using hqn) ?_
        refine IdxC.ownAt h9 0 rfl (by omega) fun ga hga => ?_
        rw [Nat.mul_one]
        refine LdI.at (h9.ownAt 0 rfl hga hpos) ?_
        refine (get2 (h9.pull 3 rfl) (pos os k : Int) (q : Int)).mono ?_
        rintro e w10 ⟨rfl, h10⟩
        have h10 : Sat (KM W b os os gs ap ac wp wc mp mc) w10 := Sat.back 3 (A := Arena (Am.flat 2000 os) b) rfl h10
        have hqx : o.w[q]? = some o.w[q] := List.getElem?_eq_getElem hqn
        rw [findI_nat, hfd, getO_of hqx]
        refine ⟨_, _, rfl, cond_f rfl ?_⟩
        refine IdxC.ownAt h10 1 rfl (by omega) fun gw hgw => ?_
        rw [Nat.mul_one]
        refine LdS.at (h10.ownAt 1 rfl hgw (sls_get hg ho)) ?_
        refine IdxC.of (by omega) (by omega) ?_
        simp only [Int.toNat_natCast, Nat.zero_add, Nat.mul_one]
        refine LdI.at (h10.cell (k + 5) (by unfold KM; simpa using kRows_get hg ho) (words_at hqx)) ?_
        refine cond_f (by simp) ?_
        rw [wrapI64 (by omega) (by omega)]
        exact ⟨⟨q + 1, by omega, by omega, h10⟩, by first | omega | (dsimp only; omega)⟩
      · refine cond_f (by simpa using hqn) ?_
        rw [wrapI64 (by omega) (by omega)]
        exact ⟨⟨k + 1, by omega, by omega, h9⟩, by first | omega | (dsimp only; omega)⟩
    by_cases hjl : j < l2
    case neg => exact cond_f (by simp; omega) look
    refine cond_t (by simp; omega) ?_
    by_cases hn0 : 0 < n
    case neg => exact cond_f (by simp; omega) look
    refine cond_t (by simp; omega) ?_
    clear look
    intro k2 hk2
    -- on to the next deed
    have cont : ∀ (os' : List Ob) (w : World), os'.length = n → Sh os' → Sat (KM W b os' os' gs ap ac wp wc mp mc) w → k2 w := by
      intro os' w e1 e2 h
      refine hk2 _ ?_
      unfold S_law7_ArenaKeeps_j0
      rw [wrapI64 (by omega) (by omega)]
      exact ⟨⟨os', j + 1, by omega, by omega, e1, e2, h⟩, by first | omega | (dsimp only; omega)⟩
    obtain ⟨n0, c0, wf0⟩ := argCell hx hjl (q := 0) rfl
    obtain ⟨n1, c1, wf1⟩ := argCell hx hjl (q := 1) rfl
    obtain ⟨n2, c2', wf2⟩ := argCell hx hjl (q := 2) rfl
    obtain ⟨n5, c5, wf5⟩ := argCell hx hjl (q := 5) rfl
    have rd : ∀ {w : World} {os' : List Ob}, Sat (KM W b os' os gs ap ac wp wc mp mc) w → ∀ {K : Addr → Prop}, (∀ a, w.cell? a = some (.int .i64 n0) → w.cell? (a.add 1) = some (.int .i64 n1) → w.cell? (a.add 2) = some (.int .i64 n2) → w.cell? (a.add 5) = some (.int .u64 n5) → K a) → IdxC p2 l2 (j : Int) 6 K := by
      intro w os' hs K h
      refine IdxC.reads (hs.baseReads 4 rfl hx.reads) (hx.some (by omega)) (by omega) (by omega) fun a hca => ?_
      rw [Int.toNat_natCast] at hca
      exact h a (by simpa [Addr.add] using hca 0 _ c0) (hca 1 _ c1) (hca 2 _ c2') (hca 5 _ c5)
    obtain ⟨x, hx1, hxe⟩ := bAnd_le n1 65535 (by omega)
    have hxe : bAnd .i64 n1 65535 = (x : Int) := hxe
    refine rd h3 fun a _ ha1 _ _ => LdI.at ha1 ?_
    rw [hxe, tmod_nat]
    have hq : x % n < n := Nat.mod_lt _ hn0
    generalize x % n = q at hq
    have ho : os[q]? = some os[q] := List.getElem?_eq_getElem (by omega)
    generalize os[q] = o at ho
    have hg : gs[q]? = some gs[q] := List.getElem?_eq_getElem (by omega)
    generalize gs[q] = g at hg
    obtain ⟨e1, e2, e3, e4⟩ := hsh.each q o ho
    have hpos : (intsL (poss os))[q]? = some (.int .i64 (pos os q : Int)) := ints_at (poss_get (by omega))
    have hfd := flat_find (n := 2000) ho
    refine ⟨by omega, ?_⟩
    refine rd h3 fun a ha0 _ _ _ => LdI.at ha0 ?_
    by_cases h6 : n0 = 6
    · refine cond_t (by simp [h6]) ?_
      refine rd h3 fun a _ _ ha2 _ => LdI.at ha2 ?_
      generalize hbm : (bAnd .i64 n2 1 == 1) = bm
      subst hn
      refine IdxC.ownAt h3 2 rfl (by omega) fun gm hgm => ?_
      rw [Nat.mul_one]
      refine StC.ownAt h3 2 rfl hgm (marks_get ho) rfl fun w4 h4 => ?_
      have h5 := h4.drew
      refine IdxC.ownAt h5 0 rfl (by omega) fun ga hga => ?_
      rw [Nat.mul_one]
      refine LdI.at (h5.ownAt 0 rfl hga hpos) ?_
      refine IdxC.ownAt h5 2 rfl (by omega) fun gm hgm => ?_
      rw [Nat.mul_one]
      refine LdB.at (h5.ownAt 2 rfl hgm (List.getElem?_set_self (get_lt (marks_get ho)))) ?_
      refine (mark2 (h5.pull 3 rfl) (pos os q : Int) bm).mono ?_
      rintro e w6 (⟨hno, _⟩ | ⟨k', o', hk', hf', rfl, h6'⟩)
      · rw [findI_nat, hfd] at hno; cases hno
      · have ek : pos os q = k' := by omega
        subst ek
        rw [hfd] at hf'
        cases hf'
        rw [flat_set ho] at h6'
        refine ⟨_, rfl, cond_f rfl (cont (os.set q (o.marked bm)) _ (by simp) (hsh.set ho rfl rfl rfl rfl) ?_)⟩
        have h7 := Sat.back 3 (A := Arena (Am.flat 2000 os) b) rfl h6'
        unfold KM
        rw [poss_set (o' := o.marked bm) ho rfl, sls_set (o' := o.marked bm) hg ho rfl, marks_set, List.length_set]
        have : kRows gs (os.set q (o.marked bm)) = kRows gs os := by
          have := kRows_get hg ho
          unfold kRows at this ⊢
          rw [zip_set _ hg]
          exact set_self_get this
        rw [this]
        exact h7
    · refine cond_f (by simpa using h6) ?_
      refine rd h3 fun a _ _ ha2 _ => LdI.at ha2 ?_
      have h4 := h3.drew
      subst hn
      refine IdxC.ownAt h3 0 rfl (by omega) fun ga hga => ?_
      rw [Nat.mul_one]
      refine LdI.at (h4.ownAt 0 rfl hga hpos) ?_
      refine rd h4 fun a _ _ _ ha5 => LdI.at ha5 ?_
      obtain ⟨y, rfl, hy⟩ := wf_u64 wf5
      refine (put2 (h4.pull 3 rfl) (pos os q : Int) n2 hy).mono ?_
      rintro e w5 (⟨hno, rfl, h5⟩ | ⟨k', j', o', hk', rfl, hf', hj', rfl, h5⟩)
      · have h5 : Sat (KM W b os os gs ap ac wp wc mp mc) w5 := Sat.back 3 (A := Arena (Am.flat 2000 os) b) rfl h5
        refine ⟨_, rfl, ?_⟩
        by_cases hneg : n2 < 0
        · exact cond_t (by simpa using hneg) (cond_f rfl (cont os _ rfl hsh h5))
        · refine cond_f (by simpa using hneg) ?_
          refine IdxC.ownAt h5 1 rfl (by omega) fun gw hgw => ?_
          rw [Nat.mul_one]
          refine LdS.at (h5.ownAt 1 rfl hgw (sls_get hg ho)) ?_
          obtain ⟨j', rfl⟩ := Int.eq_ofNat_of_zero_le (Int.not_lt.1 hneg)
          rw [findI_nat, hfd] at hno
          have : ¬ j' < o.w.length := fun hlt => by simp [getO, hlt] at hno
          exact cond_t (by simp; omega) (cond_f rfl (cont os _ rfl hsh h5))
      · have ek : pos os q = k' := by omega
        subst ek
        rw [hfd] at hf'
        cases hf'
        rw [flat_set ho] at h5
        have h5 : Sat (KM W b (os.set q (o.put j' y)) os gs ap ac wp wc mp mc) w5 := Sat.back 3 (A := Arena (Am.flat 2000 os) b) (L := KM W b os os gs ap ac wp wc mp mc) rfl h5
        refine ⟨_, rfl, cond_f (by simp) ?_⟩
        refine IdxC.ownAt h5 1 rfl (by omega) fun gw hgw => ?_
        rw [Nat.mul_one]
        refine LdS.at (h5.ownAt 1 rfl hgw (sls_get hg ho)) (cond_f (by simp; omega) (cond_f rfl ?_))
        have h6' := h5.drew
        refine IdxC.ownAt h6' 1 rfl (by omega) fun gw hgw => ?_
        rw [Nat.mul_one]
        refine LdS.at (h6'.ownAt 1 rfl hgw (sls_get hg ho)) ?_
        refine rd h6' fun a _ _ _ ha5 => LdI.at ha5 ?_
        refine IdxC.of (by omega) (by omega) ?_
        simp only [Int.toNat_natCast, Nat.zero_add, Nat.mul_one]
        have hqx : o.w[j']? = some o.w[j'] := List.getElem?_eq_getElem hj'
        refine StC.of h6' (q + 5) (by unfold KM; simpa using kRows_get hg ho) (words_at hqx) rfl fun w7 h7 => ?_
        refine cont (os.set q (o.put j' y)) _ (by simp) (hsh.set ho rfl rfl rfl (by simp [Ob.put])) ?_
        unfold KM at h7 ⊢
        rw [poss_set (o' := o.put j' y) ho (by simp [Ob.put]), sls_set (o' := o.put j' y) hg ho (by simp [Ob.put]), marks_set, List.length_set]
        have e5 : (marksV os).set q (.bool (o.put j' y).mark) = marksV os := set_self_get (by rw [marks_get ho]; rfl)
        rw [e5]
        have e6 : kRows gs (os.set q (o.put j' y)) = (kRows gs os).set q (Row g ((words o.w).set j' (.int .u64 (y : Int))) 33) := by
          rw [words_set]
          unfold kRows
          rw [zip_set _ hg]
          rfl
        rw [e6]
        exact h7
  by_cases hil : os.length < l
  case neg => exact cond_f (by simp; omega) made
  refine cond_t (by simp; omega) ?_
  by_cases hi40 : os.length < 40
  case neg => exact cond_f (by simp; omega) made
  refine cond_t (by simp; omega) ?_
  clear made
  have hzi : zs[os.length]? = some (zs[os.length]'(by rw [hz.len]; exact hil)) := List.getElem?_eq_getElem _
  generalize (zs[os.length]'(by rw [hz.len]; exact hil)) = z at hzi
  refine IdxC.reads (h2.baseReads 4 rfl hz.reads) (hz.some (by omega)) (by omega) (by omega) fun a hca => ?_
  rw [Int.toNat_natCast, Nat.mul_one] at hca
  refine LdI.at (n := z) (by simpa [Addr.add] using hca 0 (.int .i64 z) (by simp [hzi])) ⟨by omega, ?_⟩
  obtain ⟨x, hx1, hxe⟩ := bAnd_le z 31 (by omega)
  have hxe : bAnd .i64 z 31 = (x : Int) := hxe
  have t1 : Int.tdiv (x : Int) 2 = ((x / 2 : Nat) : Int) := tdiv_nat x 2
  rw [hxe, t1, wrapI64 (n := ((x / 2 : Nat) : Int)) (by omega) (by omega)]
  refine (alloc2 (h2.pull 3 rfl) (tag := 9) (refs := x / 2) (size := x) (owner := os.length) (by unfold Fit; omega) (by rw [flat_top]; show _ ≤ 2000; omega)).mono ?_
  rintro e w3 ⟨rfl, h3⟩
  rw [flat_alloc] at h3
  have h3 : Sat (KM W b (os ++ [Ob.fresh 9 (x / 2) x os.length]) os gs ap ac wp wc mp mc) w3 := Sat.back 3 (A := Arena (Am.flat 2000 os) b) (L := KM W b os os gs ap ac wp wc mp mc) rfl h3
  refine ⟨_, _, rfl, cond_f rfl ?_⟩
  have hsn := hsh.snoc hi40 hx1
  generalize ho : Ob.fresh 9 (x / 2) x os.length = o at h3 hsn
  have how : o.w = List.replicate x 0 := by rw [← ho]; rfl
  have hom : o.mark = false := by rw [← ho]; rfl
  refine RunS.one eok_i h3 0 rfl (by rfl) (by rfl) (by omega) (by simp only [maxLen]; omega) fun p1 c1 w4 h4 => ?_
  refine RunS.make eok_ws #[.int .u64 0] (by kernel_rfl) h4 (by omega) (by omega) (by omega) (by omega) fun g w5 h5 => ?_
  simp only [Int.toNat_natCast] at h5 ⊢
  refine RunS.one eok_wss h5 2 rfl (by rfl) (by rfl) (by omega) (by simp only [maxLen]; omega) fun p2' c2' w6 h6 => ?_
  refine RunS.one eok_b h6 3 rfl (by rfl) (by rfl) (by omega) (by simp only [maxLen]; omega) fun p3 c3 w7 h7 => ?_
  rw [wrapI64 (by omega) (by omega)]
  have hl1 : (os ++ [o]).length = os.length + 1 := by simp
  refine ⟨⟨os ++ [o], gs ++ [g], by omega, hl1.symm, hl1.symm, hl1.symm, by simp [hgs], hsn, ?_⟩, by first | omega | (dsimp only; omega)⟩
  have h8 := Sat.last (A := Row g (madeCells #[.int .u64 0] (x * 1)).toList 33) h7
  have g1 : intsL (poss (os ++ [o])) = intsL (poss os) ++ [.int .i64 (osz os : Nat)] := by rw [poss_snoc]; simp [intsL]
  have g2 : sls (gs ++ [g]) (os ++ [o]) = sls gs os ++ [.slice (some ⟨g, 0, none⟩) x x] := by
    unfold sls; rw [List.zipWith_append hgs]; simp [how]
  have g3 : marksV (os ++ [o]) = marksV os ++ [.bool false] := by simp [marksV, hom]
  have g4 : (madeCells #[.int .u64 0] (x * 1)).toList = words o.w := by
    rw [how]
    apply List.ext_getElem?
    intro k
    by_cases hk : k < x
    · rw [madeCells_get _ _ _ (by omega)]; simp [words, hk, Nat.mod_one]
    · rw [List.getElem?_eq_none (by simp [madeCells]; omega), List.getElem?_eq_none (by simp [words]; omega)]
  have g5 : kRows (gs ++ [g]) (os ++ [o]) = kRows gs os ++ [Row g (words o.w) 33] := by
    unfold kRows; rw [List.zipWith_append hgs]; rfl
  unfold KM
  rw [hl1, g1, g2, g3, g5, ← g4]
  exact h8

set_option maxRecDepth 100000 in
theorem keeps_lifted (os : Os) (started : os.Started) (H : Type) (enc : TypeId × Value → H) :
    ReturnsInHanded {} Try.checked os 3 .any (Rows.arenaKeepsSpec.pre6 enc Try.prog Try.f3 Rows.arenaKeepsRow.domain false) (Rows.arenaKeepsSpec.post enc Try.prog Try.f3 false true false false) := by
  refine returnsInHanded_of_change (C := Try.checked) own started (by kernel_rfl) Try.func3
    (ChangeSpec.witness6 (enc := enc) (C := Try.checked) false ⟨#[], #[.slice none 0 0, .slice none 0 0], []⟩ 8 (by kernel_rfl) (by kernel_rfl) (by kernel_rfl) (by kernel_rfl)) ?_
  intro W base args ds gs before hval hW hcnd _
  have hval : ∀ (j : Nat) t v, Try.f3.params[j]? = some t → args[j]? = some v → Value.okWide Try.prog W .any base t v := hval
  have hW' : DataW.Whole enc Try.prog Try.f3.params.toList Rows.arenaKeepsSpec.vars false W args.toList ds gs before := hW
  obtain ⟨p, q, hA, hV, _⟩ := hW'
  rw [Try.params3] at hA hval
  obtain ⟨v0, v1, d0, d1, p0, p1, rfl, rfl, rfl, h0, h1⟩ := trodAll_two hA
  obtain ⟨a0, l0, c0, rfl⟩ := okWide_slice Try.underlying22 (hval 0 22 v0 rfl rfl)
  obtain ⟨zs0, hz0⟩ := argInts Try.underlying22 Try.underlying3 (by kernel_rfl) h0
  obtain ⟨a1, l1, c1, rfl⟩ := okWide_slice Try.underlying23 (hval 1 23 v1 rfl rfl)
  obtain ⟨⟨xs1, hx1⟩, _⟩ := argRows (ks := dks) Try.underlying23 Try.underlying35 (by kernel_rfl) (by kernel_rfl) (by kernel_rfl) h1
  refine (keeps_c W hz0 hx1).mono fun e W' ⟨he, hs⟩ => ?_
  exact ⟨_, he, law_post (tb := 4) laidOut (by decide +kernel) (by kernel_rfl) Try.underlying4 rfl hW ⟨rfl, rfl, rfl⟩ hs⟩

theorem keeps_holds : Rows.ArenaKeepsSaid :=
  OpenClaim.holds_of_wide 3 Try.f3 rfl rfl rfl rfl rfl rfl rfl ⟨rfl, rfl, rfl, rfl, rfl⟩ rfl rfl rfl rfl rfl (by kernel_rfl) Try.func3 (by kernel_rfl)
    (of_decide_eq_true (by kernel_rfl)) (by unfold Func.isWrapper; first | (rw [if_pos (by decide +kernel)]; kernel_rfl) | (rw [if_neg (by decide +kernel)]; exact ⟨rfl, rfl⟩))
    (fun os started H enc _ => keeps_lifted os started H enc)
end Go.Proofs.Ytmcifhineibhpaa
