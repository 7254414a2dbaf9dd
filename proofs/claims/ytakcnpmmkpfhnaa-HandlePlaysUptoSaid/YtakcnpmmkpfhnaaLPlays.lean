/- 'HandlePlays' answers true for every list of deeds of bulk at most 1048576: each answer of a table is the model's. The bound is needed: a slot's generation is a number of 32 bits, the model's one of 64. -/
import Derived.Test.YtakcnpmmkpfhnaaTr
namespace Go.Proofs.Ytakcnpmmkpfhnaa
open Go Go.Lw Go.Tb Go.ChangeShapes Go.WideShapes Go.ChangeAt Go.RowKit

theorem hnd_lt64 {g i : Nat} (hg : g < 4294967296) (hi : i + 1 < 4294967296) : hnd g i < 18446744073709551616 := by unfold hnd; omega

theorem live_count {m : Tab} (hm : m.WF) : m.live.length = m.count := by
  have h1 : ∀ k, (m.liveTo k).length + ((List.range k).filter fun i => !m.takenAt i).length = k := by
    intro k
    induction k with
    | zero => rfl
    | succ k ih =>
      rw [liveTo_succ, List.range_succ, List.filter_append, List.length_append, List.length_append]
      cases h : m.takenAt k <;> simp [h] <;> omega
  have hp : ((List.range m.L.length).filter fun i => !m.takenAt i).Perm m.fr := by
    refine (List.perm_ext_iff_of_nodup (List.nodup_range.filter _) hm.nodup).2 fun i => ?_
    rw [List.mem_filter, List.mem_range, hm.mem]
    constructor
    · rintro ⟨hl, ht⟩
      exact ⟨m.L[i], List.getElem?_eq_getElem hl, by simpa [Tab.takenAt, List.getElem?_eq_getElem hl] using ht⟩
    · rintro ⟨s, hs, ht⟩
      exact ⟨get_lt hs, by simp [Tab.takenAt, hs, ht]⟩
  have h2 := h1 m.L.length
  rw [hp.length_eq] at h2
  have e1 : m.live = m.liveTo m.L.length := liveTo_ge hm.len
  rw [e1]
  unfold Tab.count
  omega

section
variable {m : Tab} {b : Nat} {F : List HP} {w : World}
theorem make_all (hs : Sat (Tbl m b :: F) w) {a : Int} (ha : a < 9223372036854775808) :
    Calls Try.prog 10 #[.pointer (some ⟨b, 0, none⟩), .int .i64 a] w fun e w' => e = .returned (.tuple #[.int .u64 ((makeT m a).2.1 : Nat), .int .i64 (makeT m a).2.2]) ∧ Sat (Tbl (makeT m a).1 b :: F) w' := by
  unfold makeT
  by_cases h : a < 0
  · simp only [if_pos h]
    refine (make_neg hs h).mono ?_
    rintro e w' ⟨rfl, rfl⟩
    exact ⟨rfl, hs⟩
  · simp only [if_neg h]
    obtain ⟨x, rfl⟩ := Int.eq_ofNat_of_zero_le (Int.not_lt.1 h)
    by_cases hf : m.fr = [] ∧ m.L.length = m.n
    · simp only [if_pos hf]
      exact make_full hs (by omega) hf
    · simp only [if_neg hf]
      exact make_ok hs (by omega) hf
theorem move_all (hs : Sat (Tbl m b :: F) w) {h : Nat} (hh : h < 18446744073709551616) {a : Int} (ha : a < 9223372036854775808) :
    Calls Try.prog 15 #[.pointer (some ⟨b, 0, none⟩), .int .u64 (h : Int), .int .i64 a] w fun e w' => e = .returned (.int .i64 (moveT m h a).2) ∧ Sat (Tbl (moveT m h a).1 b :: F) w' := by
  unfold moveT
  refine (move_c hs hh a ha).mono ?_
  rintro e w' (⟨hf, rfl, rfl⟩ | ⟨i, hf, hn, rfl, rfl⟩ | ⟨i, hf, hn, rfl, h1⟩)
  · rw [hf]; exact ⟨rfl, hs⟩
  · rw [hf]; simp only [if_pos hn]; exact ⟨trivial, hs⟩
  · rw [hf]; simp only [if_neg (Int.not_lt.2 hn)]; exact ⟨trivial, h1⟩
theorem free_all (hs : Sat (Tbl m b :: F) w) {h : Nat} (hh : h < 18446744073709551616) (hg : ∀ i, m.genAt i + 1 < 4294967296) :
    Calls Try.prog 11 #[.pointer (some ⟨b, 0, none⟩), .int .u64 (h : Int)] w fun e w' => e = .returned (.int .i64 (freeT m h).2) ∧ Sat (Tbl (freeT m h).1 b :: F) w' := by
  unfold freeT
  cases hf : m.find h with
  | none =>
    refine (free_no hs hh hf).mono ?_
    rintro e w' ⟨rfl, rfl⟩
    exact ⟨rfl, hs⟩
  | some i =>
    refine (free_c hs hh hf (hg i)).mono ?_
    rintro e w' ⟨rfl, h1⟩
    exact ⟨rfl, h1⟩
theorem makeT_n (a : Int) : (makeT m a).1.n = m.n := by
  unfold makeT Tab.make
  split
  · rfl
  · split
    · rfl
    · dsimp only; split <;> rfl
theorem moveT_n (h : Nat) (a : Int) : (moveT m h a).1.n = m.n := by
  unfold moveT
  split
  · rfl
  · split <;> rfl
theorem freeT_n (h : Nat) : (freeT m h).1.n = m.n := by
  unfold freeT
  split <;> rfl
theorem makeT_gen (hm : m.WF) (a : Int) (i : Nat) : (makeT m a).1.genAt i = m.genAt i := by
  unfold makeT
  split
  · rfl
  · split
    · rfl
    · exact genAt_make hm _ _
theorem moveT_gen (h : Nat) (a : Int) (i : Nat) : (moveT m h a).1.genAt i = m.genAt i := by
  unfold moveT
  split
  · rfl
  · rename_i j hf
    split
    · rfl
    · obtain ⟨s, hx, _⟩ := find_some hf
      have hl := get_lt hx
      by_cases hij : j = i
      · subst hij
        exact genAt_of (m := m.move j a.toNat) (i := j) (s := ⟨m.genAt j, a.toNat, true⟩) (List.getElem?_set_self hl)
      · exact genAt_congr (List.getElem?_set_ne hij)
theorem freeT_gen (h : Nat) (i : Nat) : (freeT m h).1.genAt i ≤ m.genAt i + 1 := by
  unfold freeT
  split
  · dsimp only; omega
  · rename_i j hf
    obtain ⟨s, hx, _⟩ := find_some hf
    dsimp only
    rw [genAt_free (get_lt hx)]
    split
    · rename_i e; subst e; omega
    · omega
theorem makeT_lt (hm : m.WF) (a : Int) : (makeT m a).2.1 < 18446744073709551616 := by
  unfold makeT
  split
  · dsimp only; omega
  · split
    · dsimp only; omega
    · rename_i hf
      have h1 := hm.next_lt hf
      have h2 := hm.most
      exact hnd_lt64 (hm.genAt_lt _) (by omega)
end

abbrev PL (W : World) (b bm : Nat) (m : Tab) (rl : List Slot) (p1 : Option Addr) (c1 : Nat) (p2 : Option Addr) (c2 : Nat) (told : List Nat) (tp : Option Addr) (tc : Nat) : List HP :=
  [R1 rl p1 c1, R2 m.fr p2 c2, Row bm (brow (m.n : Nat) rl m.fr p1 c1 p2 c2) 49, Own 25 1 tp told.length tc (words told), Tbl m b, Base W]

theorem plays_c (W : World) (n : Int) {p : Option Addr} {l c : Nat} {xs : List Value} (hz : ArgR W [.i64, .i64, .i64, .u64] p l xs) (hl : l ≤ 1048576) :
    Calls Try.prog 7 #[.int .i64 n, .slice p l c] W (Ret (.bool true) (Go.RowKit.Below W.heap.size W)) := by
  refine S_law8_HandlePlays_ok _ _ _ _ _ _ ?_
  unfold S_law8_HandlePlays
  by_cases hn : n < 1 ∨ 1048576 < n
  · refine (new_no hn W).mono ?_
    rintro e w0 ⟨rfl, rfl⟩
    refine ⟨_, _, rfl, ?_⟩
    refine (awake_c (Sat.ofBase W)).mono ?_
    rintro e w1 ⟨rfl, h1⟩
    refine ⟨_, rfl, cond_f rfl ?_⟩
    by_cases hn1 : n < 1
    · exact cond_t (by simpa using hn1) (cond_t rfl ⟨rfl, h1.below 0 rfl⟩)
    · exact cond_f (by simpa using hn1) (cond_t (by simp; omega) (cond_t rfl ⟨rfl, h1.below 0 rfl⟩))
  obtain ⟨k, rfl⟩ := Int.eq_ofNat_of_zero_le (by omega : 0 ≤ n)
  refine (new_c (n := k) (by omega) (by omega) (Sat.ofBase W)).mono ?_
  rintro e w0 ⟨b, rfl, h0⟩
  refine ⟨_, _, rfl, ?_⟩
  refine (awake_c h0).mono ?_
  rintro e w1 ⟨rfl, h1⟩
  refine ⟨_, rfl, cond_f rfl (cond_f (by simp; omega) (cond_f (by simp; omega) (cond_f rfl (cond_f rfl ?_))))⟩
  refine NewC.ofRow h1 fun bm w2 h2 => ?_
  simp only [add_mk, Nat.zero_add]
  refine StC.of h2 0 rfl (off := 0) rfl rfl fun _ h30 => ?_
  refine StC.of h30 0 rfl (off := 1) rfl rfl fun _ h31 => ?_
  refine StC.of h31 0 rfl (off := 2) rfl rfl fun _ h32 => ?_
  refine ⟨fun tp tl tc i w => ∃ (m : Tab) (rl : List Slot) (p1 : Option Addr) (c1 : Nat) (p2 : Option Addr) (c2 : Nat) (told : List Nat) (j : Nat), i = j ∧ j ≤ l ∧ tl = told.length ∧ told.length ≤ j ∧ m.n = k ∧ (∀ i, m.genAt i ≤ 1 + j) ∧ (∀ x ∈ told, x < 18446744073709551616) ∧ RSame rl m ∧ Sat (PL W b bm m rl p1 c1 p2 c2 told tp tc) w,
    fun _ _ _ i _ => (l - i).toNat, ⟨Tab.new k, [], none, 0, none, 0, [], 0, rfl, by omega, rfl, by simp, rfl, fun i => by simp [Tab.genAt, Tab.new], by simp, ⟨rfl, fun i s h => by simp [Tab.new] at h⟩, ?_⟩, ?_⟩
  · have h4 : Sat (Row bm (brow (k : Nat) [] [] none 0 none 0) 49 :: Tbl (Tab.new k) b :: Base W :: []) _ := h32
    have h5 := ((((h4.ownNil 25 1).pull 1 rfl).ownNil 3 1).ownNil 71 3)
    exact h5
  rintro tp tl tc i w6 ⟨m, rl, p1, c1, p2, c2, told, j, rfl, hjl, rfl, htl, hmn, hgen, htold, hr, h6⟩
  unfold S_law8_HandlePlays_l0
  by_cases hlt : j < l
  case neg => exact cond_f (by simp; omega) ⟨rfl, h6.below 5 rfl⟩
  refine cond_t (by simp; omega) ?_
  have hm : m.WF := (tbl_open (h6.pull 4 rfl)).1
  -- what is asked behind each deed
  have after : ∀ (m : Tab) (rl : List Slot) p1 c1 p2 c2 (told' : List Nat) tp' tc' w, told'.length ≤ j + 1 → m.n = k → (∀ i, m.genAt i ≤ 1 + (j + 1)) → (∀ x ∈ told', x < 18446744073709551616) → RSame rl m → Sat (PL W b bm m rl p1 c1 p2 c2 told' tp' tc') w →
      S_law8_HandlePlays_j0 (k : Int) (Ret (.bool true) (Go.RowKit.Below W.heap.size W)) (some ⟨b, 0, none⟩) bm tp told.length tc (j : Int) w6
        (fun tp tl tc i w => ∃ (m : Tab) (rl : List Slot) (p1 : Option Addr) (c1 : Nat) (p2 : Option Addr) (c2 : Nat) (told : List Nat) (j : Nat), i = j ∧ j ≤ l ∧ tl = told.length ∧ told.length ≤ j ∧ m.n = k ∧ (∀ i, m.genAt i ≤ 1 + j) ∧ (∀ x ∈ told, x < 18446744073709551616) ∧ RSame rl m ∧ Sat (PL W b bm m rl p1 c1 p2 c2 told tp tc) w)
        (fun _ _ _ i _ => (l - i).toNat) tp' told'.length tc' w := by
    clear h6 hr hgen hmn htl htold
    intro m rl p1 c1 p2 c2 told' tp' tc' w htl hmn hgen htold hr h
    have hm : m.WF := (tbl_open (h.pull 4 rfl)).1
    have hlc := live_count hm
    have hlen := hm.len; have hmo := hm.most
    have hll := liveTo_len m m.n
    unfold S_law8_HandlePlays_j0
    simp only [add_mk, Nat.zero_add]
    refine LdI.of h 2 rfl (off := 0) rfl rfl ?_
    refine LdS.of h 2 rfl (off := 1) rfl rfl ?_
    refine LdS.of h 2 rfl (off := 2) rfl rfl ?_
    refine (live_r h 0 rfl hr hm).mono ?_
    rintro e w1 ⟨q1, l1, d1, rfl, hl1, h1⟩
    refine ⟨_, _, _, rfl, ?_⟩
    refine (slots_c (h1.pull 5 rfl)).mono ?_
    rintro e w' ⟨rfl, rfl⟩
    refine ⟨_, rfl, cond_f (by rw [hmn]; simp) ?_⟩
    refine (count_c (h1.pull 5 rfl)).mono ?_
    rintro e w' ⟨rfl, rfl⟩
    refine ⟨_, rfl, cond_f (by rw [hl1, hlc]; simp) ?_⟩
    refine (live_c (h1.pull 5 rfl)).mono ?_
    rintro e w2 ⟨q2, l2, d2, rfl, hl2, h2⟩
    refine ⟨_, _, _, rfl, ?_⟩
    subst hl1
    subst hl2
    have key := list_c (xs := m.live) (ys := m.live) (ap := q2) (bp := q1) (ac := d2) (bc := d1) h2 (fun w h => h.reads 0 rfl) (fun w h => h.reads 2 rfl)
      (fun h => by obtain ⟨g, hg⟩ := h2.own_some 0 rfl h; exact ⟨_, hg⟩) (fun h => by obtain ⟨g, hg⟩ := h2.own_some 2 rfl h; exact ⟨_, hg⟩) (by rw [live_eq]; simp only [maxLen]; omega)
    refine key.mono ?_
    rintro e w3 ⟨rfl, h3⟩
    refine ⟨_, rfl, cond_f (by simp) ?_⟩
    have h4 : Sat (Tbl m b :: R1 rl p1 c1 :: R2 m.fr p2 c2 :: Row bm (brow (m.n : Nat) rl m.fr p1 c1 p2 c2) 49 :: Own 25 1 tp' told'.length tc' (words told') :: Base W :: []) w3 := (h3.drop.pull 1 rfl).drop
    have h5 : Sat (R1 rl p1 c1 :: R2 m.fr p2 c2 :: Row bm (brow (m.n : Nat) rl m.fr p1 c1 p2 c2) 49 :: Own 25 1 tp' told'.length tc' (words told') :: Tbl m b :: Base W :: []) w3 := ((((h4.pull 4 rfl).pull 4 rfl).pull 4 rfl).pull 4 rfl)
    rw [wrapI64 (by omega) (by omega)]
    exact ⟨⟨m, rl, p1, c1, p2, c2, told', j + 1, by omega, by omega, rfl, htl, hmn, hgen, htold, hr, h5⟩, by omega⟩
  -- the deed is read
  obtain ⟨n0, n1, n2, n3, e0, e1, e2, e3, wf0, wf1, wf2, wf3⟩ := deed_at hz hlt
  have b2 : n2 < 9223372036854775808 := by
    have : -9223372036854775808 ≤ n2 ∧ n2 ≤ 9223372036854775807 := by simpa [Lit.wf, IntKind.min, IntKind.max, IntKind.signed, IntKind.bits] using wf2
    omega
  have b3 : 0 ≤ n3 ∧ n3 ≤ 18446744073709551615 := by simpa [Lit.wf, IntKind.min, IntKind.max, IntKind.signed, IntKind.bits] using wf3
  refine IdxC.reads (h6.baseReads 5 rfl hz.reads) (hz.some (by omega)) (by omega) (by omega) fun a hca => ?_
  rw [Int.toNat_natCast] at hca
  refine LdI.at (n := n0) (by simpa [Addr.add] using hca 0 _ e0) ?_
  refine LdI.at (hca 1 _ e1) ?_
  refine LdI.at (hca 2 _ e2) ?_
  refine LdI.at (hca 3 _ e3) ?_
  refine NewC.ofRow h6 fun bd w7 h7 => ?_
  simp only [add_mk, Nat.zero_add]
  refine StC.of h7 0 rfl (off := 0) rfl (by simp) fun w8 h8 => ?_
  refine StC.of h8 0 rfl (off := 1) rfl (by simp) fun w9 h9 => ?_
  refine StC.of h9 0 rfl (off := 2) rfl (by simp) fun w10 h10 => ?_
  refine StC.of h10 0 rfl (off := 3) rfl (by simp) fun w11 h11 => ?_
  have h12 : Sat (Row bd [.int .i64 n0, .int .i64 n1, .int .i64 n2, .int .u64 n3] 40 :: PL W b bm m rl p1 c1 p2 c2 told tp tc) w11 := h11
  clear h7 h8 h9 h10 h11 h6
  refine LdI.of h12 0 rfl (off := 3) rfl rfl ?_
  intro k0 hk0
  -- what is done with a handle
  have pick : ∀ h : Nat, h < 18446744073709551616 → k0 (h : Int) w11 := by
    intro h hh
    refine hk0 _ _ ?_
    unfold S_law8_HandlePlays_j1
    intro k1 hk1
    simp only [add_mk, Nat.zero_add]
    have go : ∀ (m : Tab) (rl : List Slot) p1 c1 p2 c2 (told' : List Nat) tp' tc' w, told'.length ≤ j + 1 → m.n = k → (∀ i, m.genAt i ≤ 1 + (j + 1)) → (∀ x ∈ told', x < 18446744073709551616) → RSame rl m → Sat (PL W b bm m rl p1 c1 p2 c2 told' tp' tc') w → k1 tp' told'.length tc' w :=
      fun m rl p1 c1 p2 c2 told' tp' tc' w x1 x2 x3 x4 x5 x6 => hk1 _ _ _ _ (after m rl p1 c1 p2 c2 told' tp' tc' w x1 x2 x3 x4 x5 x6)
    clear hk1 hk0 after
    refine LdI.of h12 0 rfl (off := 0) rfl rfl ?_
    by_cases hd2 : n0 ≤ 2
    · refine cond_t (by simpa using hd2) ?_
      refine LdI.of h12 0 rfl (off := 2) rfl rfl ?_
      refine (make_all (h12.pull 5 rfl) b2).mono ?_
      rintro e w13 ⟨rfl, h13⟩
      have h14 : Sat (Row bd [.int .i64 n0, .int .i64 n1, .int .i64 n2, .int .u64 n3] 40 :: R1 rl p1 c1 :: R2 m.fr p2 c2 :: Row bm (brow (m.n : Nat) rl m.fr p1 c1 p2 c2) 49 :: Own 25 1 tp told.length tc (words told) :: Tbl (makeT m n2).1 b :: Base W :: []) w13 := Sat.back 5 (A := Tbl m b) rfl h13
      refine ⟨_, _, rfl, ?_⟩
      refine LdI.of h14 3 rfl (off := 0) rfl rfl ?_
      refine LdS.of h14 3 rfl (off := 1) rfl rfl ?_
      refine LdS.of h14 3 rfl (off := 2) rfl rfl ?_
      refine LdI.of h14 0 rfl (off := 2) rfl rfl ?_
      have h15 : Sat (R1 rl p1 c1 :: R2 m.fr p2 c2 :: Row bd [.int .i64 n0, .int .i64 n1, .int .i64 n2, .int .u64 n3] 40 :: Row bm (brow (m.n : Nat) rl m.fr p1 c1 p2 c2) 49 :: Own 25 1 tp told.length tc (words told) :: Tbl (makeT m n2).1 b :: Base W :: []) w13 := (h14.pull 2 rfl).pull 2 rfl
      refine (make_r h15 hr hm n2).mono ?_
      rintro e w14 ⟨rl', q1, d1, q2, d2, rfl, hr', h16⟩
      refine ⟨_, _, _, _, _, _, _, _, _, rfl, ?_⟩
      refine NewC.ofRow h16 fun bx wx hx0 => ?_
      refine StC.of hx0 0 rfl (off := 0) rfl rfl fun _ hx0 => ?_
      refine StC.of hx0 0 rfl (off := 1) rfl rfl fun _ hx1 => ?_
      refine StC.of hx1 0 rfl (off := 2) rfl rfl fun _ hx2 => ?_
      refine LdI.of hx2 0 rfl (off := 0) rfl rfl ?_
      refine LdS.of hx2 0 rfl (off := 1) rfl rfl ?_
      refine LdS.of hx2 0 rfl (off := 2) rfl rfl ?_
      refine StC.of hx2 4 rfl (off := 0) rfl rfl fun _ hy0 => ?_
      refine StC.of hy0 4 rfl (off := 1) rfl rfl fun _ hy1 => ?_
      refine StC.of hy1 4 rfl (off := 2) rfl rfl fun wz hy2 => ?_
      have h17 : Sat (PL W b bm (makeT m n2).1 rl' q1 d1 q2 d2 told tp tc) wz := by
        have h18 := hy2.drop
        have h19 := (h18.pull 2 rfl).drop
        unfold PL
        rw [makeT_n]
        exact h19
      have hgn : ∀ i, (makeT m n2).1.genAt i ≤ 1 + (j + 1) := fun i => by rw [makeT_gen hm]; have := hgen i; omega
      refine cond_f (by simp) (cond_f (by simp) ?_)
      by_cases hz0 : (makeT m n2).2.2 = 0
      · refine cond_t (by simpa using hz0) ?_
        refine RunS.one eok_u64 h17 3 rfl (by rfl) (by rfl) (by omega) (by simp only [maxLen]; omega) fun p' c' w' h18 => ?_
        have et : words told ++ [Value.int .u64 ((makeT m n2).2.1 : Int)] = words (told ++ [(makeT m n2).2.1]) := (words_snoc _ _).symm
        have el : told.length + 1 = (told ++ [(makeT m n2).2.1]).length := by simp
        have h19 : Sat (PL W b bm (makeT m n2).1 rl' q1 d1 q2 d2 (told ++ [(makeT m n2).2.1]) p' c') w' := by
          unfold PL
          rw [← et, ← el]
          exact h18
        rw [el]
        refine go _ _ _ _ _ _ _ _ _ _ (by simp; omega) ((makeT_n _).trans hmn) hgn (fun x hx => ?_) hr' h19
        rcases List.mem_append.1 hx with hx | hx
        · exact htold x hx
        · simp only [List.mem_singleton] at hx
          rw [hx]
          exact makeT_lt hm _
      · refine cond_f (by simpa using hz0) ?_
        exact go _ _ _ _ _ _ _ _ _ _ (by omega) ((makeT_n _).trans hmn) hgn htold hr' h17
    refine cond_f (by simpa using hd2) ?_
    refine LdI.of h12 0 rfl (off := 0) rfl rfl ?_
    have hgn0 : ∀ i, m.genAt i ≤ 1 + (j + 1) := fun i => by have := hgen i; omega
    by_cases hd3 : n0 = 3
    · refine cond_t (by simpa using hd3) ?_
      refine (at_c (h12.pull 5 rfl) hh).mono ?_
      rintro e w13 ⟨rfl, rfl⟩
      cases hf : m.find h with
      | none =>
        refine ⟨_, _, rfl, ?_⟩
        refine LdI.of h12 3 rfl (off := 0) rfl rfl ?_
        refine LdS.of h12 3 rfl (off := 1) rfl rfl ?_
        refine LdS.of h12 3 rfl (off := 2) rfl rfl ?_
        refine (at_r h12 1 rfl hr hm hh).mono ?_
        rintro e w14 ⟨rfl, h14⟩
        rw [hf]
        refine ⟨_, _, rfl, ?_⟩
        refine (slot_c (h14.pull 5 rfl) hh).mono ?_
        rintro e w15 ⟨rfl, rfl⟩
        rw [hf]
        refine ⟨_, _, rfl, cond_f rfl (cond_f rfl (cond_f rfl (cond_f rfl (cond_t rfl (cond_f rfl ?_)))))⟩
        exact go _ _ _ _ _ _ _ _ _ _ (by omega) hmn hgn0 htold hr h14.drop
      | some i =>
        refine ⟨_, _, rfl, ?_⟩
        refine LdI.of h12 3 rfl (off := 0) rfl rfl ?_
        refine LdS.of h12 3 rfl (off := 1) rfl rfl ?_
        refine LdS.of h12 3 rfl (off := 2) rfl rfl ?_
        refine (at_r h12 1 rfl hr hm hh).mono ?_
        rintro e w14 ⟨rfl, h14⟩
        rw [hf]
        refine ⟨_, _, rfl, ?_⟩
        refine (slot_c (h14.pull 5 rfl) hh).mono ?_
        rintro e w15 ⟨rfl, rfl⟩
        rw [hf]
        obtain ⟨s, hx, _, _, hlo⟩ := find_some hf
        have hil := get_lt hx
        have hlen := hm.len; have hmo := hm.most
        have ew : IntKind.wrap .i64 (IntKind.wrap .i64 (bAnd .u64 (h : Int) 4294967295) - 1) = (i : Int) := by
          rw [low_word hh, hlo, wrapI64 (n := ((i + 1 : Nat) : Int)) (by omega) (by omega), wrapI64 (by omega) (by omega)]
          omega
        refine ⟨_, _, rfl, cond_f rfl (cond_f (by simp) (cond_f rfl (cond_t rfl (cond_f (by rw [ew]; simp) (cond_f rfl ?_)))))⟩
        exact go _ _ _ _ _ _ _ _ _ _ (by omega) hmn hgn0 htold hr h14.drop
    refine cond_f (by simpa using hd3) ?_
    refine LdI.of h12 0 rfl (off := 0) rfl rfl ?_
    by_cases hd4 : n0 = 4
    · refine cond_t (by simpa using hd4) ?_
      refine LdI.of h12 0 rfl (off := 2) rfl rfl ?_
      refine (move_all (h12.pull 5 rfl) hh b2).mono ?_
      rintro e w13 ⟨rfl, h13⟩
      have h14 : Sat (Row bd [.int .i64 n0, .int .i64 n1, .int .i64 n2, .int .u64 n3] 40 :: R1 rl p1 c1 :: R2 m.fr p2 c2 :: Row bm (brow (m.n : Nat) rl m.fr p1 c1 p2 c2) 49 :: Own 25 1 tp told.length tc (words told) :: Tbl (moveT m h n2).1 b :: Base W :: []) w13 := Sat.back 5 (A := Tbl m b) rfl h13
      refine ⟨_, rfl, ?_⟩
      refine LdI.of h14 3 rfl (off := 0) rfl rfl ?_
      refine LdS.of h14 3 rfl (off := 1) rfl rfl ?_
      refine LdS.of h14 3 rfl (off := 2) rfl rfl ?_
      refine LdI.of h14 0 rfl (off := 2) rfl rfl ?_
      have h15 : Sat (R1 rl p1 c1 :: R2 m.fr p2 c2 :: Row bd [.int .i64 n0, .int .i64 n1, .int .i64 n2, .int .u64 n3] 40 :: Row bm (brow (m.n : Nat) rl m.fr p1 c1 p2 c2) 49 :: Own 25 1 tp told.length tc (words told) :: Tbl (moveT m h n2).1 b :: Base W :: []) w13 := (h14.pull 2 rfl).pull 2 rfl
      refine (move_r h15 hr hm hh n2).mono ?_
      rintro e w14 ⟨rl', q1, d1, q2, d2, rfl, hr', h16⟩
      refine ⟨_, _, _, _, _, _, _, _, rfl, ?_⟩
      refine NewC.ofRow h16 fun bx wx hx0 => ?_
      refine StC.of hx0 0 rfl (off := 0) rfl rfl fun _ hx0 => ?_
      refine StC.of hx0 0 rfl (off := 1) rfl rfl fun _ hx1 => ?_
      refine StC.of hx1 0 rfl (off := 2) rfl rfl fun _ hx2 => ?_
      refine LdI.of hx2 0 rfl (off := 0) rfl rfl ?_
      refine LdS.of hx2 0 rfl (off := 1) rfl rfl ?_
      refine LdS.of hx2 0 rfl (off := 2) rfl rfl ?_
      refine StC.of hx2 4 rfl (off := 0) rfl rfl fun _ hy0 => ?_
      refine StC.of hy0 4 rfl (off := 1) rfl rfl fun _ hy1 => ?_
      refine StC.of hy1 4 rfl (off := 2) rfl rfl fun wz hy2 => ?_
      have h17 : Sat (PL W b bm (moveT m h n2).1 rl' q1 d1 q2 d2 told tp tc) wz := by
        have h18 := hy2.drop
        have h19 := (h18.pull 2 rfl).drop
        unfold PL
        rw [moveT_n]
        exact h19
      refine cond_f (by simp) ?_
      exact go _ _ _ _ _ _ _ _ _ _ (by omega) ((moveT_n _ _).trans hmn) (fun i => by rw [moveT_gen]; exact hgn0 i) htold hr' h17
    refine cond_f (by simpa using hd4) ?_
    refine LdI.of h12 0 rfl (off := 0) rfl rfl ?_
    by_cases hd6 : n0 ≤ 6
    · refine cond_t (by simpa using hd6) ?_
      refine (free_all (h12.pull 5 rfl) hh (fun i => by have := hgen i; omega)).mono ?_
      rintro e w13 ⟨rfl, h13⟩
      have h14 : Sat (Row bd [.int .i64 n0, .int .i64 n1, .int .i64 n2, .int .u64 n3] 40 :: R1 rl p1 c1 :: R2 m.fr p2 c2 :: Row bm (brow (m.n : Nat) rl m.fr p1 c1 p2 c2) 49 :: Own 25 1 tp told.length tc (words told) :: Tbl (freeT m h).1 b :: Base W :: []) w13 := Sat.back 5 (A := Tbl m b) rfl h13
      refine ⟨_, rfl, ?_⟩
      refine LdI.of h14 3 rfl (off := 0) rfl rfl ?_
      refine LdS.of h14 3 rfl (off := 1) rfl rfl ?_
      refine LdS.of h14 3 rfl (off := 2) rfl rfl ?_
      have h15 : Sat (R1 rl p1 c1 :: R2 m.fr p2 c2 :: Row bd [.int .i64 n0, .int .i64 n1, .int .i64 n2, .int .u64 n3] 40 :: Row bm (brow (m.n : Nat) rl m.fr p1 c1 p2 c2) 49 :: Own 25 1 tp told.length tc (words told) :: Tbl (freeT m h).1 b :: Base W :: []) w13 := (h14.pull 2 rfl).pull 2 rfl
      refine (free_r h15 hr hm hh).mono ?_
      rintro e w14 ⟨rl', q1, d1, q2, d2, rfl, hr', h16⟩
      refine ⟨_, _, _, _, _, _, _, _, rfl, ?_⟩
      refine NewC.ofRow h16 fun bx wx hx0 => ?_
      refine StC.of hx0 0 rfl (off := 0) rfl rfl fun _ hx0 => ?_
      refine StC.of hx0 0 rfl (off := 1) rfl rfl fun _ hx1 => ?_
      refine StC.of hx1 0 rfl (off := 2) rfl rfl fun _ hx2 => ?_
      refine LdI.of hx2 0 rfl (off := 0) rfl rfl ?_
      refine LdS.of hx2 0 rfl (off := 1) rfl rfl ?_
      refine LdS.of hx2 0 rfl (off := 2) rfl rfl ?_
      refine StC.of hx2 4 rfl (off := 0) rfl rfl fun _ hy0 => ?_
      refine StC.of hy0 4 rfl (off := 1) rfl rfl fun _ hy1 => ?_
      refine StC.of hy1 4 rfl (off := 2) rfl rfl fun wz hy2 => ?_
      have h17 : Sat (PL W b bm (freeT m h).1 rl' q1 d1 q2 d2 told tp tc) wz := by
        have h18 := hy2.drop
        have h19 := (h18.pull 2 rfl).drop
        unfold PL
        rw [freeT_n]
        exact h19
      refine cond_f (by simp) ?_
      exact go _ _ _ _ _ _ _ _ _ _ (by omega) ((freeT_n _).trans hmn) (fun i => by have h1 := freeT_gen (m := m) h i; have h2 := hgen i; omega) htold hr' h17
    refine cond_f (by simpa using hd6) ?_
    refine LdI.of h12 0 rfl (off := 2) rfl rfl ?_
    refine (of_c (h12.pull 5 rfl) n2).mono ?_
    rintro e w13 ⟨rfl, rfl⟩
    have key := of_r (l2 := m.fr.length) (p2 := p2) (c2 := c2) h12 1 rfl hr hm n2
    by_cases hc1 : n2 < 0 ∨ (m.n : Int) ≤ n2
    · rw [if_pos hc1] at key ⊢
      refine ⟨_, _, rfl, ?_⟩
      refine LdI.of h12 3 rfl (off := 0) rfl rfl ?_
      refine LdS.of h12 3 rfl (off := 1) rfl rfl ?_
      refine LdS.of h12 3 rfl (off := 2) rfl rfl ?_
      refine LdI.of h12 0 rfl (off := 2) rfl rfl ?_
      refine key.mono ?_
      rintro e w14 ⟨rfl, h14⟩
      refine ⟨_, _, rfl, cond_f rfl (cond_f rfl ?_)⟩
      exact go _ _ _ _ _ _ _ _ _ _ (by omega) hmn hgn0 htold hr h14.drop
    · rw [if_neg hc1] at key ⊢
      by_cases hc2 : m.takenAt n2.toNat = true
      · rw [if_pos hc2] at key ⊢
        refine ⟨_, _, rfl, ?_⟩
        refine LdI.of h12 3 rfl (off := 0) rfl rfl ?_
        refine LdS.of h12 3 rfl (off := 1) rfl rfl ?_
        refine LdS.of h12 3 rfl (off := 2) rfl rfl ?_
        refine LdI.of h12 0 rfl (off := 2) rfl rfl ?_
        refine key.mono ?_
        rintro e w14 ⟨rfl, h14⟩
        refine ⟨_, _, rfl, cond_f rfl (cond_f (by simp) ?_)⟩
        exact go _ _ _ _ _ _ _ _ _ _ (by omega) hmn hgn0 htold hr h14.drop
      · rw [if_neg hc2] at key ⊢
        refine ⟨_, _, rfl, ?_⟩
        refine LdI.of h12 3 rfl (off := 0) rfl rfl ?_
        refine LdS.of h12 3 rfl (off := 1) rfl rfl ?_
        refine LdS.of h12 3 rfl (off := 2) rfl rfl ?_
        refine LdI.of h12 0 rfl (off := 2) rfl rfl ?_
        refine key.mono ?_
        rintro e w14 ⟨rfl, h14⟩
        refine ⟨_, _, rfl, cond_f rfl (cond_f rfl ?_)⟩
        exact go _ _ _ _ _ _ _ _ _ _ (by omega) hmn hgn0 htold hr h14.drop
  have own3 : k0 n3 w11 := by
    obtain ⟨y, rfl⟩ := Int.eq_ofNat_of_zero_le b3.1
    exact pick y (by omega)
  refine LdI.of h12 0 rfl (off := 1) rfl rfl ?_
  by_cases hw0 : 0 ≤ n1
  · refine cond_t (by simpa using hw0) ?_
    refine LdI.of h12 0 rfl (off := 1) rfl rfl ?_
    obtain ⟨q, rfl⟩ := Int.eq_ofNat_of_zero_le hw0
    by_cases hwl : q < told.length
    · refine cond_t (by simp; omega) ?_
      refine LdI.of h12 0 rfl (off := 1) rfl rfl ?_
      refine IdxC.words h12 4 rfl hwl fun a hc => LdI.at hc ?_
      exact pick _ (htold _ (List.getElem_mem hwl))
    · exact cond_f (by simp; omega) own3
  · exact cond_f (by simp; omega) own3

set_option maxRecDepth 100000 in
theorem plays_lifted (os : Os) (started : os.Started) (H : Type) (enc : TypeId × Value → H) (F : Stop.Interp) :
    ReturnsInHanded {} Try.checked os 7 .any ((Rows.OpenSpec.upto Rows.handlePlaysSpec).pre6 enc Try.prog Try.f7 Rows.handlePlaysUptoRow.domain false) (((Rows.OpenSpec.upto Rows.handlePlaysSpec).at F).post enc Try.prog Try.f7 false true false false) := by
  refine returnsInHanded_of_cond (C := Try.checked) (s := Rows.OpenSpec.upto Rows.handlePlaysSpec) (k := Rows.uptoSmall) rfl own started (by kernel_rfl) Try.func7
    (OpenSpec.witness (enc := enc) (C := Try.checked) (s := Rows.OpenSpec.upto Rows.handlePlaysSpec) (k := Rows.uptoSmall) rfl false ⟨#[], #[.int .i64 0, .slice none 0 0], []⟩ 8 (by kernel_rfl) (by kernel_rfl) (by kernel_rfl)
      (x := ([.lit (.int .i64 0), .nil], [], [])) (by kernel_rfl) rfl (by kernel_rfl)) ?_
  intro W base args ds gs before hval hW hcnd hsm _
  have hval : ∀ (j : Nat) t v, Try.f7.params[j]? = some t → args[j]? = some v → Value.okWide Try.prog W .any base t v := hval
  have hW : DataW.Whole enc Try.prog Try.f7.params.toList Rows.handlePlaysSpec.vars false W args.toList ds gs before := hW
  have hW' := hW
  obtain ⟨p, q, hA, hV, _⟩ := hW'
  rw [Try.params7] at hA hval
  obtain ⟨v0, v1, d0, d1, p0, p1, rfl, rfl, rfl, h0, h1⟩ := trodAll_two hA
  obtain ⟨n, rfl, rfl, rfl, wn⟩ := open_int Try.underlying3 (hval 0 3 v0 rfl rfl) h0
  obtain ⟨a1, l1, c1, rfl⟩ := okWide_slice Try.underlying37 (hval 1 37 v1 rfl rfl)
  obtain ⟨⟨xs, hz⟩, hbk⟩ := argRows (ks := [.i64, .i64, .i64, .u64]) Try.underlying37 Try.underlying40 (by kernel_rfl) (by kernel_rfl) (by kernel_rfl) h1
  have hl : l1 ≤ 1048576 := by
    rcases hbk with rfl | ⟨elems, spare, rfl, rfl⟩
    · omega
    · exact small_slice (spare := spare) hsm (by simp)
  refine (plays_c W n hz hl).mono fun e W' ⟨he, hs⟩ => ?_
  exact ⟨_, he, law_post (s := Rows.handlePlaysSpec) (tb := 4) laidOut (by decide +kernel) (by kernel_rfl) Try.underlying4 rfl hW ⟨rfl, rfl, rfl⟩ hs⟩

theorem plays_holds : Rows.HandlePlaysUptoSaid :=
  OpenClaim.holds_of_cond 7 Try.f7 rfl rfl rfl rfl rfl rfl rfl ⟨rfl, rfl, rfl, rfl, rfl⟩ rfl rfl rfl rfl rfl (by kernel_rfl) Try.func7 (by kernel_rfl)
    (of_decide_eq_true (by kernel_rfl)) (by unfold Func.isWrapper; first | (rw [if_pos (by decide +kernel)]; kernel_rfl) | (rw [if_neg (by decide +kernel)]; exact ⟨rfl, rfl⟩))
    (fun os started H enc _ F => plays_lifted os started H enc F)
end Go.Proofs.Ytakcnpmmkpfhnaa
