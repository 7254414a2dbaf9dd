/- 'HandleFull' answers true whatever the input: a table is filled, refuses one more, is emptied in whatever order, and filled again, each time with other handles than ever before. No conditions. -/
import Derived.Test.YtakcnpmmkpfhnaaLMoves
namespace Go.Proofs.Ytakcnpmmkpfhnaa
open Go Go.Lw Go.Tb Go.ChangeShapes Go.WideShapes Go.ChangeAt Go.RowKit

/-! The plain law: what a table's live handles, and all handles ever told, come to in a round. -/
theorem taken_lt {m : Tab} {i : Nat} (h : m.takenAt i = true) : i < m.L.length := by
  unfold Tab.takenAt at h
  cases hx : m.L[i]? with
  | none => rw [hx] at h; cases h
  | some s => exact get_lt hx

theorem taken_get {m : Tab} {i : Nat} (h : m.takenAt i = true) : ∃ s, m.L[i]? = some s ∧ s.taken = true := by
  unfold Tab.takenAt at h
  cases hx : m.L[i]? with
  | none => rw [hx] at h; cases h
  | some s => rw [hx] at h; exact ⟨s, rfl, h⟩

theorem hnd_inj {g i g' i' : Nat} (hi : i + 1 < 4294967296) (hi' : i' + 1 < 4294967296) (h : hnd g i = hnd g' i') : g = g' ∧ i = i' := by
  have h1 := hnd_mod (g := g) hi
  have h2 := hnd_mod (g := g') hi'
  have h3 := hnd_div (g := g) hi
  have h4 := hnd_div (g := g') hi'
  rw [h] at h1 h3
  exact ⟨h3.symm.trans h4, Nat.succ.inj (h1.symm.trans h2)⟩

theorem takenAt_of {m : Tab} {i : Nat} {s : Slot} (h : m.L[i]? = some s) : m.takenAt i = s.taken := by simp [Tab.takenAt, h]
theorem genAt_congr {m m' : Tab} {i : Nat} (h : m'.L[i]? = m.L[i]?) : m'.genAt i = m.genAt i := by unfold Tab.genAt; rw [h]
theorem takenAt_congr {m m' : Tab} {i : Nat} (h : m'.L[i]? = m.L[i]?) : m'.takenAt i = m.takenAt i := by unfold Tab.takenAt; rw [h]
theorem genAt_none {m : Tab} {i : Nat} (h : m.L.length ≤ i) : m.genAt i = 1 := by simp [Tab.genAt, List.getElem?_eq_none h]
theorem takenAt_none {m : Tab} {i : Nat} (h : m.L.length ≤ i) : m.takenAt i = false := by simp [Tab.takenAt, List.getElem?_eq_none h]

theorem makeL {m : Tab} (hm : m.WF) (a : Nat) : m.nextSlot ≤ m.L.length ∧ (m.make a).L[m.nextSlot]? = some ⟨m.genAt m.nextSlot, a, true⟩ ∧ ∀ i, i ≠ m.nextSlot → (m.make a).L[i]? = m.L[i]? := by
  cases hh : m.fr with
  | nil =>
    have e1 : m.nextSlot = m.L.length := by simp [Tab.nextSlot, hh]
    have e2 : (m.make a).L = m.L ++ [⟨1, a, true⟩] := by simp [Tab.make, hh]
    rw [e1, e2]
    refine ⟨Nat.le_refl _, ?_, fun i hi => ?_⟩
    · rw [List.getElem?_append_right (Nat.le_refl _), genAt_none (Nat.le_refl _)]; simp
    · rcases Nat.lt_or_ge i m.L.length with h | h
      · rw [List.getElem?_append_left h]
      · rw [List.getElem?_eq_none h, List.getElem?_eq_none (by simp; omega)]
  | cons j r =>
    have hj := hm.mem_lt (i := j) (by rw [hh]; simp)
    have e1 : m.nextSlot = j := by simp [Tab.nextSlot, hh]
    have e2 : (m.make a).L = m.L.set j ⟨m.genAt j, a, true⟩ := by simp [Tab.make, hh]
    rw [e1, e2]
    exact ⟨by omega, List.getElem?_set_self hj, fun i hi => List.getElem?_set_ne (Ne.symm hi)⟩
theorem genAt_make {m : Tab} (hm : m.WF) (a i : Nat) : (m.make a).genAt i = m.genAt i := by
  obtain ⟨_, h1, h2⟩ := makeL hm a
  by_cases h : i = m.nextSlot
  · subst h; exact genAt_of h1
  · exact genAt_congr (h2 i h)
theorem takenAt_make {m : Tab} (hm : m.WF) (a i : Nat) : (m.make a).takenAt i = (m.takenAt i || decide (i = m.nextSlot)) := by
  obtain ⟨_, h1, h2⟩ := makeL hm a
  by_cases h : i = m.nextSlot
  · subst h; rw [takenAt_of h1]; simp
  · rw [takenAt_congr (h2 i h)]; simp [h]
theorem next_free {m : Tab} (hm : m.WF) : m.takenAt m.nextSlot = false := by
  cases hh : m.fr with
  | nil => exact takenAt_none (by simp [Tab.nextSlot, hh])
  | cons j r =>
    obtain ⟨s, hs, ht⟩ := (hm.mem j).1 (by rw [hh]; simp)
    have e1 : m.nextSlot = j := by simp [Tab.nextSlot, hh]
    rw [e1, takenAt_of hs, ht]
theorem freeL {m : Tab} {j : Nat} (hj : j < m.L.length) : (m.free j).L[j]? = some ⟨m.genAt j + 1, 0, false⟩ ∧ ∀ i, i ≠ j → (m.free j).L[i]? = m.L[i]? :=
  ⟨List.getElem?_set_self hj, fun i hi => List.getElem?_set_ne (Ne.symm hi)⟩
theorem genAt_free {m : Tab} {j : Nat} (hj : j < m.L.length) (i : Nat) : (m.free j).genAt i = if i = j then m.genAt j + 1 else m.genAt i := by
  by_cases h : i = j
  · subst h; rw [if_pos rfl]; exact genAt_of (freeL hj).1
  · rw [if_neg h]; exact genAt_congr ((freeL hj).2 i h)
theorem takenAt_free {m : Tab} {j : Nat} (hj : j < m.L.length) (i : Nat) : (m.free j).takenAt i = (m.takenAt i && decide (i ≠ j)) := by
  by_cases h : i = j
  · subst h; rw [takenAt_of (freeL hj).1]; simp
  · rw [takenAt_congr ((freeL hj).2 i h)]; simp [h]

theorem count_make {m : Tab} (hm : m.WF) (a : Nat) : (m.make a).count = m.count + 1 := by
  have hfl := hm.fr_len
  unfold Tab.make Tab.count
  cases hh : m.fr with
  | nil => simp
  | cons i r =>
    simp only [List.length_set, List.length_cons]
    rw [hh, List.length_cons] at hfl
    omega
theorem count_free {m : Tab} (hm : m.WF) {i : Nat} (ht : m.takenAt i = true) : (m.free i).count + 1 = m.count := by
  obtain ⟨s, hx, hst⟩ := taken_get ht
  have hni : i ∉ m.fr := by rw [hm.mem i]; simp [hx, hst]
  have := nodup_bound (n := m.L.length) (l := i :: m.fr) (List.nodup_cons.2 ⟨hni, hm.nodup⟩) fun k hk => by
    rcases List.mem_cons.1 hk with rfl | hk
    · exact get_lt hx
    · exact hm.mem_lt hk
  simp only [List.length_cons] at this
  unfold Tab.free Tab.count
  simp only [List.length_set, List.length_cons]
  omega
theorem mem_erase {l : List Nat} {k : Nat} (hd : l.Nodup) (hk : k < l.length) (x : Nat) : x ∈ l.eraseIdx k ↔ x ∈ l ∧ x ≠ l[k] := by
  rw [List.mem_eraseIdx_iff_getElem]
  constructor
  · rintro ⟨i, hi, hne, rfl⟩
    exact ⟨List.getElem_mem _, fun h => hne ((List.getElem_inj hd).1 h)⟩
  · rintro ⟨hx, hne⟩
    obtain ⟨i, hi, rfl⟩ := List.mem_iff_getElem.1 hx
    exact ⟨i, hi, fun e => hne (by subst e; rfl), rfl⟩

/-- while the table is filled. -/
structure Fill (m : Tab) (n r : Nat) (live : List Nat) : Prop where
  wf : m.WF
  hn : m.n = n
  nodup : live.Nodup
  mem : ∀ h, h ∈ live ↔ ∃ i, m.takenAt i = true ∧ h = hnd (r + 1) i
  gen : ∀ i, i < n → m.genAt i = r + 1
  count : m.count = live.length
/-- while it is emptied. -/
structure Emp (m : Tab) (n r : Nat) (live : List Nat) : Prop where
  wf : m.WF
  hn : m.n = n
  nodup : live.Nodup
  mem : ∀ h, h ∈ live ↔ ∃ i, m.takenAt i = true ∧ h = hnd (r + 1) i
  gen : ∀ i, i < n → m.genAt i = if m.takenAt i then r + 1 else r + 2
  count : m.count = live.length

theorem small {m : Tab} (hm : m.WF) {i : Nat} (ht : m.takenAt i = true) : i + 1 < 4294967296 ∧ i < m.n := by
  have h1 := taken_lt ht; have h2 := hm.len; have h3 := hm.most
  omega

theorem Fill.not_full {m : Tab} {n r : Nat} {live : List Nat} (h : Fill m n r live) (hl : live.length < n) : ¬ m.full := fun hf => by
  have := h.wf.count_eq.2 hf
  rw [h.count, h.hn] at this
  omega
theorem Fill.full {m : Tab} {n r : Nat} {live : List Nat} (h : Fill m n r live) (hl : live.length = n) : m.full := h.wf.count_eq.1 (by rw [h.count, h.hn, hl])

theorem Fill.fresh {m : Tab} {n r : Nat} {live : List Nat} (h : Fill m n r live) (hl : live.length < n) : hnd (r + 1) m.nextSlot ∉ live := by
  intro hin
  obtain ⟨i, ht, he⟩ := (h.mem _).1 hin
  have hnx := h.wf.next_lt (h.not_full hl)
  have hmo := h.wf.most
  have := (hnd_inj (by omega) (small h.wf ht).1 he).2
  rw [← this, next_free h.wf] at ht
  cases ht

theorem Fill.make {m : Tab} {n r : Nat} {live : List Nat} (h : Fill m n r live) (hl : live.length < n) {a : Nat} (ha : a < 9223372036854775808) : Fill (m.make a) n r (live ++ [hnd (r + 1) m.nextSlot]) := by
  refine ⟨h.wf.make (h.not_full hl) ha, ?_, ?_, fun x => ?_, fun i hi => by rw [genAt_make h.wf]; exact h.gen i hi, by rw [count_make h.wf, h.count]; simp⟩
  · have : (m.make a).n = m.n := by unfold Tab.make; split <;> rfl
    rw [this, h.hn]
  · rw [List.nodup_append]
    refine ⟨h.nodup, by simp, fun x hx y hy e => ?_⟩
    simp at hy
    subst hy; subst e
    exact h.fresh hl hx
  · rw [List.mem_append, h.mem, List.mem_singleton]
    constructor
    · rintro (⟨i, ht, rfl⟩ | rfl)
      · exact ⟨i, by rw [takenAt_make h.wf, ht]; rfl, rfl⟩
      · exact ⟨m.nextSlot, by rw [takenAt_make h.wf]; simp, rfl⟩
    · rintro ⟨i, ht, rfl⟩
      rw [takenAt_make h.wf] at ht
      rcases Bool.or_eq_true_iff.1 ht with ht | ht
      · exact .inl ⟨i, ht, rfl⟩
      · simp at ht; subst ht; exact .inr rfl

theorem Fill.gen_next {m : Tab} {n r : Nat} {live : List Nat} (h : Fill m n r live) (hl : live.length < n) : m.genAt m.nextSlot = r + 1 :=
  h.gen _ (by have := h.wf.next_lt (h.not_full hl); rw [h.hn] at this; exact this)

theorem Fill.emp {m : Tab} {n r : Nat} {live : List Nat} (h : Fill m n r live) (hl : live.length = n) : Emp m n r live := by
  refine ⟨h.wf, h.hn, h.nodup, h.mem, fun i hi => ?_, h.count⟩
  have hf := h.full hl
  have hlt : i < m.L.length := by rw [hf.2, h.hn]; exact hi
  have ht : m.takenAt i = true := by
    unfold Tab.takenAt
    rw [List.getElem?_eq_getElem hlt]
    cases hb : m.L[i].taken with
    | true => exact hb
    | false =>
      have := (h.wf.mem i).2 ⟨m.L[i], List.getElem?_eq_getElem hlt, hb⟩
      rw [hf.1] at this
      cases this
  rw [ht]
  exact h.gen i hi

theorem Emp.find {m : Tab} {n r : Nat} {live : List Nat} (h : Emp m n r live) {x : Nat} (hx : x ∈ live) : ∃ i, m.find x = some i ∧ m.takenAt i = true ∧ x = hnd (r + 1) i ∧ m.genAt i = r + 1 := by
  obtain ⟨i, ht, rfl⟩ := (h.mem x).1 hx
  obtain ⟨h1, h2⟩ := small h.wf ht
  obtain ⟨s, hs, hst⟩ := taken_get ht
  have hg := h.gen i (by rw [← h.hn]; exact h2)
  rw [ht, if_pos rfl] at hg
  have hsg : s.gen = r + 1 := by rw [← genAt_of hs]; exact hg
  exact ⟨i, find_of h1 hs hst hsg, ht, rfl, hg⟩

theorem find_no {m : Tab} {h i : Nat} {s : Slot} (h1 : h % 4294967296 = i + 1) (hx : m.L[i]? = some s) (ht : s.taken = false) : m.find h = none := by
  unfold Tab.find
  rw [h1]
  simp only [hx]
  rw [if_neg (fun hh => by rw [ht] at hh; cases hh.1)]
theorem find_freed {m : Tab} {g i : Nat} (hi : i + 1 < 4294967296) (hl : i < m.L.length) : (m.free i).find (hnd g i) = none :=
  find_no (hnd_mod hi) (freeL hl).1 rfl

theorem Emp.free {m : Tab} {n r : Nat} {live : List Nat} (h : Emp m n r live) (hr : r < 100) {k i : Nat} (hk : k < live.length) (ht : m.takenAt i = true) (he : live[k] = hnd (r + 1) i) : Emp (m.free i) n r (live.eraseIdx k) := by
  obtain ⟨h1, h2⟩ := small h.wf ht
  have hg := h.gen i (by rw [← h.hn]; exact h2)
  rw [ht, if_pos rfl] at hg
  have hil := taken_lt ht
  refine ⟨h.wf.free ht (by rw [hg]; omega), h.hn, h.nodup.eraseIdx k, fun x => ?_, fun j hj => ?_, ?_⟩
  · rw [mem_erase h.nodup hk, h.mem, he]
    constructor
    · rintro ⟨⟨j, hj, rfl⟩, hne⟩
      exact ⟨j, by rw [takenAt_free hil, hj]; simp; exact fun e => hne (by rw [e]), rfl⟩
    · rintro ⟨j, hj, rfl⟩
      rw [takenAt_free hil] at hj
      simp only [Bool.and_eq_true, decide_eq_true_eq] at hj
      exact ⟨⟨j, hj.1, rfl⟩, fun e => hj.2 (hnd_inj (small h.wf hj.1).1 h1 e).2⟩
  · rw [genAt_free hil, takenAt_free hil]
    by_cases hji : j = i
    · subst hji; simp [hg]
    · simp [hji, h.gen j hj]
  · have := count_free h.wf ht
    rw [List.length_eraseIdx_of_lt hk]
    have := h.count
    omega

theorem Emp.none {m : Tab} {n r : Nat} (h : Emp m n r []) (i : Nat) : m.takenAt i = false := by
  cases ht : m.takenAt i with
  | false => rfl
  | true => exact absurd ((h.mem _).2 ⟨i, ht, rfl⟩) (by simp)
theorem Emp.done {m : Tab} {n r : Nat} (h : Emp m n r []) : Fill m n (r + 1) [] := by
  refine ⟨h.wf, h.hn, h.nodup, fun x => ?_, fun i hi => ?_, h.count⟩
  · simp only [List.not_mem_nil, false_iff, not_exists, not_and]
    intro i ht
    rw [h.none] at ht
    cases ht
  · have := h.gen i hi
    rw [h.none] at this
    simpa using this
theorem Emp.live {m : Tab} {n r : Nat} (h : Emp m n r []) : m.live = [] := by
  unfold Tab.live
  rw [List.filterMap_eq_nil_iff]
  intro i _
  rw [h.none]
  rfl
theorem new_fill {n : Nat} (h1 : 1 ≤ n) (h2 : n ≤ 1048576) : Fill (Tab.new n) n 0 [] :=
  ⟨new_wf h1 h2, rfl, by simp, fun x => by simp [Tab.takenAt, Tab.new], fun i _ => by simp [Tab.genAt, Tab.new], by simp [Tab.count, Tab.new]⟩

theorem words_get {l : List Nat} {i : Nat} (h : i < l.length) : (words l)[i]? = some (.int .u64 (l[i] : Int)) := by simp [words, h]
theorem words_erase (l : List Nat) (k : Nat) : (words l).eraseIdx k = words (l.eraseIdx k) := by
  unfold words
  rw [List.eraseIdx_eq_take_drop_succ, List.eraseIdx_eq_take_drop_succ]
  simp [List.map_take, List.map_drop]

/-- an index into a list of words that is owned. -/
theorem IdxC.words {L : List HP} {w : World} {e : TypeId} {p : Option Addr} {n c : Nat} {xs : List Nat} (hs : Sat L w) (i : Nat) (hi : L[i]? = some (Own e 1 p n c (words xs))) {k : Nat} (hk : k < xs.length) {K : Addr → Prop}
    (h : ∀ a, w.cell? a = some (.int .u64 (xs[k] : Int)) → K a) : IdxC p n (k : Int) 1 K := by
  have hl := hs.own_len i hi
  rw [words_len, Nat.mul_one] at hl
  obtain ⟨g, hg⟩ := hs.own_some i hi (by omega)
  refine IdxC.reads (hs.reads i hi) ⟨_, hg⟩ (by omega) (by omega) fun a hc => h a ?_
  have := hc 0 (.int .u64 (xs[k] : Int)) (by simpa using words_get hk)
  simpa [Addr.add] using this

def Full (W : World) (b n : Nat) (ever live : List Nat) (m : Tab) (ep : Option Addr) (ec : Nat) (lp : Option Addr) (lc : Nat) (w : World) : Prop :=
  Sat [Own 25 1 lp live.length lc (words live), Own 25 1 ep ever.length ec (words ever), Tbl m b, Base W] w

theorem full_c (W : World) (n : Int) {p : Option Addr} {l c : Nat} {zs : List Int} (hz : ArgI W .u8 p l zs) :
    Calls Try.prog 4 #[.int .i64 n, .slice p l c] W (Ret (.bool true) (Go.RowKit.Below W.heap.size W)) := by
  refine S_law8_HandleFull_ok _ _ _ _ _ _ ?_
  unfold S_law8_HandleFull
  refine (awake_c (Sat.ofBase W)).mono ?_
  rintro e w0 ⟨rfl, h0⟩
  refine ⟨_, rfl, cond_f rfl ?_⟩
  obtain ⟨x, hx, hxe⟩ := bAnd_le n 31 (by omega)
  have hxe' : bAnd .i64 n 31 = (x : Int) := hxe
  have hke : IntKind.wrap .i64 (1 + bAnd .i64 n 31) = ((x + 1 : Nat) : Int) := by rw [hxe', wrapI64 (by omega) (by omega)]; omega
  rw [hke]
  generalize hk : x + 1 = k at hke ⊢
  refine (fresh_c (n := k) (by omega) (by omega) h0).mono ?_
  rintro e w1 ⟨b, rfl, h1⟩
  refine ⟨_, rfl, cond_f rfl ?_⟩
  have hmx := hz.max
  simp only [maxLen] at hmx
  -- three rounds
  refine ⟨fun ep el ec i w => ∃ (r : Nat) (ever : List Nat) (m : Tab), i = r ∧ r ≤ 3 ∧ el = ever.length ∧ ever.length ≤ 32 * r ∧ (∀ h ∈ ever, h / 4294967296 ≤ r) ∧ Fill m k r [] ∧ Sat [Own 25 1 ep el ec (words ever), Tbl m b, Base W] w,
    fun _ _ _ i _ => (3 - i).toNat, ⟨0, [], _, rfl, by omega, rfl, by simp, by simp, new_fill (by omega) (by omega), h1.ownNil _ _⟩, ?_⟩
  rintro ep el ec i w2 ⟨r, old, m0, rfl, hr, rfl, hol, hold, hfill0, h2⟩
  unfold S_law8_HandleFull_l3
  by_cases hr3 : r < 3
  case neg => exact cond_f (by simp; omega) ⟨rfl, h2.below 2 rfl⟩
  refine cond_t (by simp; omega) ?_
  -- it is filled
  refine ⟨fun ep el ec lp ll lc i w => ∃ (live : List Nat) (m : Tab), i = live.length ∧ live.length ≤ k ∧ el = (old ++ live).length ∧ ll = live.length ∧ Fill m k r live ∧ Full W b k (old ++ live) live m ep ec lp lc w,
    fun _ _ _ _ _ _ i _ => (k - i).toNat, ⟨[], m0, rfl, by simp, by simp, rfl, hfill0, ?_⟩, ?_⟩
  · have := h2.ownNil 25 1
    simpa [Full, words] using this
  rintro ep1 el1 ec1 lp1 ll1 lc1 i w3 ⟨live, m, rfl, hlk, rfl, rfl, hfill, h3⟩
  unfold S_law8_HandleFull_l2
  rw [hke]
  have hell : (old ++ live).length = old.length + live.length := List.length_append
  by_cases hlt : live.length < k
  · refine cond_t (by simp; omega) ?_
    refine (make_ok (h3.pull 2 rfl) (a := live.length) (by omega) (hfill.not_full hlt)).mono ?_
    rintro e w4 ⟨rfl, h4⟩
    rw [hfill.gen_next hlt]
    have h4 : Full W b k (old ++ live) live (m.make live.length) ep1 ec1 lp1 lc1 w4 := Sat.back 2 (A := Tbl m b) rfl h4
    refine ⟨_, _, rfl, cond_f rfl ?_⟩
    have hnx := hfill.wf.next_lt (hfill.not_full hlt)
    have hmo := hfill.wf.most
    have hnew : hnd (r + 1) m.nextSlot ∉ old ++ live := by
      rw [List.mem_append]
      rintro (h | h)
      · have := hold _ h
        rw [hnd_div (by omega)] at this
        omega
      · exact hfill.fresh hlt h
    have hfm := hfill.make hlt (a := live.length) (by omega)
    generalize hnd (r + 1) m.nextSlot = nw at hnew hfm ⊢
    refine ⟨fun i w => ∃ j : Nat, i = j ∧ j ≤ (old ++ live).length ∧ Full W b k (old ++ live) live (m.make live.length) ep1 ec1 lp1 lc1 w, fun i _ => ((old ++ live).length - i).toNat, ⟨0, rfl, by omega, h4⟩, ?_⟩
    clear h4
    rintro i w5 ⟨j, rfl, hj, h5⟩
    unfold S_law8_HandleFull_l0
    by_cases hjl : j < (old ++ live).length
    · refine cond_t (by simp at hjl ⊢; omega) ?_
      refine IdxC.words h5 1 rfl hjl fun a hc => LdI.at hc ?_
      have hne : (old ++ live)[j] ≠ nw := fun e => hnew (e ▸ List.getElem_mem _)
      refine cond_f (by simpa using fun h : (((old ++ live)[j] : Nat) : Int) = nw => hne (by omega)) ?_
      rw [wrapI64 (by omega) (by omega)]
      exact ⟨⟨j + 1, by omega, by omega, h5⟩, by dsimp only; omega⟩
    · refine cond_f (by simp at hjl ⊢; omega) ?_
      refine RunS.one eok_u64 h5 1 rfl (by rfl) (by rfl) (by omega) (by simp only [maxLen]; omega) fun p1 c1 w7 h7 => ?_
      refine RunS.one eok_u64 h7 0 rfl (by rfl) (by rfl) (by omega) (by simp only [maxLen]; omega) fun p2 c2 w9 h9 => ?_
      rw [wrapI64 (by omega) (by omega)]
      refine ⟨⟨live ++ [nw], m.make live.length, by simp, by simp; omega, by simp; omega, by simp, hfm, ?_⟩, by dsimp only; omega⟩
      have e1 : words (old ++ live) ++ [Value.int .u64 (nw : Int)] = words (old ++ (live ++ [nw])) := by rw [← List.append_assoc, words_snoc]
      have e2 : words live ++ [Value.int .u64 (nw : Int)] = words (live ++ [nw]) := (words_snoc _ _).symm
      have e3 : (old ++ (live ++ [nw])).length = (old ++ live).length + 1 := by simp; omega
      have e4 : (live ++ [nw]).length = live.length + 1 := by simp
      unfold Full
      rw [e3, e4, ← e1, ← e2]
      exact h9
  · have hlen : live.length = k := by omega
    refine cond_f (by simp; omega) ?_
    refine (make_full (h3.pull 2 rfl) (a := 0) (by omega) (hfill.full hlen)).mono ?_
    rintro e w10 ⟨rfl, h10⟩
    have h10 : Full W b k (old ++ live) live m ep1 ec1 lp1 lc1 w10 := Sat.back 2 (A := Tbl m b) rfl h10
    refine ⟨_, _, rfl, cond_f rfl ?_⟩
    refine (count_c (h10.pull 2 rfl)).mono ?_
    rintro e w' ⟨rfl, rfl⟩
    refine ⟨_, rfl, cond_f (by rw [hfill.count, hlen]; simp) ?_⟩
    have hemp := hfill.emp hlen
    have hever : ∀ h ∈ old ++ live, h / 4294967296 ≤ r + 1 := by
      intro h hh
      rcases List.mem_append.1 hh with hh | hh
      · have := hold h hh; omega
      · obtain ⟨i, ht, rfl⟩ := (hfill.mem h).1 hh
        rw [hnd_div (small hfill.wf ht).1]
        omega
    generalize old ++ live = ever at h10 hever hell ⊢
    clear h3
    -- it is emptied
    refine ⟨fun lp ll lc i w => ∃ (live : List Nat) (m : Tab) (j : Nat), i = j ∧ j + live.length = k ∧ ll = live.length ∧ Emp m k r live ∧ Full W b k ever live m ep1 ec1 lp lc w, fun _ ll _ _ _ => ll, ⟨live, m, 0, rfl, by omega, rfl, hemp, h10⟩, ?_⟩
    clear h10 hemp hfill hlt hlk
    rintro lp ll lc i w12 ⟨lv, m, j, rfl, hjk, rfl, hemp, h12⟩
    unfold S_law8_HandleFull_l1
    by_cases hl0 : 0 < lv.length
    · refine cond_t (by simp; omega) ?_
      intro k1 hk1
      -- whichever is picked
      have pick : ∀ q : Nat, q < lv.length → k1 (q : Int) w12 := by
        intro q hq
        refine hk1 _ _ ?_
        unfold S_law8_HandleFull_j0
        refine IdxC.words h12 0 rfl hq fun a hc => LdI.at hc ?_
        obtain ⟨s, hf, ht, he, hg⟩ := hemp.find (List.getElem_mem hq)
        obtain ⟨hs1, hs2⟩ := small hemp.wf ht
        have hmo := hemp.wf.most
        have hlt64 : lv[q] < 18446744073709551616 := by rw [he]; unfold hnd; omega
        refine (free_c (h12.pull 2 rfl) hlt64 hf (by rw [hg]; omega)).mono ?_
        rintro e w14 ⟨rfl, h14⟩
        have h14 : Full W b k ever lv (m.free s) ep1 ec1 lp lc w14 := Sat.back 2 (A := Tbl m b) rfl h14
        refine ⟨_, rfl, cond_f rfl ?_⟩
        refine IdxC.words h14 0 rfl hq fun a hc => LdI.at hc ?_
        refine (free_no (h14.pull 2 rfl) hlt64 (by rw [he]; exact find_freed hs1 (taken_lt ht))).mono ?_
        rintro e w15 ⟨rfl, rfl⟩
        refine ⟨_, rfl, cond_f rfl ?_⟩
        have h15 := h14.drew
        refine RunS.erase (w := w14.drew) eok_u64 h15 0 rfl hq (by omega) (by simp only [maxLen]; omega) rfl (by rw [wrapI64 (by omega) (by omega)]; omega) fun p' c' w' h16 => ?_
        rw [words_erase] at h16
        rw [wrapI64 (by omega) (by omega)]
        have hle : (lv.eraseIdx q).length = lv.length - 1 := List.length_eraseIdx_of_lt hq
        refine ⟨⟨lv.eraseIdx q, m.free s, j + 1, by omega, by omega, hle.symm, hemp.free (by omega) hq ht he, ?_⟩, by dsimp only; omega⟩
        unfold Full
        rw [hle]
        exact h16
      by_cases ho : 0 < l
      · refine cond_t (by simp; omega) ⟨by omega, ?_⟩
        rw [tmod_nat]
        have hjm : j % l < l := Nat.mod_lt _ ho
        have hzj : zs[j % l]? = some (zs[j % l]'(by rw [hz.len]; exact hjm)) := List.getElem?_eq_getElem _
        refine IdxC.reads (h12.baseReads 3 rfl hz.reads) (hz.some ho) (by omega) (by omega) fun a hca => ?_
        have hzw := hz.wf (zs[j % l]'(by rw [hz.len]; exact hjm)) (List.getElem_mem _)
        refine LdI.at (n := zs[j % l]'(by rw [hz.len]; exact hjm)) ?_ ⟨by omega, ?_⟩
        · have := hca 0 (.int .u8 (zs[j % l]'(by rw [hz.len]; exact hjm))) (by simp only [Int.toNat_natCast, Nat.mul_one, Nat.add_zero, List.getElem?_map, hzj, Option.map_some])
          simpa [Addr.add] using this
        generalize (zs[j % l]'(by rw [hz.len]; exact hjm)) = z at hzw
        have hz2 : 0 ≤ z ∧ z ≤ 255 := by simpa [Lit.wf, IntKind.min, IntKind.max, IntKind.signed, IntKind.bits] using hzw
        obtain ⟨y, rfl⟩ := Int.eq_ofNat_of_zero_le hz2.1
        rw [wrapI64 (by omega) (by omega), tmod_nat]
        exact pick _ (Nat.mod_lt _ hl0)
      · exact cond_f (by simp; omega) (pick 0 hl0)
    · have hl0 : lv = [] := List.eq_nil_of_length_eq_zero (by omega)
      subst hl0
      refine cond_f (by simp) ?_
      refine (count_c (h12.pull 2 rfl)).mono ?_
      rintro e w' ⟨rfl, rfl⟩
      refine ⟨_, rfl, cond_f (by rw [hemp.count]; rfl) ?_⟩
      refine (live_c (h12.pull 2 rfl)).mono ?_
      rintro e w18 ⟨p2, l2, c2, rfl, hl2, h18⟩
      rw [hemp.live] at hl2
      have hl2 : l2 = 0 := hl2
      refine ⟨_, _, _, rfl, cond_f (by simp [hl2]) ?_⟩
      rw [wrapI64 (by omega) (by omega)]
      have h19 : Sat [Tbl m b, Own 25 1 lp 0 lc (words []), Own 25 1 ep1 ever.length ec1 (words ever), Base W] w18 := h18.drop
      have h20 : Sat [Own 25 1 lp 0 lc (words []), Own 25 1 ep1 ever.length ec1 (words ever), Tbl m b, Base W] w18 := by
        have a1 := h19.pull 2 rfl
        have a2 : Sat [Own 25 1 ep1 ever.length ec1 (words ever), Tbl m b, Own 25 1 lp 0 lc (words []), Base W] w18 := a1
        exact a2.pull 2 rfl
      exact ⟨⟨r + 1, ever, m, by omega, by omega, rfl, by omega, hever, hemp.done, h20.drop⟩, by dsimp only; omega⟩

set_option maxRecDepth 100000 in
theorem full_lifted (os : Os) (started : os.Started) (H : Type) (enc : TypeId × Value → H) :
    ReturnsInHanded {} Try.checked os 4 .any (Rows.handleFullSpec.pre6 enc Try.prog Try.f4 Rows.handleFullRow.domain false) (Rows.handleFullSpec.post enc Try.prog Try.f4 false true false false) := by
  refine returnsInHanded_of_change (C := Try.checked) own started (by kernel_rfl) Try.func4
    (ChangeSpec.witness6 (enc := enc) (C := Try.checked) false ⟨#[], #[.int .i64 0, .slice none 0 0], []⟩ 8 (by kernel_rfl) (by kernel_rfl) (by kernel_rfl) (by kernel_rfl)) ?_
  intro W base args ds gs before hval hW hcnd _
  have hval : ∀ (j : Nat) t v, Try.f4.params[j]? = some t → args[j]? = some v → Value.okWide Try.prog W .any base t v := hval
  have hW' : DataW.Whole enc Try.prog Try.f4.params.toList Rows.handleFullSpec.vars false W args.toList ds gs before := hW
  obtain ⟨p, q, hA, hV, _⟩ := hW'
  rw [Try.params4] at hA hval
  obtain ⟨v0, v1, d0, d1, p0, p1, rfl, rfl, rfl, h0, h1⟩ := trodAll_two hA
  obtain ⟨n, rfl, rfl, rfl, wn⟩ := open_int Try.underlying3 (hval 0 3 v0 rfl rfl) h0
  obtain ⟨a1, l1, c1, rfl⟩ := okWide_slice Try.underlying33 (hval 1 33 v1 rfl rfl)
  obtain ⟨zs, hz⟩ := argInts Try.underlying33 Try.underlying5 (by kernel_rfl) h1
  refine (full_c W n hz).mono fun e W' ⟨he, hs⟩ => ?_
  exact ⟨_, he, law_post (tb := 4) laidOut (by decide +kernel) (by kernel_rfl) Try.underlying4 rfl hW ⟨rfl, rfl, rfl⟩ hs⟩

theorem full_holds : Rows.HandleFullSaid :=
  OpenClaim.holds_of_wide 4 Try.f4 rfl rfl rfl rfl rfl rfl rfl ⟨rfl, rfl, rfl, rfl, rfl⟩ rfl rfl rfl rfl rfl (by kernel_rfl) Try.func4 (by kernel_rfl)
    (of_decide_eq_true (by kernel_rfl)) (by unfold Func.isWrapper; first | (rw [if_pos (by decide +kernel)]; kernel_rfl) | (rw [if_neg (by decide +kernel)]; exact ⟨rfl, rfl⟩))
    (fun os started H enc _ => full_lifted os started H enc)
end Go.Proofs.Ytakcnpmmkpfhnaa
