/- 'HandleStale' answers true for every list of deeds of bulk at most 1048576: a handle that was freed stands for nothing ever after. The bound is needed: a slot's generation is a number of 32 bits, and wraps once a slot was freed so often. -/
import Derived.Test.YtakcnpmmkpfhnaaLFull
import Derived.JoinedCond
namespace Go.Proofs.Ytakcnpmmkpfhnaa
open Go Go.Lw Go.Tb Go.ChangeShapes Go.WideShapes Go.ChangeAt Go.RowKit

/-! The plain law. -/
theorem find_old {m : Tab} {h i : Nat} {s : Slot} (h1 : h % 4294967296 = i + 1) (hx : m.L[i]? = some s) (hg : s.gen ≠ h / 4294967296) : m.find h = none := by
  unfold Tab.find
  rw [h1]
  simp only [hx]
  rw [if_neg (fun hh => hg hh.2)]

theorem atOf_congr {m m' : Tab} {i : Nat} (h : m'.L[i]? = m.L[i]?) : m'.atOf i = m.atOf i := by unfold Tab.atOf; rw [h]

structure Stale (m : Tab) (k t : Nat) (sl gone : List Nat) : Prop where
  wf : m.WF
  hn : m.n = k
  nodup : sl.Nodup
  mem : ∀ i, m.takenAt i = true ↔ i ∈ sl
  count : m.count = sl.length
  gens : ∀ i, m.genAt i ≤ 1 + t
  gone : ∀ h ∈ gone, ∃ g i, h = hnd g i ∧ i < m.L.length ∧ g < m.genAt i

def lvs (m : Tab) (sl : List Nat) : List Nat := sl.map fun j => hnd (m.genAt j) j
def avs (m : Tab) (sl : List Nat) : List Nat := sl.map m.atOf
theorem lvs_len (m : Tab) (sl : List Nat) : (lvs m sl).length = sl.length := by simp [lvs]
theorem avs_len (m : Tab) (sl : List Nat) : (avs m sl).length = sl.length := by simp [avs]

namespace Stale
variable {m : Tab} {k t : Nat} {sl gone : List Nat}
theorem le (h : Stale m k t sl gone) : sl.length ≤ k := by
  have := h.wf.len
  rw [← h.count, ← h.hn]
  unfold Tab.count
  omega
theorem more (h : Stale m k t sl gone) : Stale m k (t + 1) sl gone :=
  ⟨h.wf, h.hn, h.nodup, h.mem, h.count, fun i => by have := h.gens i; omega, h.gone⟩
theorem full (h : Stale m k t sl gone) (hl : sl.length = k) : m.full := h.wf.count_eq.1 (by rw [h.count, h.hn, hl])
theorem not_full (h : Stale m k t sl gone) (hl : sl.length < k) : ¬ m.full := fun hf => by
  have := h.wf.count_eq.2 hf
  rw [h.count, h.hn] at this
  omega
theorem small (h : Stale m k t sl gone) {i : Nat} (hi : i ∈ sl) : i + 1 < 4294967296 ∧ i < k := by
  have h1 := Proofs.Ytakcnpmmkpfhnaa.small h.wf ((h.mem i).2 hi)
  rw [h.hn] at h1
  exact h1
theorem goneSmall (h : Stale m k t sl gone) {i : Nat} (hi : i < m.L.length) : i + 1 < 4294967296 := by
  have h2 := h.wf.len; have h3 := h.wf.most
  omega
theorem find_live (h : Stale m k t sl gone) {i : Nat} (hi : i ∈ sl) : m.find (hnd (m.genAt i) i) = some i := by
  obtain ⟨s, hs, ht⟩ := taken_get ((h.mem i).2 hi)
  exact find_of (h.small hi).1 hs ht (genAt_of hs).symm
theorem find_gone (h : Stale m k t sl gone) {x : Nat} (hx : x ∈ gone) : m.find x = none := by
  obtain ⟨g, i, rfl, hi, hg⟩ := h.gone x hx
  have hs := h.goneSmall hi
  have hx := List.getElem?_eq_getElem hi
  refine find_old (hnd_mod hs) hx ?_
  rw [hnd_div hs, ← genAt_of hx]
  omega
theorem lt64 (h : Stale m k t sl gone) (ht : t ≤ 4294967290) {x : Nat} (hx : x ∈ lvs m sl ∨ x ∈ gone) : x < 18446744073709551616 := by
  have aux : ∀ g i : Nat, g ≤ 1 + t → i + 1 < 4294967296 → hnd g i < 18446744073709551616 := by
    intro g i h1 h2
    unfold hnd
    omega
  rcases hx with hx | hx
  · obtain ⟨i, hi, rfl⟩ := List.mem_map.1 hx
    exact aux _ _ (h.gens i) (h.small hi).1
  · obtain ⟨g, i, rfl, hi, hg⟩ := h.gone x hx
    have := h.gens i
    exact aux _ _ (by omega) (h.goneSmall hi)
theorem next (h : Stale m k t sl gone) (hl : sl.length < k) : m.nextSlot ∉ sl ∧ m.nextSlot + 1 < 4294967296 := by
  have h1 := h.wf.next_lt (h.not_full hl)
  have h2 := h.wf.most
  refine ⟨fun hh => ?_, by omega⟩
  have h3 := (h.mem _).2 hh
  rw [next_free h.wf] at h3
  cases h3
theorem fresh (h : Stale m k t sl gone) (hl : sl.length < k) : (∀ x ∈ lvs m sl, x ≠ hnd (m.genAt m.nextSlot) m.nextSlot) ∧ (∀ x ∈ gone, x ≠ hnd (m.genAt m.nextSlot) m.nextSlot) := by
  obtain ⟨h1, h2⟩ := h.next hl
  constructor
  · intro x hx e
    obtain ⟨i, hi, rfl⟩ := List.mem_map.1 hx
    have := (hnd_inj (h.small hi).1 h2 e).2
    exact h1 (this ▸ hi)
  · intro x hx e
    obtain ⟨g, i, rfl, hi, hg⟩ := h.gone x hx
    obtain ⟨e1, e2⟩ := hnd_inj (h.goneSmall hi) h2 e
    subst e2
    omega
theorem make (h : Stale m k t sl gone) (hl : sl.length < k) {a : Nat} (ha : a < 9223372036854775808) : Stale (m.make a) k t (sl ++ [m.nextSlot]) gone := by
  have hnn : (m.make a).n = m.n := by unfold Tab.make; split <;> rfl
  refine ⟨h.wf.make (h.not_full hl) ha, by rw [hnn, h.hn], ?_, fun i => ?_, by rw [count_make h.wf, h.count]; simp, fun i => by rw [genAt_make h.wf]; exact h.gens i, fun x hx => ?_⟩
  · rw [List.nodup_append]
    refine ⟨h.nodup, by simp, fun x hx y hy e => ?_⟩
    simp at hy
    subst hy; subst e
    exact (h.next hl).1 hx
  · rw [takenAt_make h.wf, List.mem_append, List.mem_singleton, ← h.mem]
    simp
  · obtain ⟨g, i, e, hi, hg⟩ := h.gone x hx
    refine ⟨g, i, e, ?_, by rw [genAt_make h.wf]; exact hg⟩
    unfold Tab.make
    split <;> simp <;> omega
theorem make_lvs (h : Stale m k t sl gone) (a : Nat) : lvs (m.make a) (sl ++ [m.nextSlot]) = lvs m sl ++ [hnd (m.genAt m.nextSlot) m.nextSlot] := by
  simp only [lvs, genAt_make h.wf, List.map_append, List.map_cons, List.map_nil]
theorem make_avs (h : Stale m k t sl gone) (hl : sl.length < k) (a : Nat) : avs (m.make a) (sl ++ [m.nextSlot]) = avs m sl ++ [a] := by
  obtain ⟨_, h1, h2⟩ := makeL h.wf a
  have h3 := (h.next hl).1
  simp only [avs, List.map_append, List.map_cons, List.map_nil]
  congr 1
  · refine List.map_congr_left fun i hi => atOf_congr (h2 i ?_)
    rintro rfl
    exact h3 hi
  · simp [Tab.atOf, h1]
theorem free (h : Stale m k t sl gone) (ht : t ≤ 4294967290) {q : Nat} (hq : q < sl.length) : Stale (m.free sl[q]) k (t + 1) (sl.eraseIdx q) (gone ++ [hnd (m.genAt sl[q]) sl[q]]) := by
  have hin := List.getElem_mem hq
  have htk := (h.mem _).2 hin
  have hil := taken_lt htk
  have hg := h.gens sl[q]
  refine ⟨h.wf.free htk (by omega), h.hn, h.nodup.eraseIdx q, fun j => ?_, ?_, fun j => ?_, fun x hx => ?_⟩
  · rw [takenAt_free hil, mem_erase h.nodup hq, ← h.mem]
    simp
  · have := count_free h.wf htk
    have := h.count
    rw [List.length_eraseIdx_of_lt hq]
    omega
  · rw [genAt_free hil]
    have := h.gens j
    split <;> omega
  · have hl : (m.free sl[q]).L.length = m.L.length := by simp [Tab.free]
    rcases List.mem_append.1 hx with hx | hx
    · obtain ⟨g, i, e, hi, hg⟩ := h.gone x hx
      refine ⟨g, i, e, by rw [hl]; exact hi, ?_⟩
      rw [genAt_free hil]
      split
      · rename_i e; subst e; omega
      · exact hg
    · simp only [List.mem_singleton] at hx
      refine ⟨_, _, hx, by rw [hl]; exact hil, ?_⟩
      rw [genAt_free hil, if_pos rfl]
      omega
theorem free_lvs (h : Stale m k t sl gone) {q : Nat} (hq : q < sl.length) : lvs (m.free sl[q]) (sl.eraseIdx q) = (lvs m sl).eraseIdx q := by
  have hil := taken_lt ((h.mem _).2 (List.getElem_mem hq))
  have h1 : lvs (m.free sl[q]) (sl.eraseIdx q) = lvs m (sl.eraseIdx q) := by
    unfold lvs
    refine List.map_congr_left fun i hi => ?_
    have := ((mem_erase h.nodup hq i).1 hi).2
    rw [genAt_free hil, if_neg this]
  rw [h1]
  unfold lvs
  rw [List.eraseIdx_eq_take_drop_succ, List.eraseIdx_eq_take_drop_succ]
  simp [List.map_take, List.map_drop]
theorem free_avs (h : Stale m k t sl gone) {q : Nat} (hq : q < sl.length) : avs (m.free sl[q]) (sl.eraseIdx q) = (avs m sl).eraseIdx q := by
  have hil := taken_lt ((h.mem _).2 (List.getElem_mem hq))
  have h1 : avs (m.free sl[q]) (sl.eraseIdx q) = avs m (sl.eraseIdx q) := by
    unfold avs
    refine List.map_congr_left fun i hi => ?_
    have := ((mem_erase h.nodup hq i).1 hi).2
    exact atOf_congr ((freeL hil).2 i this)
  rw [h1]
  unfold avs
  rw [List.eraseIdx_eq_take_drop_succ, List.eraseIdx_eq_take_drop_succ]
  simp [List.map_take, List.map_drop]
end Stale

theorem new_stale {n : Nat} (h1 : 1 ≤ n) (h2 : n ≤ 1048576) : Stale (Tab.new n) n 0 [] [] :=
  ⟨new_wf h1 h2, rfl, by simp, fun i => by simp [Tab.takenAt, Tab.new], by simp [Tab.count, Tab.new], fun i => by simp [Tab.genAt, Tab.new], by simp⟩

theorem ints_erase (l : List Nat) (k : Nat) : (ints l).eraseIdx k = ints (l.eraseIdx k) := by
  unfold ints
  rw [List.eraseIdx_eq_take_drop_succ, List.eraseIdx_eq_take_drop_succ]
  simp [List.map_take, List.map_drop]
theorem ints_snoc (l : List Nat) (n : Nat) : ints (l ++ [n]) = ints l ++ [.int .i64 (n : Int)] := by simp [ints]
theorem ints_len (l : List Nat) : (ints l).length = l.length := by simp [ints]

theorem IdxC.ints {L : List HP} {w : World} {e : TypeId} {p : Option Addr} {n c : Nat} {xs : List Nat} (hs : Sat L w) (i : Nat) (hi : L[i]? = some (Own e 1 p n c (ints xs))) {k : Nat} (hk : k < xs.length) {K : Addr → Prop}
    (h : ∀ a, w.cell? a = some (.int .i64 (xs[k] : Int)) → K a) : IdxC p n (k : Int) 1 K := by
  have hl := hs.own_len i hi
  rw [ints_len, Nat.mul_one] at hl
  obtain ⟨g, hg⟩ := hs.own_some i hi (by omega)
  refine IdxC.reads (hs.reads i hi) ⟨_, hg⟩ (by omega) (by omega) fun a hc => h a ?_
  have := hc 0 (.int .i64 (xs[k] : Int)) (by simpa using ints_get hk)
  simpa [Addr.add] using this

/-- a deed's four numbers. -/
theorem deed_at {W : World} {p : Option Addr} {l : Nat} {xs : List Value} (hz : ArgR W [.i64, .i64, .i64, .u64] p l xs) {j : Nat} (hj : j < l) :
    ∃ n0 n1 n2 n3 : Int, xs[j * 4]? = some (.int .i64 n0) ∧ xs[j * 4 + 1]? = some (.int .i64 n1) ∧ xs[j * 4 + 2]? = some (.int .i64 n2) ∧ xs[j * 4 + 3]? = some (.int .u64 n3) ∧ (Lit.int .i64 n0).wf = true ∧ (Lit.int .i64 n1).wf = true ∧ (Lit.int .i64 n2).wf = true ∧ (Lit.int .u64 n3).wf = true := by
  have h := hz.rows j hj
  simp only [List.length_cons, List.length_nil, Nat.zero_add] at h
  have hg : ∀ q, q < 4 → ((xs.drop (j * 4)).take 4)[q]? = xs[j * 4 + q]? := by
    intro q hq
    rw [List.getElem?_take_of_lt hq, List.getElem?_drop]
  generalize (xs.drop (j * 4)).take 4 = cs at h hg
  rcases cs with _ | ⟨v0, _ | ⟨v1, _ | ⟨v2, _ | ⟨v3, _ | ⟨v4, cs⟩⟩⟩⟩⟩ <;> simp only [Nums, and_false, and_true] at h
  obtain ⟨⟨n0, rfl, w0⟩, ⟨n1, rfl, w1⟩, ⟨n2, rfl, w2⟩, ⟨n3, rfl, w3⟩⟩ := h
  exact ⟨n0, n1, n2, n3, (hg 0 (by omega)).symm, (hg 1 (by omega)).symm, (hg 2 (by omega)).symm, (hg 3 (by omega)).symm, w0, w1, w2, w3⟩

theorem tmod_abs (n : Int) {l : Nat} (hl : 0 < l) : ∃ q : Nat, q < l ∧ (Int.tmod n l = q ∨ (Int.tmod n l = -q ∧ Int.tmod n l < 0)) := by
  refine ⟨(Int.tmod n l).natAbs, ?_, by omega⟩
  rw [Int.natAbs_tmod, Int.natAbs_natCast]
  exact Nat.mod_lt _ hl

/-! The walk. -/
abbrev SL (W : World) (b : Nat) (m : Tab) (sl gone : List Nat) (lp : Option Addr) (lc : Nat) (ap : Option Addr) (ac : Nat) (gp : Option Addr) (gc : Nat) : List HP :=
  [Own 25 1 lp sl.length lc (words (lvs m sl)), Own 3 1 ap sl.length ac (ints (avs m sl)), Own 25 1 gp gone.length gc (words gone), Tbl m b, Base W]

theorem stale_c (W : World) (n : Int) {p : Option Addr} {l c : Nat} {xs : List Value} (hz : ArgR W [.i64, .i64, .i64, .u64] p l xs) (hl : l ≤ 1048576) :
    Calls Try.prog 5 #[.slice p l c, .int .i64 n] W (Ret (.bool true) (Go.RowKit.Below W.heap.size W)) := by
  refine S_law8_HandleStale_ok _ _ _ _ _ _ ?_
  unfold S_law8_HandleStale
  refine (awake_c (Sat.ofBase W)).mono ?_
  rintro e w0 ⟨rfl, h0⟩
  refine ⟨_, rfl, cond_f rfl ?_⟩
  obtain ⟨x, hx, hxe⟩ := bAnd_le n 7 (by omega)
  have hxe' : bAnd .i64 n 7 = (x : Int) := hxe
  have hke : IntKind.wrap .i64 (1 + bAnd .i64 n 7) = ((x + 1 : Nat) : Int) := by rw [hxe', wrapI64 (by omega) (by omega)]; omega
  rw [hke]
  refine (fresh_c (n := x + 1) (by omega) (by omega) h0).mono ?_
  rintro e w1 ⟨b, rfl, h1⟩
  refine ⟨_, rfl, cond_f rfl ?_⟩
  refine ⟨fun lp ll lc ap al ac gp gl gc i w => ∃ (m : Tab) (sl gone : List Nat) (j : Nat), i = j ∧ j ≤ l ∧ ll = sl.length ∧ al = sl.length ∧ gl = gone.length ∧ gone.length ≤ j ∧ Stale m (x + 1) j sl gone ∧ Sat (SL W b m sl gone lp lc ap ac gp gc) w,
    fun _ _ _ _ _ _ _ _ _ i _ => (l - i).toNat, ⟨Tab.new (x + 1), [], [], 0, rfl, by omega, rfl, rfl, rfl, by simp, new_stale (by omega) (by omega), ?_⟩, ?_⟩
  · exact ((h1.ownNil 25 1).ownNil 3 1).ownNil 25 1
  rintro lp ll lc ap al ac gp gl gc i w2 ⟨m, sl, gone, j, rfl, hjl, rfl, rfl, rfl, hgl, hst, h2⟩
  unfold S_law8_HandleStale_l4
  by_cases hlt : j < l
  case neg => exact cond_f (by simp; omega) ⟨rfl, h2.below 4 rfl⟩
  refine cond_t (by simp; omega) ?_
  intro k0 hk0
  have hsl := hst.le
  -- on to the next deed
  have cont : ∀ (m : Tab) (sl gone : List Nat) lp lc ap ac gp gc w, gone.length ≤ j + 1 → Stale m (x + 1) (j + 1) sl gone → Sat (SL W b m sl gone lp lc ap ac gp gc) w → k0 lp sl.length lc ap sl.length ac gp gone.length gc w := by
    intro m sl gone lp lc ap ac gp gc w hg hs h
    refine hk0 _ _ _ _ _ _ _ _ _ _ ?_
    unfold S_law8_HandleStale_j2
    rw [wrapI64 (by omega) (by omega)]
    exact ⟨⟨m, sl, gone, j + 1, by omega, by omega, rfl, rfl, rfl, hg, hs, h⟩, by dsimp only; omega⟩
  -- what is read again
  have after : ∀ (m : Tab) (sl gone : List Nat) lp lc ap ac gp gc w, gone.length ≤ j + 1 → Stale m (x + 1) (j + 1) sl gone → Sat (SL W b m sl gone lp lc ap ac gp gc) w → S_law8_HandleStale_j1 (Ret (.bool true) (Go.RowKit.Below W.heap.size W)) (some ⟨b, 0, none⟩) k0 lp sl.length lc ap sl.length ac gp gone.length gc w := by
    intro m sl gone lp lc ap ac gp gc w hg hs h
    have hsl := hs.le
    unfold S_law8_HandleStale_j1
    refine ⟨fun i w => ∃ q : Nat, i = q ∧ q ≤ sl.length ∧ Sat (SL W b m sl gone lp lc ap ac gp gc) w, fun i _ => (sl.length - i).toNat, ⟨0, rfl, by omega, h⟩, ?_⟩
    clear h
    rintro i w ⟨q, rfl, hq, h⟩
    unfold S_law8_HandleStale_l3
    by_cases hql : q < sl.length
    · refine cond_t (by simp; omega) ?_
      refine IdxC.words h 0 rfl (k := q) (by rw [lvs_len]; exact hql) fun a hc => LdI.at hc ?_
      have e1 : (lvs m sl)[q]'(by rw [lvs_len]; exact hql) = hnd (m.genAt sl[q]) sl[q] := by simp [lvs]
      have hin : sl[q] ∈ sl := List.getElem_mem hql
      have h64 := hs.lt64 (by omega) (x := (lvs m sl)[q]'(by rw [lvs_len]; exact hql)) (.inl (List.getElem_mem _))
      have hf : m.find ((lvs m sl)[q]'(by rw [lvs_len]; exact hql)) = some sl[q] := by rw [e1]; exact hs.find_live hin
      refine (at_c (h.pull 3 rfl) h64).mono ?_
      rintro e w' ⟨rfl, rfl⟩
      rw [hf]
      refine ⟨_, _, rfl, cond_f rfl ?_⟩
      refine IdxC.ints h 1 rfl (k := q) (by rw [avs_len]; exact hql) fun a hc => LdI.at hc ?_
      refine cond_f (by simp [avs]) ?_
      rw [wrapI64 (by omega) (by omega)]
      exact ⟨⟨q + 1, by omega, by omega, h⟩, by dsimp only; omega⟩
    · refine cond_f (by simp; omega) ?_
      refine ⟨fun i w => ∃ q : Nat, i = q ∧ q ≤ gone.length ∧ Sat (SL W b m sl gone lp lc ap ac gp gc) w, fun i _ => (gone.length - i).toNat, ⟨0, rfl, by omega, h⟩, ?_⟩
      clear h
      rintro i w ⟨q, rfl, hq, h⟩
      unfold S_law8_HandleStale_l2
      by_cases hql : q < gone.length
      · refine cond_t (by simp; omega) ?_
        have hin : gone[q] ∈ gone := List.getElem_mem hql
        have h64 := hs.lt64 (by omega) (x := gone[q]) (.inr hin)
        have hf := hs.find_gone hin
        refine IdxC.words h 2 rfl hql fun a hc => LdI.at hc ?_
        refine (at_c (h.pull 3 rfl) h64).mono ?_
        rintro e w' ⟨rfl, rfl⟩
        rw [hf]
        refine ⟨_, _, rfl, cond_f rfl ?_⟩
        refine IdxC.words h 2 rfl hql fun a hc => LdI.at hc ?_
        refine (move_c (h.pull 3 rfl) h64 1 (by omega)).mono ?_
        rintro e w' (⟨_, rfl, rfl⟩ | ⟨i, hi, _⟩ | ⟨i, hi, _⟩)
        · refine ⟨_, rfl, cond_f rfl ?_⟩
          refine IdxC.words h 2 rfl hql fun a hc => LdI.at hc ?_
          refine (free_no (h.pull 3 rfl) h64 hf).mono ?_
          rintro e w' ⟨rfl, rfl⟩
          refine ⟨_, rfl, cond_f rfl ?_⟩
          rw [wrapI64 (by omega) (by omega)]
          exact ⟨⟨q + 1, by omega, by omega, h⟩, by dsimp only; omega⟩
        · rw [hf] at hi; cases hi
        · rw [hf] at hi; cases hi
      · exact cond_f (by simp; omega) (cont m sl gone lp lc ap ac gp gc w hg hs h)
  -- the deed is read
  obtain ⟨n0, n1, n2, n3, e0, e1, e2, e3, wf0, wf1, wf2, wf3⟩ := deed_at hz hlt
  refine IdxC.reads (h2.baseReads 4 rfl hz.reads) (hz.some (by omega)) (by omega) (by omega) fun a hca => ?_
  rw [Int.toNat_natCast] at hca
  refine LdI.at (n := n0) (by simpa [Addr.add] using hca 0 _ e0) ?_
  refine LdI.at (hca 1 _ e1) ?_
  refine LdI.at (hca 2 _ e2) ?_
  refine LdI.at (hca 3 _ e3) ?_
  refine NewC.ofRow h2 fun b0 w3 h3 => ?_
  simp only [add_mk, Nat.zero_add]
  refine StC.of h3 0 rfl (off := 0) rfl (by simp) fun w4 h4 => ?_
  refine StC.of h4 0 rfl (off := 1) rfl (by simp) fun w5 h5 => ?_
  refine StC.of h5 0 rfl (off := 2) rfl (by simp) fun w6 h6 => ?_
  refine StC.of h6 0 rfl (off := 3) rfl (by simp) fun w7 h7 => ?_
  clear h3 h4 h5 h6
  have h7 : Sat (Row b0 [.int .i64 n0, .int .i64 n1, .int .i64 n2, .int .u64 n3] 40 :: SL W b m sl gone lp lc ap ac gp gc) w7 := h7
  intro k1 hk1
  refine LdI.of h7 0 rfl (off := 0) rfl rfl ?_
  by_cases hdo : n0 ≤ 3
  · refine cond_t (by simpa using hdo) ?_
    rw [hxe']
    by_cases hfl : sl.length = x + 1
    · refine (make_full (h7.pull 4 rfl) (a := j) (by omega) (hst.full hfl)).mono ?_
      rintro e w8 ⟨rfl, h8⟩
      have h8 : Sat (Row b0 [.int .i64 n0, .int .i64 n1, .int .i64 n2, .int .u64 n3] 40 :: SL W b m sl gone lp lc ap ac gp gc) w8 := Sat.back 4 (A := Tbl m b) rfl h8
      refine ⟨_, _, rfl, cond_t (by simp; omega) (cond_f rfl (cond_f rfl ?_))⟩
      exact cont _ _ _ _ _ _ _ _ _ _ (by omega) hst.more h8.drop
    · have hlk : sl.length < x + 1 := by omega
      refine (make_ok (h7.pull 4 rfl) (a := j) (by omega) (hst.not_full hlk)).mono ?_
      rintro e w8 ⟨rfl, h8⟩
      have h8 : Sat [Row b0 [.int .i64 n0, .int .i64 n1, .int .i64 n2, .int .u64 n3] 40, Own 25 1 lp sl.length lc (words (lvs m sl)), Own 3 1 ap sl.length ac (ints (avs m sl)), Own 25 1 gp gone.length gc (words gone), Tbl (m.make j) b, Base W] w8 := Sat.back 4 (A := Tbl m b) rfl h8
      refine ⟨_, _, rfl, cond_f (by simp; omega) (cond_f rfl ?_)⟩
      obtain ⟨hf1, hf2⟩ := hst.fresh hlk
      have hm1 := hst.make hlk (a := j) (by omega)
      have hm2 := hst.make_lvs j
      have hm3 := hst.make_avs hlk j
      have hnz : hnd (m.genAt m.nextSlot) m.nextSlot ≠ 0 := by unfold hnd; omega
      generalize hnd (m.genAt m.nextSlot) m.nextSlot = nw at hf1 hf2 hm2 hnz ⊢
      refine cond_f (by simpa using hnz) ?_
      refine ⟨fun i w => ∃ q : Nat, i = q ∧ q ≤ sl.length ∧ Sat [Row b0 [.int .i64 n0, .int .i64 n1, .int .i64 n2, .int .u64 n3] 40, Own 25 1 lp sl.length lc (words (lvs m sl)), Own 3 1 ap sl.length ac (ints (avs m sl)), Own 25 1 gp gone.length gc (words gone), Tbl (m.make j) b, Base W] w, fun i _ => (sl.length - i).toNat, ⟨0, rfl, by omega, h8⟩, ?_⟩
      clear h8
      rintro i w ⟨q, rfl, hq, h⟩
      unfold S_law8_HandleStale_l1
      by_cases hql : q < sl.length
      · refine cond_t (by simp; omega) ?_
        refine IdxC.words h 1 rfl (k := q) (by rw [lvs_len]; exact hql) fun a hc => LdI.at hc ?_
        have hne := hf1 _ (List.getElem_mem (l := lvs m sl) (n := q) (by rw [lvs_len]; exact hql))
        refine cond_f (by simpa using fun h => hne (Int.ofNat.inj h)) ?_
        rw [wrapI64 (by omega) (by omega)]
        exact ⟨⟨q + 1, by omega, by omega, h⟩, by dsimp only; omega⟩
      refine cond_f (by simp; omega) ?_
      refine ⟨fun i w => ∃ q : Nat, i = q ∧ q ≤ gone.length ∧ Sat [Row b0 [.int .i64 n0, .int .i64 n1, .int .i64 n2, .int .u64 n3] 40, Own 25 1 lp sl.length lc (words (lvs m sl)), Own 3 1 ap sl.length ac (ints (avs m sl)), Own 25 1 gp gone.length gc (words gone), Tbl (m.make j) b, Base W] w, fun i _ => (gone.length - i).toNat, ⟨0, rfl, by omega, h⟩, ?_⟩
      clear h
      rintro i w ⟨q, rfl, hq, h⟩
      unfold S_law8_HandleStale_l0
      by_cases hql : q < gone.length
      · refine cond_t (by simp; omega) ?_
        refine IdxC.words h 3 rfl hql fun a hc => LdI.at hc ?_
        have hne := hf2 _ (List.getElem_mem hql)
        refine cond_f (by simpa using fun h => hne (Int.ofNat.inj h)) ?_
        rw [wrapI64 (by omega) (by omega)]
        exact ⟨⟨q + 1, by omega, by omega, h⟩, by dsimp only; omega⟩
      refine cond_f (by simp; omega) ?_
      refine RunS.one eok_u64 h 1 rfl (by rfl) (by rfl) (by omega) (by simp only [maxLen]; omega) fun p1 c1 w9 h9 => ?_
      refine RunS.one eok_int h9 2 rfl (by rfl) (by rfl) (by omega) (by simp only [maxLen]; omega) fun p2 c2 w10 h10 => ?_
      have e1 : words (lvs m sl) ++ [Value.int .u64 (nw : Int)] = words (lvs (m.make j) (sl ++ [m.nextSlot])) := by rw [hm2, words_snoc]
      have e2 : ints (avs m sl) ++ [Value.int .i64 (j : Int)] = ints (avs (m.make j) (sl ++ [m.nextSlot])) := by rw [hm3, ints_snoc]
      have e3 : sl.length + 1 = (sl ++ [m.nextSlot]).length := by simp
      refine hk1 _ _ _ _ _ _ _ _ _ _ ?_
      have h10 : Sat (Row b0 [.int .i64 n0, .int .i64 n1, .int .i64 n2, .int .u64 n3] 40 :: SL W b (m.make j) (sl ++ [m.nextSlot]) gone p1 c1 p2 c2 gp gc) w10 := by
        unfold SL
        rw [← e1, ← e2, ← e3]
        exact h10
      rw [e3]
      exact after _ _ _ _ _ _ _ _ _ _ (by omega) hm1.more h10.drop
  · refine cond_f (by simpa using hdo) ?_
    by_cases hl0 : 0 < sl.length
    · refine cond_t (by simp; omega) ?_
      refine LdI.of h7 0 rfl (off := 1) rfl rfl ?_
      refine ⟨by omega, ?_⟩
      intro k4 hk4
      have pick : ∀ q : Nat, q < sl.length → k4 (q : Int) w7 := by
        intro q hq
        refine hk4 _ _ ?_
        unfold S_law8_HandleStale_j0
        have e1 : (lvs m sl)[q]'(by rw [lvs_len]; exact hq) = hnd (m.genAt sl[q]) sl[q] := by simp [lvs]
        have hin : sl[q] ∈ sl := List.getElem_mem hq
        have h64 := hst.lt64 (by omega) (x := (lvs m sl)[q]'(by rw [lvs_len]; exact hq)) (.inl (List.getElem_mem _))
        have hf : m.find ((lvs m sl)[q]'(by rw [lvs_len]; exact hq)) = some sl[q] := by rw [e1]; exact hst.find_live hin
        have hgen := hst.gens sl[q]
        have hm1 := hst.free (by omega) hq
        have hm2 := hst.free_lvs hq
        have hm3 := hst.free_avs hq
        rw [← e1] at hm1
        refine IdxC.words h7 1 rfl (k := q) (by rw [lvs_len]; exact hq) fun a hc => LdI.at hc ?_
        refine (free_c (h7.pull 4 rfl) h64 hf (by omega)).mono ?_
        rintro e w8 ⟨rfl, h8⟩
        have h8 : Sat [Row b0 [.int .i64 n0, .int .i64 n1, .int .i64 n2, .int .u64 n3] 40, Own 25 1 lp sl.length lc (words (lvs m sl)), Own 3 1 ap sl.length ac (ints (avs m sl)), Own 25 1 gp gone.length gc (words gone), Tbl (m.free sl[q]) b, Base W] w8 := Sat.back 4 (A := Tbl m b) rfl h8
        refine ⟨_, rfl, cond_f rfl ?_⟩
        refine IdxC.words h8 1 rfl (k := q) (by rw [lvs_len]; exact hq) fun a hc => LdI.at hc ?_
        generalize hnw : (lvs m sl)[q]'(by rw [lvs_len]; exact hq) = nw at hm1 ⊢
        clear hnw h64 hf e1
        refine RunS.one eok_u64 h8 3 rfl (by rfl) (by rfl) (by omega) (by simp only [maxLen]; omega) fun p1 c1 w9 h9 => ?_
        refine RunS.erase (w := w9.drew) eok_u64 h9.drew 1 rfl hq (by omega) (by simp only [maxLen]; omega) rfl (by rw [wrapI64 (by omega) (by omega)]; omega) fun p2 c2 w10 h10 => ?_
        refine RunS.erase (w := w10.drew) eok_int h10.drew 2 rfl hq (by omega) (by simp only [maxLen]; omega) rfl (by rw [wrapI64 (by omega) (by omega)]; omega) fun p3 c3 w11 h11 => ?_
        have e1 : (words (lvs m sl)).eraseIdx q = words (lvs (m.free sl[q]) (sl.eraseIdx q)) := by rw [words_erase, hm2]
        have e2 : (ints (avs m sl)).eraseIdx q = ints (avs (m.free sl[q]) (sl.eraseIdx q)) := by rw [ints_erase, hm3]
        have e3 : sl.length - 1 = (sl.eraseIdx q).length := (List.length_eraseIdx_of_lt hq).symm
        have e4 : words gone ++ [Value.int .u64 (nw : Int)] = words (gone ++ [nw]) := (words_snoc _ _).symm
        have e5 : gone.length + 1 = (gone ++ [nw]).length := by simp
        have h11 : Sat (Row b0 [.int .i64 n0, .int .i64 n1, .int .i64 n2, .int .u64 n3] 40 :: SL W b (m.free sl[q]) (sl.eraseIdx q) (gone ++ [nw]) p2 c2 p3 c3 p1 c1) w11 := by
          unfold SL
          rw [← e1, ← e2, ← e3, ← e4, ← e5]
          exact h11
        refine hk1 _ _ _ _ _ _ _ _ _ _ ?_
        rw [e3, e5]
        exact after _ _ _ _ _ _ _ _ _ _ (by simp; omega) hm1 h11.drop
      obtain ⟨q, hq, hqe⟩ := tmod_abs n1 hl0
      rcases hqe with hqe | ⟨hqe, hneg⟩
      · rw [hqe]
        exact cond_f (by simp) (pick q hq)
      · refine cond_t (by simpa using hneg) ?_
        rw [hqe, wrapI64 (by omega) (by omega)]
        have : (0 : Int) - -(q : Int) = q := by omega
        rw [this]
        exact pick q hq
    · refine cond_f (decide_eq_false (by omega)) ?_
      refine hk1 _ _ _ _ _ _ _ _ _ _ ?_
      exact after _ _ _ _ _ _ _ _ _ _ (by omega) hst.more h7.drop

/-! The bulk of what is read. -/
theorem bulk_pos {H : Type} (d : DataW H) : 1 ≤ Rows.uptoBulk d := by
  cases d with
  | lit l => cases l <;> simp [Rows.uptoBulk]
  | _ => simp [Rows.uptoBulk]
theorem bulkAll_len {H : Type} : ∀ ds : List (DataW H), ds.length ≤ Rows.uptoBulkAll ds
  | [] => by simp
  | d :: r => by
    have h1 := bulk_pos d
    have h2 := bulkAll_len r
    simp only [Rows.uptoBulkAll, List.length_cons]
    omega
theorem bulkAll_mem {H : Type} : ∀ (ds : List (DataW H)) (d : DataW H), d ∈ ds → Rows.uptoBulk d ≤ Rows.uptoBulkAll ds
  | [], _, h => by cases h
  | e :: r, d, h => by
    simp only [Rows.uptoBulkAll]
    rcases List.mem_cons.1 h with rfl | h
    · omega
    · have := bulkAll_mem r d h
      omega
theorem small_slice {H : Type} {ds elems spare : List (DataW H)} (h : Rows.uptoSmall H ds = true) (hm : .slice elems spare ∈ ds) : elems.length ≤ 1048576 := by
  have h1 : Rows.uptoBulkAll ds ≤ 1048576 := of_decide_eq_true h
  have h2 := bulkAll_mem ds _ hm
  have h3 := bulkAll_len elems
  simp only [Rows.uptoBulk] at h2
  omega

set_option maxRecDepth 100000 in
theorem stale_lifted (os : Os) (started : os.Started) (H : Type) (enc : TypeId × Value → H) (F : Stop.Interp) :
    ReturnsInHanded {} Try.checked os 5 .any ((Rows.OpenSpec.upto Rows.handleStaleSpec).pre6 enc Try.prog Try.f5 Rows.handleStaleUptoRow.domain false) (((Rows.OpenSpec.upto Rows.handleStaleSpec).at F).post enc Try.prog Try.f5 false true false false) := by
  refine returnsInHanded_of_cond (C := Try.checked) (s := Rows.OpenSpec.upto Rows.handleStaleSpec) (k := Rows.uptoSmall) rfl own started (by kernel_rfl) Try.func5
    (OpenSpec.witness (enc := enc) (C := Try.checked) (s := Rows.OpenSpec.upto Rows.handleStaleSpec) (k := Rows.uptoSmall) rfl false ⟨#[], #[.slice none 0 0, .int .i64 0], []⟩ 8 (by kernel_rfl) (by kernel_rfl) (by kernel_rfl)
      (x := ([.nil, .lit (.int .i64 0)], [], [])) (by kernel_rfl) rfl (by kernel_rfl)) ?_
  intro W base args ds gs before hval hW hcnd hsm _
  have hval : ∀ (j : Nat) t v, Try.f5.params[j]? = some t → args[j]? = some v → Value.okWide Try.prog W .any base t v := hval
  have hW : DataW.Whole enc Try.prog Try.f5.params.toList Rows.handleStaleSpec.vars false W args.toList ds gs before := hW
  have hW' := hW
  obtain ⟨p, q, hA, hV, _⟩ := hW'
  rw [Try.params5] at hA hval
  obtain ⟨v0, v1, d0, d1, p0, p1, rfl, rfl, rfl, h0, h1⟩ := trodAll_two hA
  obtain ⟨a1, l1, c1, rfl⟩ := okWide_slice Try.underlying37 (hval 0 37 v0 rfl rfl)
  obtain ⟨n, rfl, rfl, rfl, wn⟩ := open_int Try.underlying3 (hval 1 3 v1 rfl rfl) h1
  obtain ⟨⟨xs, hz⟩, hbk⟩ := argRows (ks := [.i64, .i64, .i64, .u64]) Try.underlying37 Try.underlying40 (by kernel_rfl) (by kernel_rfl) (by kernel_rfl) h0
  have hl : l1 ≤ 1048576 := by
    rcases hbk with rfl | ⟨elems, spare, rfl, rfl⟩
    · omega
    · exact small_slice (spare := spare) hsm (by simp)
  refine (stale_c W n hz hl).mono fun e W' ⟨he, hs⟩ => ?_
  exact ⟨_, he, law_post (s := Rows.handleStaleSpec) (tb := 4) laidOut (by decide +kernel) (by kernel_rfl) Try.underlying4 rfl hW ⟨rfl, rfl, rfl⟩ hs⟩

theorem stale_holds : Rows.HandleStaleUptoSaid :=
  OpenClaim.holds_of_cond 5 Try.f5 rfl rfl rfl rfl rfl rfl rfl ⟨rfl, rfl, rfl, rfl, rfl⟩ rfl rfl rfl rfl rfl (by kernel_rfl) Try.func5 (by kernel_rfl)
    (of_decide_eq_true (by kernel_rfl)) (by unfold Func.isWrapper; first | (rw [if_pos (by decide +kernel)]; kernel_rfl) | (rw [if_neg (by decide +kernel)]; exact ⟨rfl, rfl⟩))
    (fun os started H enc _ F => stale_lifted os started H enc F)
end Go.Proofs.Ytakcnpmmkpfhnaa
