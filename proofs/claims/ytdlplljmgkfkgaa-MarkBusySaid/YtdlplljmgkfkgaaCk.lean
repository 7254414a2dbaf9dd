
/- What 'Live' and 'Check' come to. -/
import Derived.Test.YtdlplljmgkfkgaaWk
import Derived.Test.YtdlplljmgkfkgaaHB
set_option maxRecDepth 100000
namespace Go.Hm
open Go Go.Lw Go.Wd Go.Am Go.Tb
/-- how many words an object takes. -/
def sz (H : Hp) (x : Nat) : Nat := match H.look x with | some o => o.w.length + 1 | none => 1
def wordsOf (H : Hp) (l : List Nat) : Nat := (l.map (sz H)).foldl (· + ·) 0
theorem foldl_add (l : List Nat) (a : Nat) : l.foldl (· + ·) a = a + l.foldl (· + ·) 0 := by
  induction l generalizing a with
  | nil => rfl
  | cons x l ih => rw [List.foldl_cons, ih, List.foldl_cons, ih (0 + x)]; omega
theorem wordsOf_snoc (H : Hp) (l : List Nat) (x : Nat) : wordsOf H (l ++ [x]) = wordsOf H l + sz H x := by simp [wordsOf]
theorem wordsOf_le {H : Hp} (hm : H.WF) (l : List Nat) : wordsOf H l ≤ 8192 * l.length := by
  induction l with
  | nil => simp [wordsOf]
  | cons x l ih =>
    have : sz H x ≤ 8192 := by
      unfold sz
      cases h : H.look x with
      | none => simp
      | some o => have := (look_ok hm h).size; simp only; omega
    unfold wordsOf at ih ⊢
    rw [List.map_cons, List.foldl_cons, foldl_add, List.length_cons]
    omega
/-- what is stored is live. -/
structure Hp.Closed (H : Hp) : Prop where
  roots : ∀ x ∈ H.roots, H.may x = true
  refs : ∀ x, ∀ y ∈ refsOf H x, H.may y = true
theorem live_mem {t : Tab} (h : t.WF) {x : Nat} (hx : x ∈ t.live) : ∃ i, t.find x = some i := by
  unfold Tab.live at hx
  obtain ⟨i, hi, h1⟩ := List.mem_filterMap.1 hx
  have hin := List.mem_range.1 hi
  have hmo := h.most
  split at h1
  · rename_i ht
    cases h1
    unfold Tab.takenAt at ht
    cases hs : t.L[i]? with
    | none => rw [hs] at ht; cases ht
    | some s =>
      rw [hs] at ht
      exact ⟨i, find_of (by omega) hs ht (genAt_of hs).symm⟩
  · cases h1
theorem live_len (t : Tab) : t.live.length ≤ t.n := by rw [live_eq]; exact liveTo_len t _
theorem live_u64 {t : Tab} (h : t.WF) {x : Nat} (hx : x ∈ t.live) : x < 18446744073709551616 := by
  obtain ⟨i, hi⟩ := live_mem h hx
  obtain ⟨h1, s, h2, h3, h4⟩ := tfind_iff.1 hi
  have := h.gen _ _ h2
  omega
/-! Places of objects, one behind the other. -/
theorem findL_pos : ∀ {l : List Ob} {k j : Nat} {o : Ob}, l[j]? = some o → findL k l (k + osz (l.take j)) = some o
  | [], _, _, _, h => by simp at h
  | p :: l, k, 0, o, h => by simp at h; subst h; simp [findL, osz]
  | p :: l, k, j + 1, o, h => by
    simp only [List.getElem?_cons_succ] at h
    simp only [findL, List.take_succ_cons, osz]
    rw [if_neg (by omega)]
    have := findL_pos (k := k + 1 + p.w.length) h
    rw [show k + (1 + p.w.length + osz (l.take j)) = k + 1 + p.w.length + osz (l.take j) by omega]
    exact this
theorem osz_take_succ : ∀ {l : List Ob} {j : Nat} {o : Ob}, l[j]? = some o → osz (l.take (j + 1)) = osz (l.take j) + 1 + o.w.length
  | [], _, _, h => by simp at h
  | p :: l, 0, o, h => by simp at h; subst h; simp [osz]
  | p :: l, j + 1, o, h => by
    simp only [List.getElem?_cons_succ] at h
    have := osz_take_succ h
    simp only [List.take_succ_cons, osz] at this ⊢
    omega
end Go.Hm
namespace Go.Proofs.Ytdlplljmgkfkgaa
open Go Go.Lw Go.Wd Go.Am Go.Tb Go.Hm
section
variable {H : Hp} {v : Value} {b : Nat} {F : List HP} {w : World}
end
end Go.Proofs.Ytdlplljmgkfkgaa
