
/- Two heaps of one shape have one graph: handles and places tell nothing. -/
import Derived.Test.YtagnepjmgkoboaaDf
set_option maxRecDepth 100000
namespace Go.Proofs.Ytagnepjmgkoboaa
open Go Go.Lw Go.Wd Go.Am Go.Tb Go.Hm

/-! The plain law. An object by its number: its tag, what it holds by numbers, its words. -/
structure Sh where
  tag : Nat
  refs : List (Option Nat)
  words : List Nat
def toH (fx : Nat → Nat) : Option Nat → Nat
  | none => 0
  | some j => fx j
structure Shp (n : Nat) (fx : Nat → Nat) (H : Hp) (G : Nat → Sh) (rs : List (Option Nat)) : Prop where
  inj : ∀ i j, i < n → j < n → fx i = fx j → i = j
  ob : ∀ i, i < n → ∃ o, H.look (fx i) = some o ∧ o.tag = (G i).tag ∧ o.w.take o.refs = (G i).refs.map (toH fx) ∧ o.w.drop o.refs = (G i).words
  links : ∀ i, i < n → ∀ j, some j ∈ (G i).refs → j < n
  roots : H.roots = rs.map (toH fx)
  rlinks : ∀ j, some j ∈ rs → j < n
def gmeet (l : List Nat) (y : Option Nat) : List Nat := match y with | none => l | some j => if j ∈ l then l else l ++ [j]
def gwalk (G : Nat → Sh) (rs : List (Option Nat)) : Nat → List Nat
  | 0 => rs.foldl gmeet []
  | k + 1 => match (gwalk G rs k)[k]? with | some j => (G j).refs.foldl gmeet (gwalk G rs k) | none => gwalk G rs k
def gnum (l : List Nat) (y : Option Nat) : Int := match y with | none => -1 | some j => numI l j
section
variable {n : Nat} {fx : Nat → Nat} {H : Hp} {G : Nat → Sh} {rs : List (Option Nat)}
theorem map_mem (h : Shp n fx H G rs) {l : List Nat} (hl : ∀ j ∈ l, j < n) {j : Nat} (hj : j < n) : fx j ∈ l.map fx ↔ j ∈ l := by
  constructor
  · intro hh
    obtain ⟨i, hi, e⟩ := List.mem_map.1 hh
    rw [← h.inj i j (hl i hi) hj e]
    exact hi
  · exact fun hh => List.mem_map_of_mem hh
theorem shp_meet (hm : H.WF) (h : Shp n fx H G rs) {l : List Nat} (hl : ∀ j ∈ l, j < n) {y : Option Nat} (hy : ∀ j, y = some j → j < n) : meet H (l.map fx) (toH fx y) = (gmeet l y).map fx ∧ ∀ j ∈ gmeet l y, j < n := by
  cases y with
  | none =>
    unfold meet gmeet toH
    rw [look_zero hm]
    exact ⟨by simp, hl⟩
  | some j =>
    have hj := hy j rfl
    obtain ⟨o, ho, _⟩ := h.ob j hj
    have hs : (H.look (fx j)).isSome = true := by rw [ho]; rfl
    show (if (H.look (fx j)).isSome = true ∧ fx j ∉ l.map fx then l.map fx ++ [fx j] else l.map fx) = (if j ∈ l then l else l ++ [j]).map fx ∧ ∀ i ∈ (if j ∈ l then l else l ++ [j]), i < n
    by_cases hjl : j ∈ l
    · rw [if_pos hjl, if_neg (fun hh => hh.2 ((map_mem h hl hj).2 hjl))]
      exact ⟨rfl, hl⟩
    · rw [if_neg hjl, if_pos ⟨hs, fun hh => hjl ((map_mem h hl hj).1 hh)⟩]
      refine ⟨by simp, fun i hi => ?_⟩
      rcases List.mem_append.1 hi with a | a
      · exact hl i a
      · simp only [List.mem_singleton] at a; rw [a]; exact hj
theorem shp_meets (hm : H.WF) (h : Shp n fx H G rs) : ∀ (ys : List (Option Nat)) (l : List Nat), (∀ j ∈ l, j < n) → (∀ j, some j ∈ ys → j < n) → meets H (l.map fx) (ys.map (toH fx)) = (ys.foldl gmeet l).map fx ∧ ∀ j ∈ ys.foldl gmeet l, j < n
  | [], l, hl, _ => ⟨rfl, hl⟩
  | y :: ys, l, hl, hy => by
    obtain ⟨h1, h2⟩ := shp_meet hm h hl (y := y) (fun j e => hy j (by rw [e]; simp))
    obtain ⟨h3, h4⟩ := shp_meets hm h ys (gmeet l y) h2 (fun j hj => hy j (List.mem_cons_of_mem _ hj))
    refine ⟨?_, h4⟩
    unfold meets at h3 ⊢
    rw [List.map_cons, List.foldl_cons, h1, h3, List.foldl_cons]
theorem shp_refs (h : Shp n fx H G rs) {i : Nat} (hi : i < n) : refsOf H (fx i) = (G i).refs.map (toH fx) := by
  obtain ⟨o, ho, _, h2, _⟩ := h.ob i hi
  unfold refsOf
  rw [ho]
  exact h2
theorem shp_walk (hm : H.WF) (h : Shp n fx H G rs) : ∀ k, walkTo H k = (gwalk G rs k).map fx ∧ ∀ j ∈ gwalk G rs k, j < n
  | 0 => by
    unfold walkTo gwalk
    rw [h.roots]
    exact shp_meets hm h rs [] (fun _ hh => by cases hh) h.rlinks
  | k + 1 => by
    obtain ⟨h1, h2⟩ := shp_walk hm h k
    unfold walkTo gwalk walkStep
    rw [h1, List.getElem?_map]
    cases hg : (gwalk G rs k)[k]? with
    | none => exact ⟨rfl, h2⟩
    | some j =>
      have hj := h2 j (List.mem_of_getElem? hg)
      dsimp only [Option.map_some]
      rw [shp_refs h hj]
      exact shp_meets hm h _ _ h2 (h.links j hj)
theorem numAt_map (h : Shp n fx H G rs) : ∀ (l : List Nat) (k : Nat) {j : Nat}, (∀ i ∈ l, i < n) → j < n → numAt (l.map fx) k (fx j) = numAt l k j
  | [], _, _, _, _ => rfl
  | i :: l, k, j, hl, hj => by
    simp only [List.map_cons, numAt]
    have ih := numAt_map h l (k + 1) (j := j) (fun i hi => hl i (List.mem_cons_of_mem _ hi)) hj
    by_cases e : j = i
    · rw [e, if_pos rfl, if_pos rfl]
    · rw [if_neg e, if_neg (fun hh => e (h.inj j i hj (hl i (by simp)) hh)), ih]
theorem shp_num (hm : H.WF) (h : Shp n fx H G rs) {l : List Nat} (hl : ∀ j ∈ l, j < n) {y : Option Nat} (hy : ∀ j, y = some j → j < n) : numI (l.map fx) (toH fx y) = gnum l y := by
  cases y with
  | none =>
    have : (0 : Nat) ∉ l.map fx := fun hh => by
      obtain ⟨i, hi, e⟩ := List.mem_map.1 hh
      obtain ⟨o, ho, _⟩ := h.ob i (hl i hi)
      rw [e, look_zero hm] at ho
      cases ho
    exact numI_none this
  | some j =>
    unfold gnum toH numI num
    rw [numAt_map h l 0 hl (hy j rfl)]
theorem shp_graph (hm : H.WF) (h : Shp n fx H G rs) : graphR H = rs.map (gnum (gwalk G rs H.t.n)) ∧ graphN H = (gwalk G rs H.t.n).map fun i => ⟨(G i).tag, (G i).refs.map (gnum (gwalk G rs H.t.n)), (G i).words⟩ := by
  obtain ⟨h1, h2⟩ := shp_walk hm h H.t.n
  unfold graphR graphN order
  rw [h1]
  generalize gwalk G rs H.t.n = l at h2
  constructor
  · rw [h.roots, List.map_map]
    apply List.map_congr_left
    intro y hy
    exact shp_num hm h h2 (fun j e => h.rlinks j (by rw [← e]; exact hy))
  · rw [List.map_map]
    apply List.map_congr_left
    intro i hi
    have hin := h2 i hi
    obtain ⟨o, ho, g1, g2, g3⟩ := h.ob i hin
    dsimp only [Function.comp]
    unfold nodeOf
    rw [ho]
    dsimp only
    rw [g1, g2, g3, List.map_map]
    congr 1
    apply List.map_congr_left
    intro y hy
    exact shp_num hm h h2 (fun j e => h.links i hin j (by rw [← e]; exact hy))
end
end Go.Proofs.Ytagnepjmgkoboaa
