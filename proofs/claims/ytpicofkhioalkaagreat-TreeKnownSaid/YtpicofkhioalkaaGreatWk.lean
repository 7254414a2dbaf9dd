
/- What is reached in a heap, as it is met (data); and what 'walk' and 'Live' come to. -/
import Derived.Test.YtpicofkhioalkaaGreatHc
import Derived.Test.YtpicofkhioalkaaGreatLx
set_option maxRecDepth 100000
namespace Go.Hm
open Go Go.Lw Go.Wd Go.Am Go.Tb

/-! Places in a list. -/
/-! What is reached. -/
def meet (H : Hp) (l : List Nat) (y : Nat) : List Nat := if (H.look y).isSome ∧ y ∉ l then l ++ [y] else l
def meets (H : Hp) (l ys : List Nat) : List Nat := ys.foldl (meet H) l
def refsOf (H : Hp) (x : Nat) : List Nat := match H.look x with | some o => o.w.take o.refs | none => []
def walkStep (H : Hp) (i : Nat) (l : List Nat) : List Nat := match l[i]? with | some x => meets H l (refsOf H x) | none => l
def walkTo (H : Hp) : Nat → List Nat
  | 0 => meets H [] H.roots
  | k + 1 => walkStep H k (walkTo H k)
/-- the handles that are reached, as they are met. -/
def order (H : Hp) : List Nat := walkTo H H.t.n

variable {H : Hp}
structure Met (H : Hp) (l : List Nat) : Prop where
  nd : l.Nodup
  live : ∀ y ∈ l, (H.look y).isSome = true
theorem Met.meet {l : List Nat} (h : Met H l) (y : Nat) : Met H (meet H l y) := by
  unfold Hm.meet
  split
  · rename_i c
    refine ⟨List.nodup_append.2 ⟨h.nd, by simp, fun a ha b hb => ?_⟩, fun x hx => ?_⟩
    · simp only [List.mem_singleton] at hb
      subst hb
      exact fun e => c.2 (e ▸ ha)
    · rcases List.mem_append.1 hx with hx | hx
      · exact h.live x hx
      · simp only [List.mem_singleton] at hx; subst hx; exact c.1
  · exact h
theorem Met.meets {l : List Nat} (h : Met H l) : ∀ ys, Met H (meets H l ys) := by
  intro ys
  induction ys generalizing l with
  | nil => exact h
  | cons y ys ih => exact ih (h.meet y)
theorem Met.len {l : List Nat} (h : Met H l) (hm : H.WF) : l.length ≤ H.t.n := by
  have hf : ∀ y ∈ l, ∃ i, H.t.find y = some i ∧ i < H.t.n := fun y hy => by
    have h1 := h.live y hy
    cases hl : H.look y with
    | none => rw [hl] at h1; cases h1
    | some o =>
      obtain ⟨a, _⟩ := look_some hm hl
      obtain ⟨_, s, b, _⟩ := tfind_iff.1 a
      have := get_lt b
      have := hm.tab.len
      exact ⟨_, a, by omega⟩
  have hg : ∀ y ∈ l, ∃ i, i < H.t.n ∧ y % 4294967296 = i + 1 ∧ H.t.find y = some i := fun y hy => by
    obtain ⟨i, a, b⟩ := hf y hy
    exact ⟨i, b, (tfind_iff.1 a).1, a⟩
  have := nodup_bound (n := H.t.n) (l := l.map fun y => y % 4294967296 - 1) ?_ ?_
  · simpa using this
  · unfold List.Nodup
    rw [List.pairwise_map]
    refine List.Pairwise.imp_of_mem (fun {a b} ha hb hne hh => ?_) h.nd
    obtain ⟨i, _, e1, f1⟩ := hg a ha
    obtain ⟨j, _, e2, f2⟩ := hg b hb
    have hij : i = j := by omega
    subst hij
    exact hne (tfind_inj f1 f2)
  · intro i hi
    obtain ⟨y, hy, rfl⟩ := List.mem_map.1 hi
    obtain ⟨j, a, b, _⟩ := hg y hy
    omega
/-! A map of words to places. -/
section
variable {P : Program} {t kt et : TypeId} {L : List HP} {w : World} {r : Nat} {l : List Nat}
end
end Go.Hm
namespace Go.Proofs.YtpicofkhioalkaaGreat
open Go Go.Lw Go.Wd Go.Am Go.Tb Go.Hm

section
variable {H : Hp} {v : Value} {b : Nat} {F : List HP} {w : World}
end
end Go.Proofs.YtpicofkhioalkaaGreat
