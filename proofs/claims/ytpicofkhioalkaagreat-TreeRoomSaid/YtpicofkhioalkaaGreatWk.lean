
/- What is reached in a heap, as it is met (data); and what 'walk' and 'Live' come to. -/
import Derived.Test.YtpicofkhioalkaaGreatHc
import Derived.Test.YtpicofkhioalkaaGreatLx
set_option maxRecDepth 100000
namespace Go.Hm
open Go Go.Lw Go.Wd Go.Am Go.Tb

/-! Places in a list. -/
/-! What is reached. -/
def meet (H : Hp) (l : List Nat) (y : Nat) : List Nat := if (H.look y).isSome ∧ y ∉ l then l ++ [y] else l
def meets (H : Hp) (l ys : List Nat) : List Nat := ys.foldl (meet H) l
def refsOf (H : Hp) (x : Nat) : List Nat := match H.look x with | some o => o.w.take o.refs | none => []
def walkStep (H : Hp) (i : Nat) (l : List Nat) : List Nat := match l[i]? with | some x => meets H l (refsOf H x) | none => l
def walkTo (H : Hp) : Nat → List Nat
  | 0 => meets H [] H.roots
  | k + 1 => walkStep H k (walkTo H k)
/-- the handles that are reached, as they are met. -/
def order (H : Hp) : List Nat := walkTo H H.t.n

variable {H : Hp}
structure Met (H : Hp) (l : List Nat) : Prop where
  nd : l.Nodup
  live : ∀ y ∈ l, (H.look y).isSome = true
theorem Met.meet {l : List Nat} (h : Met H l) (y : Nat) : Met H (meet H l y) := by
  unfold Hm.meet
  split
  · rename_i c
    refine ⟨List.nodup_append.2 ⟨h.nd, by simp, fun a ha b hb => ?_⟩, fun x hx => ?_⟩
    · simp only [List.mem_singleton] at hb
      subst hb
      exact fun e => c.2 (e ▸ ha)
    · rcases List.mem_append.1 hx with hx | hx
      · exact h.live x hx
      · simp only [List.mem_singleton] at hx; subst hx; exact c.1
  · exact h
theorem Met.meets {l : List Nat} (h : Met H l) : ∀ ys, Met H (meets H l ys) := by
  intro ys
  induction ys generalizing l with
  | nil => exact h
  | cons y ys ih => exact ih (h.meet y)
theorem met_walk (H : Hp) : ∀ k, Met H (walkTo H k) := by
  intro k
  induction k with
  | zero => exact Met.meets ⟨List.nodup_nil, fun _ h => by cases h⟩ _
  | succ k h =>
    show Met H (walkStep H k (walkTo H k))
    unfold walkStep
    split
    · exact h.meets _
    · exact h
theorem Met.len {l : List Nat} (h : Met H l) (hm : H.WF) : l.length ≤ H.t.n := by
  have hf : ∀ y ∈ l, ∃ i, H.t.find y = some i ∧ i < H.t.n := fun y hy => by
    have h1 := h.live y hy
    cases hl : H.look y with
    | none => rw [hl] at h1; cases h1
    | some o =>
      obtain ⟨a, _⟩ := look_some hm hl
      obtain ⟨_, s, b, _⟩ := tfind_iff.1 a
      have := get_lt b
      have := hm.tab.len
      exact ⟨_, a, by omega⟩
  have hg : ∀ y ∈ l, ∃ i, i < H.t.n ∧ y % 4294967296 = i + 1 ∧ H.t.find y = some i := fun y hy => by
    obtain ⟨i, a, b⟩ := hf y hy
    exact ⟨i, b, (tfind_iff.1 a).1, a⟩
  have := nodup_bound (n := H.t.n) (l := l.map fun y => y % 4294967296 - 1) ?_ ?_
  · simpa using this
  · unfold List.Nodup
    rw [List.pairwise_map]
    refine List.Pairwise.imp_of_mem (fun {a b} ha hb hne hh => ?_) h.nd
    obtain ⟨i, _, e1, f1⟩ := hg a ha
    obtain ⟨j, _, e2, f2⟩ := hg b hb
    have hij : i = j := by omega
    subst hij
    exact hne (tfind_inj f1 f2)
  · intro i hi
    obtain ⟨y, hy, rfl⟩ := List.mem_map.1 hi
    obtain ⟨j, a, b, _⟩ := hg y hy
    omega
theorem meet_pre (l : List Nat) (y : Nat) : l <+: meet H l y := by
  unfold meet; split
  · exact ⟨[y], rfl⟩
  · exact List.prefix_refl _
theorem meets_pre : ∀ (ys l : List Nat), l <+: meets H l ys
  | [], l => List.prefix_refl _
  | y :: ys, l => (meet_pre l y).trans (meets_pre ys (meet H l y))
theorem walk_pre (k : Nat) : walkTo H k <+: walkTo H (k + 1) := by
  show walkTo H k <+: walkStep H k (walkTo H k)
  unfold walkStep; split
  · exact meets_pre _ _
  · exact List.prefix_refl _
theorem walk_fix {k : Nat} (h : (walkTo H k).length ≤ k) : ∀ j, walkTo H (k + j) = walkTo H k
  | 0 => rfl
  | j + 1 => by
    show walkStep H (k + j) (walkTo H (k + j)) = walkTo H k
    rw [walk_fix h j]
    unfold walkStep
    rw [List.getElem?_eq_none (by omega)]
theorem order_met : Met H (order H) := met_walk _ _
theorem order_look {y : Nat} (h : y ∈ order H) : ∃ o, H.look y = some o := by
  have := order_met.live y h
  exact Option.isSome_iff_exists.1 this

/-! A map of words to places. -/
section
variable {P : Program} {t kt et : TypeId} {L : List HP} {w : World} {r : Nat} {l : List Nat}
theorem getM {es : Array MapEntry} {clock : Nat} (hb : w.heap[r]? = some (.map es clock)) : (getObj r).run P w = .ok (.map es clock) w := by
  simp [getObj, Sem.run, hb]
theorem setM {es : Array MapEntry} {clock : Nat} (o : Obj) (hb : w.heap[r]? = some (.map es clock)) : (setObj r o).run P w = .ok () { w with heap := w.heap.setIfInBounds r o } := by
  simp [setObj, Sem.run, hb]
theorem updMap {o : Obj} (hs : Sat L w) (i : Nat) (hi : L[i]? = some (Blk r o)) (o' : Obj) : Sat (L.set i (Blk r o')) { w with heap := w.heap.setIfInBounds r o' } := by
  have h0 := hs.blk i hi
  have hlt : r < w.heap.size := by
    rcases Nat.lt_or_ge r w.heap.size with h | h
    · exact h
    · rw [Array.getElem?_eq_none h] at h0; cases h0
  refine hs.upd i hi ?_ (fun c hc => ?_) rfl
  · dsimp only; rw [Array.getElem?_setIfInBounds_self_of_lt hlt]
  · dsimp only; rw [Array.getElem?_setIfInBounds_ne (Ne.symm hc)]
theorem checkInt {q : IntKind} (hk : P.underlying kt = some (.int q)) (e : Bool) (y : Nat) : (Instr.checkKey e 10000 kt (.int .u64 (y : Int))).run P w = .ok () w := by
  have key : ∀ d, (Instr.checkKey e (d + 1) kt (.int .u64 (y : Int))).run P w = .ok () w := fun d => by simp [Instr.checkKey, run_underlying hk]
  exact key 9999
end
end Go.Hm
namespace Go.Proofs.YtpicofkhioalkaaGreat
open Go Go.Lw Go.Wd Go.Am Go.Tb Go.Hm

section
variable {H : Hp} {v : Value} {b : Nat} {F : List HP} {w : World}
theorem refsOf_len (hm : H.WF) {x : Nat} {o : Ob} (hl : H.look x = some o) : (refsOf H x).length = o.refs := by
  have := (look_ok hm hl).refs
  simp [refsOf, hl]; omega
theorem refsOf_get (hm : H.WF) {x i : Nat} {o : Ob} (hl : H.look x = some o) (hi : i < o.refs) : (refsOf H x)[i]? = some (o.w.getD i 0) := by
  have := (look_ok hm hl).refs
  simp only [refsOf, hl]
  rw [List.getElem?_take_of_lt hi, List.getD_eq_getElem?_getD, List.getElem?_eq_getElem (by omega)]
  rfl
theorem w_u64 (hm : H.WF) {x : Nat} {o : Ob} (hl : H.look x = some o) (i : Nat) : o.w.getD i 0 < 18446744073709551616 := by
  rw [List.getD_eq_getElem?_getD]
  cases h : o.w[i]? with
  | none => simp
  | some y => exact (look_ok hm hl).w64 y (List.mem_of_getElem? h)

end
end Go.Proofs.YtpicofkhioalkaaGreat
