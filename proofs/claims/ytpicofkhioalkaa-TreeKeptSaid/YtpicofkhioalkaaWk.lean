
/- What is reached in a heap, as it is met (data); and what 'walk' and 'Live' come to. -/
import Derived.Test.YtpicofkhioalkaaHc
import Derived.Test.YtpicofkhioalkaaLx
set_option maxRecDepth 100000
namespace Go.Hm
open Go Go.Lw Go.Wd Go.Am Go.Tb

/-! Places in a list. -/
def numAt : List Nat → Nat → Nat → Option Nat
  | [], _, _ => none
  | x :: l, i, y => if y = x then some i else numAt l (i + 1) y
def num (l : List Nat) (y : Nat) : Option Nat := numAt l 0 y
theorem numAt_none : ∀ {l : List Nat} {i y : Nat}, numAt l i y = none ↔ y ∉ l
  | [], _, _ => by simp [numAt]
  | x :: l, i, y => by
    simp only [numAt, List.mem_cons, not_or]
    split
    · rename_i e; simp [e]
    · rename_i e; rw [numAt_none]; simp [e]
theorem numAt_app : ∀ (l : List Nat) (i x y : Nat), numAt (l ++ [x]) i y = (numAt l i y).or (if y = x then some (i + l.length) else none)
  | [], i, x, y => by simp [numAt]
  | a :: l, i, x, y => by
    simp only [List.cons_append, numAt]
    split
    · rfl
    · rw [numAt_app l (i + 1) x y, List.length_cons]; congr 2; congr 1; omega
theorem numAt_some : ∀ {l : List Nat} {i y j : Nat}, numAt l i y = some j → i ≤ j ∧ l[j - i]? = some y
  | [], _, _, _, h => by simp [numAt] at h
  | x :: l, i, y, j, h => by
    simp only [numAt] at h
    split at h
    · rename_i e; cases h; simp [e]
    · have := numAt_some h
      refine ⟨by omega, ?_⟩
      rw [show j - i = (j - (i + 1)) + 1 by omega, List.getElem?_cons_succ]
      exact this.2
theorem num_none {l : List Nat} {y : Nat} : num l y = none ↔ y ∉ l := numAt_none
theorem num_app (l : List Nat) (x y : Nat) : num (l ++ [x]) y = (num l y).or (if y = x then some l.length else none) := by
  unfold num; rw [numAt_app, Nat.zero_add]
theorem num_some {l : List Nat} {y j : Nat} (h : num l y = some j) : l[j]? = some y := by simpa using (numAt_some h).2

/-! What is reached. -/
def meet (H : Hp) (l : List Nat) (y : Nat) : List Nat := if (H.look y).isSome ∧ y ∉ l then l ++ [y] else l
def meets (H : Hp) (l ys : List Nat) : List Nat := ys.foldl (meet H) l
def refsOf (H : Hp) (x : Nat) : List Nat := match H.look x with | some o => o.w.take o.refs | none => []
def walkStep (H : Hp) (i : Nat) (l : List Nat) : List Nat := match l[i]? with | some x => meets H l (refsOf H x) | none => l
def walkTo (H : Hp) : Nat → List Nat
  | 0 => meets H [] H.roots
  | k + 1 => walkStep H k (walkTo H k)
/-- the handles that are reached, as they are met. -/
def order (H : Hp) : List Nat := walkTo H H.t.n

variable {H : Hp}
structure Met (H : Hp) (l : List Nat) : Prop where
  nd : l.Nodup
  live : ∀ y ∈ l, (H.look y).isSome = true
theorem Met.meet {l : List Nat} (h : Met H l) (y : Nat) : Met H (meet H l y) := by
  unfold Hm.meet
  split
  · rename_i c
    refine ⟨List.nodup_append.2 ⟨h.nd, by simp, fun a ha b hb => ?_⟩, fun x hx => ?_⟩
    · simp only [List.mem_singleton] at hb
      subst hb
      exact fun e => c.2 (e ▸ ha)
    · rcases List.mem_append.1 hx with hx | hx
      · exact h.live x hx
      · simp only [List.mem_singleton] at hx; subst hx; exact c.1
  · exact h
theorem Met.meets {l : List Nat} (h : Met H l) : ∀ ys, Met H (meets H l ys) := by
  intro ys
  induction ys generalizing l with
  | nil => exact h
  | cons y ys ih => exact ih (h.meet y)
theorem met_walk (H : Hp) : ∀ k, Met H (walkTo H k) := by
  intro k
  induction k with
  | zero => exact Met.meets ⟨List.nodup_nil, fun _ h => by cases h⟩ _
  | succ k h =>
    show Met H (walkStep H k (walkTo H k))
    unfold walkStep
    split
    · exact h.meets _
    · exact h
theorem Met.len {l : List Nat} (h : Met H l) (hm : H.WF) : l.length ≤ H.t.n := by
  have hf : ∀ y ∈ l, ∃ i, H.t.find y = some i ∧ i < H.t.n := fun y hy => by
    have h1 := h.live y hy
    cases hl : H.look y with
    | none => rw [hl] at h1; cases h1
    | some o =>
      obtain ⟨a, _⟩ := look_some hm hl
      obtain ⟨_, s, b, _⟩ := tfind_iff.1 a
      have := get_lt b
      have := hm.tab.len
      exact ⟨_, a, by omega⟩
  have hg : ∀ y ∈ l, ∃ i, i < H.t.n ∧ y % 4294967296 = i + 1 ∧ H.t.find y = some i := fun y hy => by
    obtain ⟨i, a, b⟩ := hf y hy
    exact ⟨i, b, (tfind_iff.1 a).1, a⟩
  have := nodup_bound (n := H.t.n) (l := l.map fun y => y % 4294967296 - 1) ?_ ?_
  · simpa using this
  · unfold List.Nodup
    rw [List.pairwise_map]
    refine List.Pairwise.imp_of_mem (fun {a b} ha hb hne hh => ?_) h.nd
    obtain ⟨i, _, e1, f1⟩ := hg a ha
    obtain ⟨j, _, e2, f2⟩ := hg b hb
    have hij : i = j := by omega
    subst hij
    exact hne (tfind_inj f1 f2)
  · intro i hi
    obtain ⟨y, hy, rfl⟩ := List.mem_map.1 hi
    obtain ⟨j, a, b, _⟩ := hg y hy
    omega
theorem meet_pre (l : List Nat) (y : Nat) : l <+: meet H l y := by
  unfold meet; split
  · exact ⟨[y], rfl⟩
  · exact List.prefix_refl _
theorem meets_pre : ∀ (ys l : List Nat), l <+: meets H l ys
  | [], l => List.prefix_refl _
  | y :: ys, l => (meet_pre l y).trans (meets_pre ys (meet H l y))
theorem walk_pre (k : Nat) : walkTo H k <+: walkTo H (k + 1) := by
  show walkTo H k <+: walkStep H k (walkTo H k)
  unfold walkStep; split
  · exact meets_pre _ _
  · exact List.prefix_refl _
theorem walk_fix {k : Nat} (h : (walkTo H k).length ≤ k) : ∀ j, walkTo H (k + j) = walkTo H k
  | 0 => rfl
  | j + 1 => by
    show walkStep H (k + j) (walkTo H (k + j)) = walkTo H k
    rw [walk_fix h j]
    unfold walkStep
    rw [List.getElem?_eq_none (by omega)]
theorem order_eq (hm : H.WF) {k : Nat} (h : (walkTo H k).length = k) : order H = walkTo H k := by
  have hk : k ≤ H.t.n := by have := (met_walk H k).len hm; omega
  unfold order
  obtain ⟨j, hj⟩ := Nat.exists_eq_add_of_le hk
  rw [hj]
  exact walk_fix (by omega) j
theorem meets_snoc (l ys : List Nat) (y : Nat) : meets H l (ys ++ [y]) = meet H (meets H l ys) y := by simp [meets]
theorem order_met : Met H (order H) := met_walk _ _
theorem order_look {y : Nat} (h : y ∈ order H) : ∃ o, H.look y = some o := by
  have := order_met.live y h
  exact Option.isSome_iff_exists.1 this

/-! A map of words to places. -/
def numEs : List Nat → Nat → List MapEntry
  | [], _ => []
  | y :: l, i => ⟨.int .u64 (y : Int), .int .i64 (i : Int), i⟩ :: numEs l (i + 1)
def numObj (l : List Nat) : Obj := .map (numEs l 0).toArray l.length
theorem numEs_app : ∀ (l : List Nat) (x i : Nat), numEs (l ++ [x]) i = numEs l i ++ [⟨.int .u64 (x : Int), .int .i64 ((i + l.length : Nat) : Int), i + l.length⟩]
  | [], x, i => by simp [numEs]
  | a :: l, x, i => by simp only [List.cons_append, numEs, numEs_app l x (i + 1), List.length_cons]; simp [Nat.add_assoc, Nat.add_comm 1]
theorem findNow_num (k : TypeDesc) (hk : ∃ q, k = .int q) (y : Nat) : ∀ (l : List Nat) (i j : Nat), Instr.findNow k (.int .u64 (y : Int)) (numEs l i) j = some (match numAt l i y with | some n => some (j + (n - i), .int .i64 (n : Int)) | none => none)
  | [], i, j => by simp [numEs, Instr.findNow, numAt]
  | x :: l, i, j => by
    obtain ⟨q, rfl⟩ := hk
    simp only [numEs, Instr.findNow, Instr.sameNow, if_true, numAt]
    by_cases e : y = x
    · subst e
      simp
    · have : ((y : Int) == (x : Int)) = false := by simp; omega
      rw [this]
      simp only [if_neg e]
      rw [findNow_num _ ⟨q, rfl⟩ y l (i + 1) (j + 1)]
      cases hn : numAt l (i + 1) y with
      | none => rfl
      | some n =>
        have := (numAt_some hn).1
        simp only
        congr 3
        omega
section
variable {P : Program} {t kt et : TypeId} {L : List HP} {w : World} {r : Nat} {l : List Nat}
theorem getM {es : Array MapEntry} {clock : Nat} (hb : w.heap[r]? = some (.map es clock)) : (getObj r).run P w = .ok (.map es clock) w := by
  simp [getObj, Sem.run, hb]
theorem setM {es : Array MapEntry} {clock : Nat} (o : Obj) (hb : w.heap[r]? = some (.map es clock)) : (setObj r o).run P w = .ok () { w with heap := w.heap.setIfInBounds r o } := by
  simp [setObj, Sem.run, hb]
theorem updMap {o : Obj} (hs : Sat L w) (i : Nat) (hi : L[i]? = some (Blk r o)) (o' : Obj) : Sat (L.set i (Blk r o')) { w with heap := w.heap.setIfInBounds r o' } := by
  have h0 := hs.blk i hi
  have hlt : r < w.heap.size := by
    rcases Nat.lt_or_ge r w.heap.size with h | h
    · exact h
    · rw [Array.getElem?_eq_none h] at h0; cases h0
  refine hs.upd i hi ?_ (fun c hc => ?_) rfl
  · dsimp only; rw [Array.getElem?_setIfInBounds_self_of_lt hlt]
  · dsimp only; rw [Array.getElem?_setIfInBounds_ne (Ne.symm hc)]
theorem checkInt {q : IntKind} (hk : P.underlying kt = some (.int q)) (e : Bool) (y : Nat) : (Instr.checkKey e 10000 kt (.int .u64 (y : Int))).run P w = .ok () w := by
  have key : ∀ d, (Instr.checkKey e (d + 1) kt (.int .u64 (y : Int))).run P w = .ok () w := fun d => by simp [Instr.checkKey, run_underlying hk]
  exact key 9999
/-- a key's place, as the map tells it. -/
def numV (l : List Nat) (y : Nat) : Int × Bool := match num l y with | some n => (n, true) | none => (0, false)
theorem lookNum (hu : P.underlying t = some (.map kt et)) {q : IntKind} (hk : P.underlying kt = some (.int q)) (hz : ∀ w, (zeroValue et).run P w = .ok (.int .i64 0) w) (hb : w.heap[r]? = some (numObj l)) (y : Nat) :
    (Instr.lookup t (.map (some r)) (.int .u64 (y : Int)) true).run P w = .ok (.tuple #[.int .i64 (numV l y).1, .bool (numV l y).2]) w := by
  have hc : ∀ e, (Instr.checkKey e 10000 kt (.int .u64 (y : Int))).run P w = .ok () w := fun e => checkInt hk e y
  have hf := findNow_num (.int q) ⟨q, rfl⟩ y l 0 0
  unfold numV num
  cases hn : numAt l 0 y with
  | none =>
    rw [hn] at hf
    simp [Instr.lookup, run_underlying hu, getM hb, hc, Instr.findKey, run_underlying hk, hf, hz]
  | some n =>
    rw [hn] at hf
    simp [Instr.lookup, run_underlying hu, getM hb, hc, Instr.findKey, run_underlying hk, hf]
theorem putNum (hu : P.underlying t = some (.map kt et)) {q : IntKind} (hk : P.underlying kt = some (.int q)) (hs : Sat L w) (i : Nat) (hi : L[i]? = some (Blk r (numObj l))) {y : Nat} (hy : y ∉ l) {K : World → Prop}
    (h : ∀ w', Sat (L.set i (Blk r (numObj (l ++ [y])))) w' → K w') : RunN P (Instr.mapUpdate t (.map (some r)) (.int .u64 (y : Int)) (.int .i64 (l.length : Int))) w K := by
  have hb := hs.blk i hi
  have hc : ∀ e, (Instr.checkKey e 10000 kt (.int .u64 (y : Int))).run P w = .ok () w := fun e => checkInt hk e y
  have hf := findNow_num (.int q) ⟨q, rfl⟩ y l 0 0
  rw [numAt_none.2 hy] at hf
  refine ⟨_, ?_, h _ (updMap hs i hi _)⟩
  have hp : (numEs l 0).toArray.push { key := .int .u64 (y : Int), val := .int .i64 (l.length : Int), born := l.length } = (numEs (l ++ [y]) 0).toArray := by
    rw [numEs_app]; simp
  have ho : (.map ((numEs l 0).toArray.push { key := .int .u64 (y : Int), val := .int .i64 (l.length : Int), born := l.length }) (l.length + 1) : Obj) = numObj (l ++ [y]) := by
    rw [hp]; simp [numObj]
  rw [← ho]
  have hb' : w.heap[r]? = some (.map (numEs l 0).toArray l.length) := hb
  simp only [Instr.mapUpdate, Sem.run_bind, run_underlying hu, Result.andThen_ok, getM hb', hc, Instr.findKey, run_underlying hk, hf, Sem.run_pure, setM _ hb']
end
end Go.Hm
namespace Go.Proofs.Ytpicofkhioalkaa
open Go Go.Lw Go.Wd Go.Am Go.Tb Go.Hm

end Go.Proofs.Ytpicofkhioalkaa
