
/- A marking as plain data: a heap, a stack of handles; what Linked, Start, a unit do to them. No program in sight. -/
import Derived.Test.YtdfdmboljidhnaaCk
namespace Go.Am
def Ob.plain (o : Ob) : Ob := { o with mark := false }
def Ob.paint (o : Ob) (on : Bool) : Ob := { o with mark := on }
theorem Ob.paint_ok {o : Ob} (h : o.Ok) (on : Bool) : (o.paint on).Ok := ⟨h.tag, h.refs, h.size, h.owner, h.w64⟩
theorem findL_map : ∀ (l : List Ob) (k a : Nat), findL k (l.map Ob.plain) a = (findL k l a).map Ob.plain
  | [], _, _ => rfl
  | p :: l, k, a => by
    simp only [List.map_cons, findL]
    split
    · rfl
    · rw [show p.plain.w.length = p.w.length from rfl]; exact findL_map l _ a
theorem osz_map : ∀ l : List Ob, osz (l.map Ob.plain) = osz l
  | [] => rfl
  | p :: l => by simp only [List.map_cons, osz, osz_map l]; rfl
theorem setL_pos : ∀ {l : List Ob} {k j : Nat} {o o' : Ob}, l[j]? = some o → setL k l (k + osz (l.take j)) o' = l.set j o'
  | [], _, _, _, _, h => by simp at h
  | p :: l, k, 0, o, o', h => by simp [setL, osz]
  | p :: l, k, j + 1, o, o', h => by
    simp only [List.getElem?_cons_succ] at h
    simp only [setL, List.take_succ_cons, osz, List.set_cons_succ]
    rw [if_neg (by omega), show k + (1 + p.w.length + osz (l.take j)) = k + 1 + p.w.length + osz (l.take j) by omega, setL_pos h]
/-- how many are not marked. -/
def unmL : List Ob → Nat
  | [] => 0
  | o :: l => (if o.mark then 0 else 1) + unmL l
theorem unmL_app : ∀ l m : List Ob, unmL (l ++ m) = unmL l + unmL m
  | [], m => by simp [unmL]
  | o :: l, m => by simp only [List.cons_append, unmL, unmL_app l m]; omega
theorem unmL_le : ∀ l : List Ob, unmL l ≤ l.length
  | [] => by simp [unmL]
  | o :: l => by have := unmL_le l; simp only [unmL, List.length_cons]; split <;> omega
theorem unmL_plain : ∀ l : List Ob, unmL (l.map Ob.plain) = l.length
  | [] => rfl
  | o :: l => by simp only [List.map_cons, unmL, unmL_plain l, List.length_cons, Ob.plain]; simp; omega
theorem unmL_set : ∀ {l : List Ob} {k a : Nat} {o o' : Ob}, findL k l a = some o → unmL (setL k l a o') + (if o.mark then 0 else 1) = unmL l + (if o'.mark then 0 else 1)
  | [], _, _, _, _, h => by simp [findL] at h
  | p :: l, k, a, o, o', h => by
    simp only [findL] at h
    simp only [setL]
    split at h
    · rename_i e; rw [if_pos e]; cases h; simp only [unmL]; omega
    · rename_i e; rw [if_neg e]; have := unmL_set (o' := o') h; simp only [unmL]; omega
theorem osz_ge : ∀ l : List Ob, l.length ≤ osz l
  | [] => by simp
  | o :: l => by have := osz_ge l; simp only [List.length_cons, osz]; omega
end Go.Am
namespace Go.Hm
open Go Go.Lw Go.Wd Go.Am Go.Tb
variable {H : Hp}

def Hp.paint (H : Hp) (x : Nat) (on : Bool) : Hp := match H.look x with | some o => H.set x (o.paint on) | none => H
def isM (H : Hp) (x : Nat) : Bool := match H.look x with | some o => o.mark | none => false
def unm (H : Hp) : Nat := unmL H.m.low + unmL H.m.high
abbrev Ms := Hp × List Nat
def lnk (s : Ms) (x : Nat) : Ms := match s.1.look x with | some o => if o.mark then s else (s.1.paint x true, s.2 ++ [x]) | none => s
def Hp.clear (H : Hp) : Hp := { H with m := { H.m with low := H.m.low.map Ob.plain, high := H.m.high.map Ob.plain } }
def began (H : Hp) : Ms := H.roots.foldl lnk (H.clear, [])
def unit (s : Ms) : Ms := match s.2.getLast? with | none => s | some x => (refsOf s.1 x).foldl lnk (s.1, s.2.dropLast)
def units : Nat → Ms → Ms
  | 0, s => s
  | n + 1, s => units n (unit s)
def pot (s : Ms) : Nat := s.2.length + unm s.1

theorem unit_nil {s : Ms} (h : s.2 = []) : unit s = s := by unfold unit; rw [h]; rfl
theorem units_nil {s : Ms} (h : s.2 = []) : ∀ n, units n s = s
  | 0 => rfl
  | n + 1 => by unfold units; rw [unit_nil h]; exact units_nil h n
theorem units_add (n m : Nat) (s : Ms) : units (n + m) s = units m (units n s) := by
  induction n generalizing s with
  | zero => rw [Nat.zero_add]; rfl
  | succ n ih => rw [show n + 1 + m = (n + m) + 1 by omega]; exact ih (unit s)

/-- two heaps that differ in marks alone. -/
structure Sk (H H' : Hp) : Prop where
  roots : H'.roots = H.roots
  t : H'.t = H.t
  n : H'.m.n = H.m.n
  top : H'.m.top = H.m.top
  op : H'.m.op = H.m.op
  look : ∀ x, (H'.look x).map Ob.plain = (H.look x).map Ob.plain
theorem Sk.refl (H : Hp) : Sk H H := ⟨rfl, rfl, rfl, rfl, rfl, fun _ => rfl⟩
theorem Sk.trans {A B C : Hp} (h : Sk A B) (g : Sk B C) : Sk A C := ⟨g.roots.trans h.roots, g.t.trans h.t, g.n.trans h.n, g.top.trans h.top, g.op.trans h.op, fun x => (g.look x).trans (h.look x)⟩
theorem Sk.some {A B : Hp} (h : Sk A B) {x : Nat} {o : Ob} (ho : A.look x = some o) : ∃ p, B.look x = some p ∧ p.refs = o.refs ∧ p.w = o.w ∧ p.tag = o.tag := by
  have := h.look x
  rw [ho] at this
  cases hb : B.look x with
  | none => rw [hb] at this; cases this
  | some p =>
    rw [hb] at this
    simp only [Option.map_some, Option.some.injEq] at this
    have h1 : p.plain.refs = o.plain.refs := by rw [this]
    have h2 : p.plain.w = o.plain.w := by rw [this]
    have h3 : p.plain.tag = o.plain.tag := by rw [this]
    exact ⟨p, rfl, h1, h2, h3⟩
theorem Sk.none {A B : Hp} (h : Sk A B) {x : Nat} (ho : A.look x = none) : B.look x = none := by
  have := h.look x
  rw [ho] at this
  cases hb : B.look x with
  | none => rfl
  | some p => rw [hb] at this; cases this
theorem Sk.isSome {A B : Hp} (h : Sk A B) (x : Nat) : (B.look x).isSome = (A.look x).isSome := by
  cases ha : A.look x with
  | none => rw [h.none ha]
  | some o => obtain ⟨p, hp, _⟩ := h.some ha; rw [hp]; rfl
theorem Sk.refs {A B : Hp} (h : Sk A B) (x : Nat) : refsOf B x = refsOf A x := by
  unfold refsOf
  cases ha : A.look x with
  | none => rw [h.none ha]
  | some o => obtain ⟨p, hp, h1, h2, _⟩ := h.some ha; rw [hp]; simp only [h1, h2]
theorem Sk.may {A B : Hp} (h : Sk A B) (x : Nat) : B.may x = A.may x := by unfold Hp.may; rw [h.isSome]
theorem Sk.closed {A B : Hp} (h : Sk A B) (hc : A.Closed) : B.Closed :=
  ⟨fun x hx => by rw [h.may]; rw [h.roots] at hx; exact hc.roots x hx, fun x y hy => by rw [h.may]; rw [h.refs] at hy; exact hc.refs x y hy⟩

theorem paint_wf (h : H.WF) (x : Nat) (on : Bool) : (H.paint x on).WF := by
  unfold Hp.paint
  split
  · rename_i o ho; exact set_wf h ho rfl rfl (Ob.paint_ok (look_ok h ho) on)
  · exact h
theorem paint_look (h : H.WF) (x : Nat) (on : Bool) (y : Nat) : (H.paint x on).look y = if y = x then (H.look x).map (Ob.paint · on) else H.look y := by
  unfold Hp.paint
  cases ho : H.look x with
  | none =>
    by_cases e : y = x
    · rw [if_pos e, e]; exact ho
    · rw [if_neg e]
  | some o => exact set_look h ho (o' := o.paint on) rfl y
theorem paint_sk (h : H.WF) (x : Nat) (on : Bool) : Sk H (H.paint x on) := by
  have hl := paint_look h x on
  unfold Hp.paint at hl ⊢
  cases ho : H.look x with
  | none => exact Sk.refl H
  | some o =>
    rw [ho] at hl
    dsimp only at hl ⊢
    refine ⟨rfl, rfl, rfl, set_top h ho rfl, rfl, fun y => ?_⟩
    rw [hl]
    split
    · rename_i e; rw [e, ho]; rfl
    · rfl
theorem paint_isM (h : H.WF) (x : Nat) (y : Nat) : isM (H.paint x true) y = if y = x then (H.look x).isSome else isM H y := by
  unfold isM
  rw [paint_look h]
  by_cases e : y = x
  · subst e
    rw [if_pos rfl, if_pos rfl]
    cases H.look y <;> rfl
  · rw [if_neg e, if_neg e]
theorem paint_unm (h : H.WF) {x : Nat} {o : Ob} (ho : H.look x = some o) (hm : o.mark = false) : unm (H.paint x true) + 1 = unm H := by
  unfold Hp.paint unm
  rw [ho]
  dsimp only
  obtain ⟨_, h2⟩ := look_some h ho
  unfold Hp.set
  have hp : (o.paint true).mark = true := rfl
  rcases h.am.find_cases h2 with ⟨h1, _⟩ | ⟨h1, h2, _, _, _⟩
  · have e : H.m.set (H.place x) (o.paint true) = { H.m with low := setL 0 H.m.low (H.place x) (o.paint true) } := by unfold Am.set; simp [h1]
    have := unmL_set (o' := o.paint true) h1
    rw [hm, hp, if_neg (by decide), if_pos rfl] at this
    simp only [e]
    omega
  · have e : H.m.set (H.place x) (o.paint true) = { H.m with high := setL H.m.hi H.m.high (H.place x) (o.paint true) } := by unfold Am.set; simp [h1, findL_none_set h1]
    have := unmL_set (o' := o.paint true) h2
    rw [hm, hp, if_neg (by decide), if_pos rfl] at this
    simp only [e]
    omega

theorem clear_find (H : Hp) (a : Nat) : H.clear.m.find a = (H.m.find a).map Ob.plain := by
  unfold Hp.clear Am.find
  dsimp only
  rw [findL_map, findL_map]
  cases findL 0 H.m.low a <;> rfl
theorem clear_look (H : Hp) (x : Nat) : H.clear.look x = (H.look x).map Ob.plain := by
  unfold Hp.look
  have e : H.clear.t = H.t := rfl
  rw [e]
  cases H.t.find x with
  | none => rfl
  | some i => simp only [Option.bind_some, clear_find]
theorem clear_wf (h : H.WF) : H.clear.WF := by
  have hp : ∀ {o : Ob}, o.Ok → o.plain.Ok := fun {o} h => ⟨h.tag, h.refs, h.size, h.owner, h.w64⟩
  refine ⟨⟨h.am.pos, h.am.most, fun ho => ?_, fun ho => ?_, ?_, fun o ho => ?_, fun o ho => ?_⟩, h.tab, h.rlen, h.r64, fun i s hs ht => ?_, fun k o ho => ?_⟩
  · have := h.am.gap ho
    simpa [Hp.clear, osz_map] using this
  · have := h.am.shut ho
    simp [Hp.clear, this.1, this.2]
  · have := h.am.top
    simpa [Hp.clear, Am.top, osz_map] using this
  · obtain ⟨p, hq, rfl⟩ := List.mem_map.1 ho
    exact hp (h.am.low p hq)
  · obtain ⟨p, hq, rfl⟩ := List.mem_map.1 ho
    exact hp (h.am.high p hq)
  · obtain ⟨o, h1, h2⟩ := h.link i s hs ht
    exact ⟨o.plain, by rw [clear_find, h1]; rfl, h2⟩
  · rw [clear_find] at ho
    obtain ⟨p, hq, rfl⟩ := Option.map_eq_some_iff.1 ho
    exact h.back k p hq
theorem clear_sk (H : Hp) : Sk H H.clear := by
  refine ⟨rfl, rfl, rfl, by simp [Hp.clear, Am.top, osz_map], rfl, fun x => ?_⟩
  rw [clear_look]
  cases H.look x <;> rfl
theorem clear_isM (H : Hp) (x : Nat) : isM H.clear x = false := by
  unfold isM
  rw [clear_look]
  cases H.look x <;> rfl
theorem clear_unm (H : Hp) : unm H.clear = H.m.low.length + H.m.high.length := by unfold unm Hp.clear; simp only [unmL_plain]
theorem objs_le (h : H.WF) : H.m.low.length + H.m.high.length ≤ 1048576 := by
  have h1 := osz_ge H.m.low; have h2 := osz_ge H.m.high; have h3 := h.am.top; have h4 := h.am.most; have h5 := h.am.low_le; have h6 := h.am.hi_le
  rcases h.am.apart with ha | ha
  · omega
  · rw [ha] at h2 ⊢; simp at h2 ⊢; omega

/-- what a deed of the marker keeps: the heap is sound, only marks differ. -/
theorem lnk_wf {s : Ms} (h : s.1.WF) (x : Nat) : (lnk s x).1.WF := by
  unfold lnk
  split
  · split
    · exact h
    · exact paint_wf h x true
  · exact h
theorem lnk_sk {s : Ms} (h : s.1.WF) (x : Nat) : Sk s.1 (lnk s x).1 := by
  unfold lnk
  split
  · split
    · exact Sk.refl _
    · exact paint_sk h x true
  · exact Sk.refl _
theorem lnk_pot {s : Ms} (h : s.1.WF) (x : Nat) : pot (lnk s x) = pot s := by
  unfold lnk
  split
  · rename_i o ho
    split
    · rfl
    · rename_i hm
      have := paint_unm h ho (by simpa using hm)
      simp only [pot, List.length_append, List.length_singleton]
      omega
  · rfl
theorem lnks_ok {s : Ms} (h : s.1.WF) : ∀ ys : List Nat, (ys.foldl lnk s).1.WF ∧ Sk s.1 (ys.foldl lnk s).1 ∧ pot (ys.foldl lnk s) = pot s := by
  intro ys
  induction ys generalizing s with
  | nil => exact ⟨h, Sk.refl _, rfl⟩
  | cons y ys ih =>
    obtain ⟨h1, h2, h3⟩ := ih (lnk_wf h y)
    exact ⟨h1, (lnk_sk h y).trans h2, h3.trans (lnk_pot h y)⟩
theorem unit_ok {s : Ms} (h : s.1.WF) : (unit s).1.WF ∧ Sk s.1 (unit s).1 ∧ (s.2 ≠ [] → pot (unit s) + 1 = pot s) := by
  unfold unit
  cases hl : s.2.getLast? with
  | none => exact ⟨h, Sk.refl _, fun hne => absurd (List.getLast?_eq_none_iff.1 hl) hne⟩
  | some x =>
    obtain ⟨h1, h2, h3⟩ := lnks_ok (s := (s.1, s.2.dropLast)) h (refsOf s.1 x)
    refine ⟨h1, h2, fun hne => ?_⟩
    dsimp only
    rw [h3]
    simp only [pot, List.length_dropLast]
    have : 0 < s.2.length := by
      cases hs : s.2 with
      | nil => exact absurd hs hne
      | cons a l => simp
    omega
theorem units_ok {s : Ms} (h : s.1.WF) : ∀ n, (units n s).1.WF ∧ Sk s.1 (units n s).1 ∧ ((units n s).2 ≠ [] → pot (units n s) + n = pot s) := by
  intro n
  induction n generalizing s with
  | zero => exact ⟨h, Sk.refl _, fun _ => rfl⟩
  | succ n ih =>
    obtain ⟨h1, h2, h3⟩ := unit_ok h
    obtain ⟨g1, g2, g3⟩ := ih h1
    refine ⟨g1, h2.trans g2, fun hne => ?_⟩
    have : s.2 ≠ [] := fun e => by
      have e2 : (units (n + 1) s).2 = s.2 := by rw [units_nil e]
      exact hne (by rw [e2, e])
    have a := g3 hne
    have b := h3 this
    have c : units (n + 1) s = units n (unit s) := rfl
    rw [c]
    omega
theorem began_ok (h : H.WF) : (began H).1.WF ∧ Sk H (began H).1 ∧ pot (began H) = H.m.low.length + H.m.high.length := by
  obtain ⟨h1, h2, h3⟩ := lnks_ok (s := (H.clear, [])) (clear_wf h) H.roots
  refine ⟨h1, (clear_sk H).trans h2, h3.trans ?_⟩
  simp only [pot, List.length_nil, Nat.zero_add, clear_unm]

/-! What is reached. -/
inductive Reach (H : Hp) : Nat → Prop
  | root {x : Nat} : x ∈ H.roots → (H.look x).isSome = true → Reach H x
  | step {x y : Nat} : Reach H x → y ∈ refsOf H x → (H.look y).isSome = true → Reach H y
theorem Reach.live {x : Nat} (h : Reach H x) : (H.look x).isSome = true := by cases h <;> assumption
theorem Sk.reach {A B : Hp} (h : Sk A B) {x : Nat} (hr : Reach A x) : Reach B x := by
  induction hr with
  | root a b => exact .root (by rw [h.roots]; exact a) (by rw [h.isSome]; exact b)
  | step _ a b ih => exact .step ih (by rw [h.refs]; exact a) (by rw [h.isSome]; exact b)
theorem Sk.symm {A B : Hp} (h : Sk A B) : Sk B A := ⟨h.roots.symm, h.t.symm, h.n.symm, h.top.symm, h.op.symm, fun x => (h.look x).symm⟩
theorem mem_meet {l : List Nat} {y z : Nat} : z ∈ meet H l y ↔ z ∈ l ∨ (z = y ∧ (H.look y).isSome = true) := by
  unfold meet
  split
  · rename_i c; simp only [List.mem_append, List.mem_singleton]
    exact ⟨fun h => h.imp id fun e => ⟨e, c.1⟩, fun h => h.imp id fun e => e.1⟩
  · rename_i c
    refine ⟨.inl, fun h => h.elim id fun ⟨e, hs⟩ => ?_⟩
    subst e
    by_cases hz : z ∈ l
    · exact hz
    · exact absurd ⟨hs, hz⟩ c
theorem mem_meets {ys : List Nat} : ∀ {l : List Nat} {z : Nat}, z ∈ meets H l ys ↔ z ∈ l ∨ (z ∈ ys ∧ (H.look z).isSome = true) := by
  induction ys with
  | nil => intro l z; simp [meets]
  | cons y ys ih =>
    intro l z
    have e : meets H l (y :: ys) = meets H (meet H l y) ys := rfl
    rw [e, ih, mem_meet, List.mem_cons]
    constructor
    · rintro ((h | ⟨rfl, h⟩) | ⟨h1, h2⟩)
      · exact .inl h
      · exact .inr ⟨.inl rfl, h⟩
      · exact .inr ⟨.inr h1, h2⟩
    · rintro (h | ⟨rfl | h1, h2⟩)
      · exact .inl (.inl h)
      · exact .inl (.inr ⟨rfl, h2⟩)
      · exact .inr ⟨h1, h2⟩
theorem walk_reach : ∀ (k : Nat) {z : Nat}, z ∈ walkTo H k → Reach H z := by
  intro k
  induction k with
  | zero =>
    intro z hz
    rcases mem_meets.1 hz with h | ⟨h1, h2⟩
    · cases h
    · exact .root h1 h2
  | succ k ih =>
    intro z hz
    have e : walkTo H (k + 1) = walkStep H k (walkTo H k) := rfl
    rw [e] at hz
    unfold walkStep at hz
    split at hz
    · rename_i x hx
      rcases mem_meets.1 hz with h | ⟨h1, h2⟩
      · exact ih h
      · exact .step (ih (List.mem_of_getElem? hx)) h1 h2
    · exact ih hz
theorem walk_sub {k j : Nat} (h : k ≤ j) : walkTo H k <+: walkTo H j := by
  obtain ⟨d, rfl⟩ := Nat.exists_eq_add_of_le h
  clear h
  induction d with
  | zero => exact List.prefix_refl _
  | succ d ih => exact ih.trans (walk_pre (k + d))
theorem order_len (hm : H.WF) : (order H).length ≤ H.t.n := order_met.len hm
theorem order_step (hm : H.WF) {x y : Nat} (hx : x ∈ order H) (hy : y ∈ refsOf H x) (hl : (H.look y).isSome = true) : y ∈ order H := by
  obtain ⟨k, hk⟩ := List.getElem?_of_mem hx
  have hlt := get_lt hk
  have hn := order_len hm
  -- the place k is met at step k
  have hpre := walk_sub (H := H) (k := k) (j := H.t.n) (by omega)
  by_cases hkl : k < (walkTo H k).length
  · have hxk : (walkTo H k)[k]? = some x := by
      obtain ⟨t, ht⟩ := hpre
      have : (order H)[k]? = (walkTo H k)[k]? := by unfold order; rw [← ht, List.getElem?_append_left hkl]
      rw [← this]; exact hk
    have : y ∈ walkTo H (k + 1) := by
      have e : walkTo H (k + 1) = walkStep H k (walkTo H k) := rfl
      rw [e]
      unfold walkStep
      rw [hxk]
      exact mem_meets.2 (.inr ⟨hy, hl⟩)
    exact (walk_sub (H := H) (k := k + 1) (j := H.t.n) (by omega)).subset this
  · have hfix := walk_fix (H := H) (k := k) (by omega) (H.t.n - k)
    have e : k + (H.t.n - k) = H.t.n := by omega
    rw [e] at hfix
    unfold order at hlt
    rw [hfix] at hlt
    omega
theorem order_iff (hm : H.WF) {x : Nat} : x ∈ order H ↔ Reach H x := by
  constructor
  · exact fun h => walk_reach _ h
  · intro h
    induction h with
    | root a b => exact (walk_sub (H := H) (k := 0) (j := H.t.n) (by omega)).subset (mem_meets.2 (.inr ⟨a, b⟩))
    | step _ a b ih => exact order_step hm ih a b

/-! The marking's law: what is marked and off the stack has marked refs; in the end all that is reached is marked, and nothing else. -/
structure Inv (s : Ms) : Prop where
  wf : s.1.WF
  stack : ∀ x ∈ s.2, isM s.1 x = true
  roots : ∀ x ∈ s.1.roots, (s.1.look x).isSome = true → isM s.1 x = true
  refs : ∀ x, isM s.1 x = true → x ∉ s.2 → ∀ y ∈ refsOf s.1 x, (s.1.look y).isSome = true → isM s.1 y = true
theorem isM_live {x : Nat} (h : isM H x = true) : (H.look x).isSome = true := by
  unfold isM at h
  split at h
  · rename_i o ho; rw [ho]; rfl
  · cases h
/-- what is left to be done for 'x's refs 'ys', x being off the stack. -/
theorem lnk_isM {s : Ms} (h : s.1.WF) (x y : Nat) : isM (lnk s x).1 y = (isM s.1 y || (y == x && (s.1.look x).isSome)) := by
  unfold lnk
  cases ho : s.1.look x with
  | none => simp
  | some o =>
    dsimp only
    cases hm : o.mark with
    | true =>
      simp only [if_true]
      by_cases e : y = x
      · subst e
        have : isM s.1 y = true := by unfold isM; rw [ho]; exact hm
        rw [this]; simp
      · simp [e]
    | false =>
      simp only [Bool.false_eq_true, if_false]
      rw [paint_isM h, ho]
      by_cases e : y = x
      · simp [e]
      · simp [e]
theorem lnk_stack {s : Ms} (x y : Nat) : y ∈ (lnk s x).2 ↔ y ∈ s.2 ∨ (y = x ∧ (s.1.look x).isSome = true ∧ isM s.1 x = false) := by
  unfold lnk isM
  cases ho : s.1.look x with
  | none => simp
  | some o =>
    dsimp only
    cases hm : o.mark with
    | true => simp
    | false => simp
theorem lnks_isM {ys : List Nat} : ∀ {s : Ms}, s.1.WF → ∀ y, isM (ys.foldl lnk s).1 y = true ↔ isM s.1 y = true ∨ (y ∈ ys ∧ (s.1.look y).isSome = true) := by
  induction ys with
  | nil => intro s h y; simp
  | cons x ys ih =>
    intro s h y
    rw [List.foldl_cons, ih (lnk_wf h x) y, lnk_isM h, (lnk_sk h x).isSome]
    by_cases e : y = x
    · subst e; simp; grind
    · simp [e]
theorem lnks_stack {ys : List Nat} : ∀ {s : Ms}, s.1.WF → ∀ y, y ∈ (ys.foldl lnk s).2 ↔ y ∈ s.2 ∨ (y ∈ ys ∧ (s.1.look y).isSome = true ∧ isM s.1 y = false) := by
  induction ys with
  | nil => intro s h y; simp
  | cons x ys ih =>
    intro s h y
    rw [List.foldl_cons, ih (lnk_wf h x) y, lnk_stack, (lnk_sk h x).isSome, lnk_isM h]
    by_cases e : y = x
    · subst e
      cases h1 : (s.1.look y).isSome <;> cases h2 : isM s.1 y <;> simp
    · simp [e]
theorem Inv.unit {s : Ms} (h : Inv s) : Inv (unit s) := by
  obtain ⟨h1, h2, _⟩ := unit_ok h.wf
  unfold Hm.unit at h1 h2 ⊢
  cases hl : s.2.getLast? with
  | none => rw [hl] at h1 h2; exact h
  | some x =>
    rw [hl] at h1 h2
    dsimp only at h1 h2 ⊢
    have hxs : s.2 = s.2.dropLast ++ [x] := by
      have hne : s.2 ≠ [] := fun e => by rw [e] at hl; cases hl
      have h3 := List.dropLast_concat_getLast hne
      rw [List.getLast?_eq_some_getLast hne] at hl
      cases hl
      exact h3.symm
    have hm := lnks_isM (ys := refsOf s.1 x) (s := (s.1, s.2.dropLast)) h.wf
    have hst := lnks_stack (ys := refsOf s.1 x) (s := (s.1, s.2.dropLast)) h.wf
    refine ⟨h1, fun y hy => ?_, fun y hy hlv => ?_, fun y hy hn z hz hlz => ?_⟩
    · rcases (hst y).1 hy with a | ⟨a, b, c⟩
      · exact (hm y).2 (.inl (h.stack y (by rw [hxs]; exact List.mem_append_left _ a)))
      · exact (hm y).2 (.inr ⟨a, b⟩)
    · rw [h2.isSome] at hlv
      rw [h2.roots] at hy
      exact (hm y).2 (.inl (h.roots y hy hlv))
    · rw [h2.isSome] at hlz
      rw [h2.refs] at hz
      rcases (hm y).1 hy with a | ⟨a, b⟩
      · by_cases hys : y ∈ s.2
        · rw [hxs] at hys
          rcases List.mem_append.1 hys with c | c
          · exact absurd ((hst y).2 (.inl c)) hn
          · simp only [List.mem_singleton] at c
            subst c
            exact (hm z).2 (.inr ⟨hz, hlz⟩)
        · exact (hm z).2 (.inl (h.refs y a hys z hz hlz))
      · by_cases c : isM s.1 y = true
        · by_cases hys : y ∈ s.2
          · rw [hxs] at hys
            rcases List.mem_append.1 hys with d | d
            · exact absurd ((hst y).2 (.inl d)) hn
            · simp only [List.mem_singleton] at d
              subst d
              exact (hm z).2 (.inr ⟨hz, hlz⟩)
          · exact (hm z).2 (.inl (h.refs y c hys z hz hlz))
        · exact absurd ((hst y).2 (.inr ⟨a, b, by simpa using c⟩)) hn
theorem Inv.units {s : Ms} (h : Inv s) : ∀ n, Inv (units n s) := by
  intro n
  induction n generalizing s with
  | zero => exact h
  | succ n ih => exact ih h.unit
theorem Inv.began (h : H.WF) : Inv (began H) := by
  obtain ⟨h1, h2, _⟩ := began_ok h
  have hm := lnks_isM (ys := H.roots) (s := (H.clear, [])) (clear_wf h)
  have hst := lnks_stack (ys := H.roots) (s := (H.clear, [])) (clear_wf h)
  unfold Hm.began at h1 h2 ⊢
  refine ⟨h1, fun y hy => ?_, fun y hy hlv => ?_, fun y hy hn z hz hlz => ?_⟩
  · rcases (hst y).1 hy with a | ⟨a, b, c⟩
    · cases a
    · exact (hm y).2 (.inr ⟨a, b⟩)
  · rw [h2.roots] at hy
    rw [h2.isSome] at hlv
    exact (hm y).2 (.inr ⟨hy, by rw [(clear_sk H).isSome]; exact hlv⟩)
  · rcases (hm y).1 hy with a | ⟨a, b⟩
    · rw [clear_isM] at a; cases a
    · exact absurd ((hst y).2 (.inr ⟨a, b, clear_isM H y⟩)) hn
theorem Inv.all {s : Ms} (h : Inv s) (he : s.2 = []) {x : Nat} (hr : Reach s.1 x) : isM s.1 x = true := by
  induction hr with
  | root a b => exact h.roots _ a b
  | step _ a b ih => exact h.refs _ ih (by rw [he]; simp) _ a b
/-- nothing is marked but what is reached. -/
def Only (s : Ms) : Prop := ∀ x, isM s.1 x = true → Reach s.1 x
theorem Only.unit {s : Ms} (hi : Inv s) (h : Only s) : Only (unit s) := by
  obtain ⟨h1, h2, _⟩ := unit_ok hi.wf
  unfold Hm.unit at h1 h2 ⊢
  cases hl : s.2.getLast? with
  | none => exact h
  | some x =>
    rw [hl] at h1 h2
    dsimp only at h1 h2 ⊢
    have hxs : x ∈ s.2 := List.mem_of_getLast? hl
    have hm := lnks_isM (ys := refsOf s.1 x) (s := (s.1, s.2.dropLast)) hi.wf
    intro y hy
    rcases (hm y).1 hy with a | ⟨a, b⟩
    · exact h2.reach (h y a)
    · exact h2.reach (.step (h x (hi.stack x hxs)) a b)
theorem Only.units {s : Ms} (hi : Inv s) (h : Only s) : ∀ n, Only (units n s) := by
  intro n
  induction n generalizing s with
  | zero => exact h
  | succ n ih => exact ih hi.unit (Only.unit hi h)
theorem Only.began (h : H.WF) : Only (began H) := by
  obtain ⟨h1, h2, _⟩ := began_ok h
  have hm := lnks_isM (ys := H.roots) (s := (H.clear, [])) (clear_wf h)
  intro y hy
  unfold Hm.began at hy h2 ⊢
  rcases (hm y).1 hy with a | ⟨a, b⟩
  · rw [clear_isM] at a; cases a
  · exact h2.reach (.root a (by rw [← (clear_sk H).isSome]; exact b))
end Go.Hm
