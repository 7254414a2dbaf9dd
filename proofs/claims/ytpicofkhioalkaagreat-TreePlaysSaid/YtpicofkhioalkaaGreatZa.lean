
/- What 'Live' and 'Check' come to. -/
import Derived.Test.YtpicofkhioalkaaGreatWk
import Derived.Test.YtpicofkhioalkaaGreatHB
import Derived.Test.YtpicofkhioalkaaGreatRo
set_option maxRecDepth 100000
namespace Go.Hm
open Go Go.Lw Go.Wd Go.Am Go.Tb
structure Hp.Closed (H : Hp) : Prop where
 roots : ∀ x ∈ H.roots, H.may x = true
 refs : ∀ x, ∀ y ∈ refsOf H x, H.may y = true
theorem live_mem {t : Tab} (h : t.WF) {x : Nat} (hx : x ∈ t.live) : ∃ i, t.find x = some i := by
 unfold Tab.live at hx
 obtain ⟨i, hi, h1⟩ := List.mem_filterMap.1 hx
 have hin := List.mem_range.1 hi
 have hmo := h.most
 split at h1
 ·rename_i ht
  cases h1
  unfold Tab.takenAt at ht
  cases hs : t.L[i]? with
  | none => rw [hs] at ht; cases ht
  | some s =>
   rw [hs] at ht
   exact ⟨i, find_of (by omega) hs ht (genAt_of hs).symm⟩
 ·cases h1
theorem live_len (t : Tab) : t.live.length <= t.n := by rw [live_eq]; exact liveTo_len t _
theorem live_u64 {t : Tab} (h : t.WF) {x : Nat} (hx : x ∈ t.live) : x < 18446744073709551616 := by
 obtain ⟨i, hi⟩ := live_mem h hx
 obtain ⟨h1, s, h2, h3, h4⟩ := tfind_iff.1 hi
 have := h.gen _ _ h2
 omega
theorem findL_pos : ∀ {l : List Ob} {k j : Nat} {o : Ob}, l[j]? = some o -> findL k l (k + osz (l.take j)) = some o
 | [], _, _, _, h => by simp at h
 | p :: l, k, 0, o, h => by simp at h; subst h; simp [findL, osz]
 | p :: l, k, j + 1, o, h => by
  simp only [List.getElem?_cons_succ] at h
  simp only [findL, List.take_succ_cons, osz]
  rw [if_neg (by omega)]
  have := findL_pos (k := k + 1 + p.w.length) h
  rw [show k + (1 + p.w.length + osz (l.take j)) = k + 1 + p.w.length + osz (l.take j) by omega]
  exact this
theorem osz_take_succ : ∀ {l : List Ob} {j : Nat} {o : Ob}, l[j]? = some o -> osz (l.take (j + 1)) = osz (l.take j) + 1 + o.w.length
 | [], _, _, h => by simp at h
 | p :: l, 0, o, h => by simp at h; subst h; simp [osz]
 | p :: l, j + 1, o, h => by
  simp only [List.getElem?_cons_succ] at h
  have := osz_take_succ h
  simp only [List.take_succ_cons, osz] at this ⊢
  omega
end Go.Hm
namespace Go.Proofs.YtpicofkhioalkaaGreat
open Go Go.Lw Go.Wd Go.Am Go.Tb Go.Hm
section
variable {H : Hp} {v : Value} {b : Nat} {F : List HP} {w : World}
end
end Go.Proofs.YtpicofkhioalkaaGreat
/- A marking as plain data: a heap, a stack of handles; what Linked, Start, a unit do to them. No program in sight. -/
namespace Go.Am
def Ob.plain (o : Ob) : Ob := { o with mark := false }
def Ob.paint (o : Ob) (on : Bool) : Ob := { o with mark := on }
theorem Ob.paint_ok {o : Ob} (h : o.Ok) (on : Bool) : (o.paint on).Ok := ⟨h.tag, h.refs, h.size, h.owner, h.w64⟩
theorem findL_map : ∀ (l : List Ob) (k a : Nat), findL k (l.map Ob.plain) a = (findL k l a).map Ob.plain
 | [], _, _ => rfl
 | p :: l, k, a => by
  simp only [List.map_cons, findL]
  split
  ·rfl
  ·rw [show p.plain.w.length = p.w.length from rfl]; exact findL_map l _ a
theorem osz_map : ∀ l : List Ob, osz (l.map Ob.plain) = osz l
 | [] => rfl
 | p :: l => by simp only [List.map_cons, osz, osz_map l]; rfl
theorem setL_pos : ∀ {l : List Ob} {k j : Nat} {o o' : Ob}, l[j]? = some o -> setL k l (k + osz (l.take j)) o' = l.set j o'
 | [], _, _, _, _, h => by simp at h
 | p :: l, k, 0, o, o', h => by simp [setL, osz]
 | p :: l, k, j + 1, o, o', h => by
  simp only [List.getElem?_cons_succ] at h
  simp only [setL, List.take_succ_cons, osz, List.set_cons_succ]
  rw [if_neg (by omega), show k + (1 + p.w.length + osz (l.take j)) = k + 1 + p.w.length + osz (l.take j) by omega, setL_pos h]
def unmL : List Ob -> Nat
 | [] => 0
 | o :: l => (if o.mark then 0 else 1) + unmL l
theorem unmL_app : ∀ l m : List Ob, unmL (l ++ m) = unmL l + unmL m
 | [], m => by simp [unmL]
 | o :: l, m => by simp only [List.cons_append, unmL, unmL_app l m]; omega
theorem unmL_plain : ∀ l : List Ob, unmL (l.map Ob.plain) = l.length
 | [] => rfl
 | o :: l => by simp only [List.map_cons, unmL, unmL_plain l, List.length_cons, Ob.plain]; simp; omega
theorem unmL_set : ∀ {l : List Ob} {k a : Nat} {o o' : Ob}, findL k l a = some o -> unmL (setL k l a o') + (if o.mark then 0 else 1) = unmL l + (if o'.mark then 0 else 1)
 | [], _, _, _, _, h => by simp [findL] at h
 | p :: l, k, a, o, o', h => by
  simp only [findL] at h
  simp only [setL]
  split at h
  ·rename_i e; rw [if_pos e]; cases h; simp only [unmL]; omega
  ·rename_i e; rw [if_neg e]; have := unmL_set (o' := o') h; simp only [unmL]; omega
theorem osz_ge : ∀ l : List Ob, l.length <= osz l
 | [] => by simp
 | o :: l => by have := osz_ge l; simp only [List.length_cons, osz]; omega
end Go.Am
namespace Go.Hm
open Go Go.Lw Go.Wd Go.Am Go.Tb
variable {H : Hp}
def Hp.paint (H : Hp) (x : Nat) (on : Bool) : Hp := match H.look x with | some o => H.set x (o.paint on) | none => H
def isM (H : Hp) (x : Nat) : Bool := match H.look x with | some o => o.mark | none => false
def unm (H : Hp) : Nat := unmL H.m.low + unmL H.m.high
abbrev Ms := Hp × List Nat
def lnk (s : Ms) (x : Nat) : Ms := match s.1.look x with | some o => if o.mark then s else (s.1.paint x true, s.2 ++ [x]) | none => s
def Hp.clear (H : Hp) : Hp := { H with m := { H.m with low := H.m.low.map Ob.plain, high := H.m.high.map Ob.plain } }
def began (H : Hp) : Ms := H.roots.foldl lnk (H.clear, [])
def unit (s : Ms) : Ms := match s.2.getLast? with | none => s | some x => (refsOf s.1 x).foldl lnk (s.1, s.2.dropLast)
def units : Nat -> Ms -> Ms
 | 0, s => s
 | n + 1, s => units n (unit s)
def pot (s : Ms) : Nat := s.2.length + unm s.1
theorem unit_nil {s : Ms} (h : s.2 = []) : unit s = s := by unfold unit; rw [h]; rfl
theorem units_nil {s : Ms} (h : s.2 = []) : ∀ n, units n s = s
 | 0 => rfl
 | n + 1 => by unfold units; rw [unit_nil h]; exact units_nil h n
theorem units_add (n m : Nat) (s : Ms) : units (n + m) s = units m (units n s) := by
 induction n generalizing s with
 | zero => rw [Nat.zero_add]; rfl
 | succ n ih => rw [show n + 1 + m = (n + m) + 1 by omega]; exact ih (unit s)
structure Sk (H H' : Hp) : Prop where
 roots : H'.roots = H.roots
 t : H'.t = H.t
 n : H'.m.n = H.m.n
 top : H'.m.top = H.m.top
 op : H'.m.op = H.m.op
 look : ∀ x, (H'.look x).map Ob.plain = (H.look x).map Ob.plain
theorem Sk.refl (H : Hp) : Sk H H := ⟨rfl, rfl, rfl, rfl, rfl, fun _ => rfl⟩
theorem Sk.trans {A B C : Hp} (h : Sk A B) (g : Sk B C) : Sk A C := ⟨g.roots.trans h.roots, g.t.trans h.t, g.n.trans h.n, g.top.trans h.top, g.op.trans h.op, fun x => (g.look x).trans (h.look x)⟩
theorem Sk.some {A B : Hp} (h : Sk A B) {x : Nat} {o : Ob} (ho : A.look x = some o) : ∃ p, B.look x = some p /\ p.refs = o.refs /\ p.w = o.w /\ p.tag = o.tag := by
 have := h.look x
 rw [ho] at this
 cases hb : B.look x with
 | none => rw [hb] at this; cases this
 | some p =>
  rw [hb] at this
  simp only [Option.map_some, Option.some.injEq] at this
  have h1 : p.plain.refs = o.plain.refs := by rw [this]
  have h2 : p.plain.w = o.plain.w := by rw [this]
  have h3 : p.plain.tag = o.plain.tag := by rw [this]
  exact ⟨p, rfl, h1, h2, h3⟩
theorem Sk.none {A B : Hp} (h : Sk A B) {x : Nat} (ho : A.look x = none) : B.look x = none := by
 have := h.look x
 rw [ho] at this
 cases hb : B.look x with
 | none => rfl
 | some p => rw [hb] at this; cases this
theorem Sk.isSome {A B : Hp} (h : Sk A B) (x : Nat) : (B.look x).isSome = (A.look x).isSome := by
 cases ha : A.look x with
 | none => rw [h.none ha]
 | some o => obtain ⟨p, hp, _⟩ := h.some ha; rw [hp]; rfl
theorem Sk.refs {A B : Hp} (h : Sk A B) (x : Nat) : refsOf B x = refsOf A x := by
 unfold refsOf
 cases ha : A.look x with
 | none => rw [h.none ha]
 | some o => obtain ⟨p, hp, h1, h2, _⟩ := h.some ha; rw [hp]; simp only [h1, h2]
theorem Sk.may {A B : Hp} (h : Sk A B) (x : Nat) : B.may x = A.may x := by unfold Hp.may; rw [h.isSome]
theorem Sk.closed {A B : Hp} (h : Sk A B) (hc : A.Closed) : B.Closed :=
 ⟨fun x hx => by rw [h.may]; rw [h.roots] at hx; exact hc.roots x hx, fun x y hy => by rw [h.may]; rw [h.refs] at hy; exact hc.refs x y hy⟩
theorem paint_wf (h : H.WF) (x : Nat) (on : Bool) : (H.paint x on).WF := by
 unfold Hp.paint
 split
 ·rename_i o ho; exact set_wf h ho rfl rfl (Ob.paint_ok (look_ok h ho) on)
 ·exact h
theorem paint_look (h : H.WF) (x : Nat) (on : Bool) (y : Nat) : (H.paint x on).look y = if y = x then (H.look x).map (Ob.paint · on) else H.look y := by
 unfold Hp.paint
 cases ho : H.look x with
 | none =>
  by_cases e : y = x
  ·rw [if_pos e, e]; exact ho
  ·rw [if_neg e]
 | some o => exact set_look h ho (o' := o.paint on) rfl y
theorem paint_sk (h : H.WF) (x : Nat) (on : Bool) : Sk H (H.paint x on) := by
 have hl := paint_look h x on
 unfold Hp.paint at hl ⊢
 cases ho : H.look x with
 | none => exact Sk.refl H
 | some o =>
  rw [ho] at hl
  dsimp only at hl ⊢
  refine ⟨rfl, rfl, rfl, set_top h ho rfl, rfl, fun y => ?_⟩
  rw [hl]
  split
  ·rename_i e; rw [e, ho]; rfl
  ·rfl
theorem paint_isM (h : H.WF) (x : Nat) (y : Nat) : isM (H.paint x true) y = if y = x then (H.look x).isSome else isM H y := by
 unfold isM
 rw [paint_look h]
 by_cases e : y = x
 ·subst e
  rw [if_pos rfl, if_pos rfl]
  cases H.look y <;> rfl
 ·rw [if_neg e, if_neg e]
theorem paint_unm (h : H.WF) {x : Nat} {o : Ob} (ho : H.look x = some o) (hm : o.mark = false) : unm (H.paint x true) + 1 = unm H := by
 unfold Hp.paint unm
 rw [ho]
 dsimp only
 obtain ⟨_, h2⟩ := look_some h ho
 unfold Hp.set
 have hp : (o.paint true).mark = true := rfl
 rcases h.am.find_cases h2 with ⟨h1, _⟩ | ⟨h1, h2, _, _, _⟩
 ·have e : H.m.set (H.place x) (o.paint true) = { H.m with low := setL 0 H.m.low (H.place x) (o.paint true) } := by unfold Am.set; simp [h1]
  have := unmL_set (o' := o.paint true) h1
  rw [hm, hp, if_neg (by decide), if_pos rfl] at this
  simp only [e]
  omega
 ·have e : H.m.set (H.place x) (o.paint true) = { H.m with high := setL H.m.hi H.m.high (H.place x) (o.paint true) } := by unfold Am.set; simp [h1, findL_none_set h1]
  have := unmL_set (o' := o.paint true) h2
  rw [hm, hp, if_neg (by decide), if_pos rfl] at this
  simp only [e]
  omega
theorem clear_find (H : Hp) (a : Nat) : H.clear.m.find a = (H.m.find a).map Ob.plain := by
 unfold Hp.clear Am.find
 dsimp only
 rw [findL_map, findL_map]
 cases findL 0 H.m.low a <;> rfl
theorem clear_look (H : Hp) (x : Nat) : H.clear.look x = (H.look x).map Ob.plain := by
 unfold Hp.look
 have e : H.clear.t = H.t := rfl
 rw [e]
 cases H.t.find x with
 | none => rfl
 | some i => simp only [Option.bind_some, clear_find]
theorem clear_wf (h : H.WF) : H.clear.WF := by
 have hp : ∀ {o : Ob}, o.Ok -> o.plain.Ok := fun {o} h => ⟨h.tag, h.refs, h.size, h.owner, h.w64⟩
 refine ⟨⟨h.am.pos, h.am.most, fun ho => ?_, fun ho => ?_, ?_, fun o ho => ?_, fun o ho => ?_⟩, h.tab, h.rlen, h.r64, fun i s hs ht => ?_, fun k o ho => ?_⟩
 ·have := h.am.gap ho
  simpa [Hp.clear, osz_map] using this
 ·have := h.am.shut ho
  simp [Hp.clear, this.1, this.2]
 ·have := h.am.top
  simpa [Hp.clear, Am.top, osz_map] using this
 ·obtain ⟨p, hq, rfl⟩ := List.mem_map.1 ho
  exact hp (h.am.low p hq)
 ·obtain ⟨p, hq, rfl⟩ := List.mem_map.1 ho
  exact hp (h.am.high p hq)
 ·obtain ⟨o, h1, h2⟩ := h.link i s hs ht
  exact ⟨o.plain, by rw [clear_find, h1]; rfl, h2⟩
 ·rw [clear_find] at ho
  obtain ⟨p, hq, rfl⟩ := Option.map_eq_some_iff.1 ho
  exact h.back k p hq
theorem clear_sk (H : Hp) : Sk H H.clear := by
 refine ⟨rfl, rfl, rfl, by simp [Hp.clear, Am.top, osz_map], rfl, fun x => ?_⟩
 rw [clear_look]
 cases H.look x <;> rfl
theorem clear_isM (H : Hp) (x : Nat) : isM H.clear x = false := by
 unfold isM
 rw [clear_look]
 cases H.look x <;> rfl
theorem clear_unm (H : Hp) : unm H.clear = H.m.low.length + H.m.high.length := by unfold unm Hp.clear; simp only [unmL_plain]
theorem objs_le (h : H.WF) : H.m.low.length + H.m.high.length <= 1048576 := by
 have h1 := osz_ge H.m.low; have h2 := osz_ge H.m.high; have h3 := h.am.top; have h4 := h.am.most; have h5 := h.am.low_le; have h6 := h.am.hi_le
 rcases h.am.apart with ha | ha
 ·omega
 ·rw [ha] at h2 ⊢; simp at h2 ⊢; omega
theorem lnk_wf {s : Ms} (h : s.1.WF) (x : Nat) : (lnk s x).1.WF := by
 unfold lnk
 split
 ·split
  ·exact h
  ·exact paint_wf h x true
 ·exact h
theorem lnk_sk {s : Ms} (h : s.1.WF) (x : Nat) : Sk s.1 (lnk s x).1 := by
 unfold lnk
 split
 ·split
  ·exact Sk.refl _
  ·exact paint_sk h x true
 ·exact Sk.refl _
theorem lnk_pot {s : Ms} (h : s.1.WF) (x : Nat) : pot (lnk s x) = pot s := by
 unfold lnk
 split
 ·rename_i o ho
  split
  ·rfl
  ·rename_i hm
   have := paint_unm h ho (by simpa using hm)
   simp only [pot, List.length_append, List.length_singleton]
   omega
 ·rfl
theorem lnks_ok {s : Ms} (h : s.1.WF) : ∀ ys : List Nat, (ys.foldl lnk s).1.WF /\ Sk s.1 (ys.foldl lnk s).1 /\ pot (ys.foldl lnk s) = pot s := by
 intro ys
 induction ys generalizing s with
 | nil => exact ⟨h, Sk.refl _, rfl⟩
 | cons y ys ih =>
  obtain ⟨h1, h2, h3⟩ := ih (lnk_wf h y)
  exact ⟨h1, (lnk_sk h y).trans h2, h3.trans (lnk_pot h y)⟩
theorem unit_ok {s : Ms} (h : s.1.WF) : (unit s).1.WF /\ Sk s.1 (unit s).1 /\ (s.2 ≠ [] -> pot (unit s) + 1 = pot s) := by
 unfold unit
 cases hl : s.2.getLast? with
 | none => exact ⟨h, Sk.refl _, fun hne => absurd (List.getLast?_eq_none_iff.1 hl) hne⟩
 | some x =>
  obtain ⟨h1, h2, h3⟩ := lnks_ok (s := (s.1, s.2.dropLast)) h (refsOf s.1 x)
  refine ⟨h1, h2, fun hne => ?_⟩
  dsimp only
  rw [h3]
  simp only [pot, List.length_dropLast]
  have : 0 < s.2.length := by
   cases hs : s.2 with
   | nil => exact absurd hs hne
   | cons a l => simp
  omega
theorem units_ok {s : Ms} (h : s.1.WF) : ∀ n, (units n s).1.WF /\ Sk s.1 (units n s).1 /\ ((units n s).2 ≠ [] -> pot (units n s) + n = pot s) := by
 intro n
 induction n generalizing s with
 | zero => exact ⟨h, Sk.refl _, fun _ => rfl⟩
 | succ n ih =>
  obtain ⟨h1, h2, h3⟩ := unit_ok h
  obtain ⟨g1, g2, g3⟩ := ih h1
  refine ⟨g1, h2.trans g2, fun hne => ?_⟩
  have : s.2 ≠ [] := fun e => by
   have e2 : (units (n + 1) s).2 = s.2 := by rw [units_nil e]
   exact hne (by rw [e2, e])
  have a := g3 hne
  have b := h3 this
  have c : units (n + 1) s = units n (unit s) := rfl
  rw [c]
  omega
theorem began_ok (h : H.WF) : (began H).1.WF /\ Sk H (began H).1 /\ pot (began H) = H.m.low.length + H.m.high.length := by
 obtain ⟨h1, h2, h3⟩ := lnks_ok (s := (H.clear, [])) (clear_wf h) H.roots
 refine ⟨h1, (clear_sk H).trans h2, h3.trans ?_⟩
 simp only [pot, List.length_nil, Nat.zero_add, clear_unm]
inductive Reach (H : Hp) : Nat -> Prop
 | root {x : Nat} : x ∈ H.roots -> (H.look x).isSome = true -> Reach H x
 | step {x y : Nat} : Reach H x -> y ∈ refsOf H x -> (H.look y).isSome = true -> Reach H y
theorem Reach.live {x : Nat} (h : Reach H x) : (H.look x).isSome = true := by cases h <;> assumption
theorem mem_meet {l : List Nat} {y z : Nat} : z ∈ meet H l y ↔ z ∈ l ∨ (z = y /\ (H.look y).isSome = true) := by
 unfold meet
 split
 ·rename_i c; simp only [List.mem_append, List.mem_singleton]
  exact ⟨fun h => h.imp id fun e => ⟨e, c.1⟩, fun h => h.imp id fun e => e.1⟩
 ·rename_i c
  refine ⟨.inl, fun h => h.elim id fun ⟨e, hs⟩ => ?_⟩
  subst e
  by_cases hz : z ∈ l
  ·exact hz
  ·exact absurd ⟨hs, hz⟩ c
theorem mem_meets {ys : List Nat} : ∀ {l : List Nat} {z : Nat}, z ∈ meets H l ys ↔ z ∈ l ∨ (z ∈ ys /\ (H.look z).isSome = true) := by
 induction ys with
 | nil => intro l z; simp [meets]
 | cons y ys ih =>
  intro l z
  have e : meets H l (y :: ys) = meets H (meet H l y) ys := rfl
  rw [e, ih, mem_meet, List.mem_cons]
  constructor
  ·rintro ((h | ⟨rfl, h⟩) | ⟨h1, h2⟩)
   ·exact .inl h
   ·exact .inr ⟨.inl rfl, h⟩
   ·exact .inr ⟨.inr h1, h2⟩
  ·rintro (h | ⟨rfl | h1, h2⟩)
   ·exact .inl (.inl h)
   ·exact .inl (.inr ⟨rfl, h2⟩)
   ·exact .inr ⟨h1, h2⟩
theorem walk_reach : ∀ (k : Nat) {z : Nat}, z ∈ walkTo H k -> Reach H z := by
 intro k
 induction k with
 | zero =>
  intro z hz
  rcases mem_meets.1 hz with h | ⟨h1, h2⟩
  ·cases h
  ·exact .root h1 h2
 | succ k ih =>
  intro z hz
  have e : walkTo H (k + 1) = walkStep H k (walkTo H k) := rfl
  rw [e] at hz
  unfold walkStep at hz
  split at hz
  ·rename_i x hx
   rcases mem_meets.1 hz with h | ⟨h1, h2⟩
   ·exact ih h
   ·exact .step (ih (List.mem_of_getElem? hx)) h1 h2
  ·exact ih hz
theorem walk_sub {k j : Nat} (h : k <= j) : walkTo H k <+: walkTo H j := by
 obtain ⟨d, rfl⟩ := Nat.exists_eq_add_of_le h
 clear h
 induction d with
 | zero => exact List.prefix_refl _
 | succ d ih => exact ih.trans (walk_pre (k + d))
theorem order_len (hm : H.WF) : (order H).length <= H.t.n := order_met.len hm
theorem order_step (hm : H.WF) {x y : Nat} (hx : x ∈ order H) (hy : y ∈ refsOf H x) (hl : (H.look y).isSome = true) : y ∈ order H := by
 obtain ⟨k, hk⟩ := List.getElem?_of_mem hx
 have hlt := get_lt hk
 have hn := order_len hm
 have hpre := walk_sub (H := H) (k := k) (j := H.t.n) (by omega)
 by_cases hkl : k < (walkTo H k).length
 ·have hxk : (walkTo H k)[k]? = some x := by
   obtain ⟨t, ht⟩ := hpre
   have : (order H)[k]? = (walkTo H k)[k]? := by unfold order; rw [<- ht, List.getElem?_append_left hkl]
   rw [<- this]; exact hk
  have : y ∈ walkTo H (k + 1) := by
   have e : walkTo H (k + 1) = walkStep H k (walkTo H k) := rfl
   rw [e]
   unfold walkStep
   rw [hxk]
   exact mem_meets.2 (.inr ⟨hy, hl⟩)
  exact (walk_sub (H := H) (k := k + 1) (j := H.t.n) (by omega)).subset this
 ·have hfix := walk_fix (H := H) (k := k) (by omega) (H.t.n - k)
  have e : k + (H.t.n - k) = H.t.n := by omega
  rw [e] at hfix
  unfold order at hlt
  rw [hfix] at hlt
  omega
theorem order_iff (hm : H.WF) {x : Nat} : x ∈ order H ↔ Reach H x := by
 constructor
 ·exact fun h => walk_reach _ h
 ·intro h
  induction h with
  | root a b => exact (walk_sub (H := H) (k := 0) (j := H.t.n) (by omega)).subset (mem_meets.2 (.inr ⟨a, b⟩))
  | step _ a b ih => exact order_step hm ih a b
structure Inv (s : Ms) : Prop where
 wf : s.1.WF
 stack : ∀ x ∈ s.2, isM s.1 x = true
 roots : ∀ x ∈ s.1.roots, (s.1.look x).isSome = true -> isM s.1 x = true
 refs : ∀ x, isM s.1 x = true -> x ∉ s.2 -> ∀ y ∈ refsOf s.1 x, (s.1.look y).isSome = true -> isM s.1 y = true
theorem isM_live {x : Nat} (h : isM H x = true) : (H.look x).isSome = true := by
 unfold isM at h
 split at h
 ·rename_i o ho; rw [ho]; rfl
 ·cases h
theorem lnk_isM {s : Ms} (h : s.1.WF) (x y : Nat) : isM (lnk s x).1 y = (isM s.1 y || (y == x && (s.1.look x).isSome)) := by
 unfold lnk
 cases ho : s.1.look x with
 | none => simp
 | some o =>
  dsimp only
  cases hm : o.mark with
  | true =>
   simp only [if_true]
   by_cases e : y = x
   ·subst e
    have : isM s.1 y = true := by unfold isM; rw [ho]; exact hm
    rw [this]; simp
   ·simp [e]
  | false =>
   simp only [Bool.false_eq_true, if_false]
   rw [paint_isM h, ho]
   by_cases e : y = x
   ·simp [e]
   ·simp [e]
theorem lnk_stack {s : Ms} (x y : Nat) : y ∈ (lnk s x).2 ↔ y ∈ s.2 ∨ (y = x /\ (s.1.look x).isSome = true /\ isM s.1 x = false) := by
 unfold lnk isM
 cases ho : s.1.look x with
 | none => simp
 | some o =>
  dsimp only
  cases hm : o.mark with
  | true => simp
  | false => simp
theorem lnks_isM {ys : List Nat} : ∀ {s : Ms}, s.1.WF -> ∀ y, isM (ys.foldl lnk s).1 y = true ↔ isM s.1 y = true ∨ (y ∈ ys /\ (s.1.look y).isSome = true) := by
 induction ys with
 | nil => intro s h y; simp
 | cons x ys ih =>
  intro s h y
  rw [List.foldl_cons, ih (lnk_wf h x) y, lnk_isM h, (lnk_sk h x).isSome]
  by_cases e : y = x
  ·subst e; simp; grind
  ·simp [e]
theorem lnks_stack {ys : List Nat} : ∀ {s : Ms}, s.1.WF -> ∀ y, y ∈ (ys.foldl lnk s).2 ↔ y ∈ s.2 ∨ (y ∈ ys /\ (s.1.look y).isSome = true /\ isM s.1 y = false) := by
 induction ys with
 | nil => intro s h y; simp
 | cons x ys ih =>
  intro s h y
  rw [List.foldl_cons, ih (lnk_wf h x) y, lnk_stack, (lnk_sk h x).isSome, lnk_isM h]
  by_cases e : y = x
  ·subst e
   cases h1 : (s.1.look y).isSome <;> cases h2 : isM s.1 y <;> simp
  ·simp [e]
theorem Inv.unit {s : Ms} (h : Inv s) : Inv (unit s) := by
 obtain ⟨h1, h2, _⟩ := unit_ok h.wf
 unfold Hm.unit at h1 h2 ⊢
 cases hl : s.2.getLast? with
 | none => rw [hl] at h1 h2; exact h
 | some x =>
  rw [hl] at h1 h2
  dsimp only at h1 h2 ⊢
  have hxs : s.2 = s.2.dropLast ++ [x] := by
   have hne : s.2 ≠ [] := fun e => by rw [e] at hl; cases hl
   have h3 := List.dropLast_concat_getLast hne
   rw [List.getLast?_eq_some_getLast hne] at hl
   cases hl
   exact h3.symm
  have hm := lnks_isM (ys := refsOf s.1 x) (s := (s.1, s.2.dropLast)) h.wf
  have hst := lnks_stack (ys := refsOf s.1 x) (s := (s.1, s.2.dropLast)) h.wf
  refine ⟨h1, fun y hy => ?_, fun y hy hlv => ?_, fun y hy hn z hz hlz => ?_⟩
  ·rcases (hst y).1 hy with a | ⟨a, b, c⟩
   ·exact (hm y).2 (.inl (h.stack y (by rw [hxs]; exact List.mem_append_left _ a)))
   ·exact (hm y).2 (.inr ⟨a, b⟩)
  ·rw [h2.isSome] at hlv
   rw [h2.roots] at hy
   exact (hm y).2 (.inl (h.roots y hy hlv))
  ·rw [h2.isSome] at hlz
   rw [h2.refs] at hz
   rcases (hm y).1 hy with a | ⟨a, b⟩
   ·by_cases hys : y ∈ s.2
    ·rw [hxs] at hys
     rcases List.mem_append.1 hys with c | c
     ·exact absurd ((hst y).2 (.inl c)) hn
     ·simp only [List.mem_singleton] at c
      subst c
      exact (hm z).2 (.inr ⟨hz, hlz⟩)
    ·exact (hm z).2 (.inl (h.refs y a hys z hz hlz))
   ·by_cases c : isM s.1 y = true
    ·by_cases hys : y ∈ s.2
     ·rw [hxs] at hys
      rcases List.mem_append.1 hys with d | d
      ·exact absurd ((hst y).2 (.inl d)) hn
      ·simp only [List.mem_singleton] at d
       subst d
       exact (hm z).2 (.inr ⟨hz, hlz⟩)
     ·exact (hm z).2 (.inl (h.refs y c hys z hz hlz))
    ·exact absurd ((hst y).2 (.inr ⟨a, b, by simpa using c⟩)) hn
theorem Inv.units {s : Ms} (h : Inv s) : ∀ n, Inv (units n s) := by
 intro n
 induction n generalizing s with
 | zero => exact h
 | succ n ih => exact ih h.unit
theorem Inv.began (h : H.WF) : Inv (began H) := by
 obtain ⟨h1, h2, _⟩ := began_ok h
 have hm := lnks_isM (ys := H.roots) (s := (H.clear, [])) (clear_wf h)
 have hst := lnks_stack (ys := H.roots) (s := (H.clear, [])) (clear_wf h)
 unfold Hm.began at h1 h2 ⊢
 refine ⟨h1, fun y hy => ?_, fun y hy hlv => ?_, fun y hy hn z hz hlz => ?_⟩
 ·rcases (hst y).1 hy with a | ⟨a, b, c⟩
  ·cases a
  ·exact (hm y).2 (.inr ⟨a, b⟩)
 ·rw [h2.roots] at hy
  rw [h2.isSome] at hlv
  exact (hm y).2 (.inr ⟨hy, by rw [(clear_sk H).isSome]; exact hlv⟩)
 ·rcases (hm y).1 hy with a | ⟨a, b⟩
  ·rw [clear_isM] at a; cases a
  ·exact absurd ((hst y).2 (.inr ⟨a, b, clear_isM H y⟩)) hn
end Go.Hm
/- Cells that stand, in rows; copied, indexed, cut. No program in sight. (The net's templates have the same lemmas in NDeep, NVast, NArg, NRef.) -/
namespace Go.Lw
open Go Go.Tb
theorem Sat.own_cap {L : List HP} {w : World} {e s l c : Nat} {p : Option Addr} {xs : List Value} (hs : Sat L w) (i : Nat) (hi : L[i]? = some (Own e s p l c xs)) : l <= c := by
 obtain ⟨_, ⟨_, h0, h1⟩ | ⟨_, _, _, h, _⟩⟩ := hs.own i hi
 ·omega
 ·exact h
section
variable {L : List HP} {w : World} {b T : Nat}
end
end Go.Lw
/- What the package mark's functions come to, over a marking as data. -/
set_option maxRecDepth 100000
namespace Go.Proofs.YtpicofkhioalkaaGreat
open Go Go.Lw Go.Wd Go.Am Go.Tb Go.Hm
def MkH (b mb : Nat) (st : List Nat) (run : Bool) : HP := HEx fun q : Option Addr × Nat => star (Row mb [.pointer (some ⟨b, 0, none⟩), .slice q.1 st.length q.2, .bool run] 162) (Own 32 1 q.1 st.length q.2 (words st))
theorem mk_open {b mb : Nat} {st : List Nat} {run : Bool} {F : List HP} {w : World} (hs : Sat (MkH b mb st run :: F) w) : ∃ p c, Sat (Row mb [.pointer (some ⟨b, 0, none⟩), .slice p st.length c, .bool run] 162 :: Own 32 1 p st.length c (words st) :: F) w := by
 obtain ⟨⟨p, c⟩, h⟩ := hs.ex
 exact ⟨p, c, h.split⟩
theorem mk_shut {b mb : Nat} {st : List Nat} {run : Bool} {F : List HP} {w : World} {p : Option Addr} {c : Nat} (hs : Sat (Row mb [.pointer (some ⟨b, 0, none⟩), .slice p st.length c, .bool run] 162 :: Own 32 1 p st.length c (words st) :: F) w) : Sat (MkH b mb st run :: F) w :=
 Sat.mkEx (p, c) hs.join
section
variable {H : Hp} {v : Value} {b mb : Nat} {st : List Nat} {run : Bool} {F : List HP} {w : World}
theorem mset_c (hs : Sat (HeapH H v b :: MkH b mb st run :: F) w) {x : Nat} (hx : x < 18446744073709551616) (on : Bool) : Calls Tryz.prog 146 #[.pointer (some ⟨mb, 0, none⟩), .int .u64 (x : Int), .bool on] w
  (Ret (.tuple #[]) (Sat (HeapH (H.paint x on) v b :: MkH b mb st run :: F))) := by
 have hm := sat_wf hs
 refine S_mark_Marker_set_ok _ _ _ _ _ ?_
 unfold S_mark_Marker_set
 obtain ⟨p, c, h1⟩ := mk_open hs.p1
 simp only [onSome_some]
 refine LdP.of h1 0 rfl (off := 0) rfl rfl ?_
 have h2 : Sat (HeapH H v b :: Row mb [.pointer (some ⟨b, 0, none⟩), .slice p st.length c, .bool run] 162 :: Own 32 1 p st.length c (words st) :: F) w := h1.pull 2 rfl
 refine (htable_c h2).mono ?_
 rintro e w1 ⟨rfl, ba, bt, rfl, h3⟩
 refine ⟨_, rfl, ?_⟩
 refine (at_c (h3.pull 2 rfl) hx).mono ?_
 rintro e w1 ⟨rfl, rfl⟩
 cases hf : H.t.find x with
 | none =>
  have hl := (look_none hm).2 hf
  have e : H.paint x on = H := by unfold Hp.paint; rw [hl]
  refine ⟨_, _, rfl, cond_f rfl ⟨rfl, ?_⟩⟩
  rw [e]; exact hs
 | some i =>
  obtain ⟨o, g1, g2, g3, g4⟩ := look_find hm hf
  refine ⟨_, _, rfl, cond_t rfl ?_⟩
  refine LdP.of h1 0 rfl (off := 0) rfl rfl ?_
  refine (harena_c h2).mono ?_
  rintro e w1 ⟨rfl, ba, bt, rfl, h4⟩
  refine ⟨_, rfl, ?_⟩
  refine (mark2 (h4.pull 1 rfl) _ on).mono ?_
  intro e w1 hp
  rcases hp with ⟨h5, _⟩ | ⟨k, o', e1, h5, h6⟩
  ·rw [findI_nat, g2] at h5; cases h5
  ·have e1 : k = H.t.atOf i := by omega
   subst e1
   rw [g2] at h5
   cases h5
   obtain ⟨h6, h7⟩ := h6
   have e : H.paint x on = H.set x (o.paint on) := by unfold Hp.paint; rw [g1]
   refine ⟨0, h6, rfl, ?_⟩
   have hpw := paint_wf hm x on
   rw [e] at hpw ⊢
   have em : (H.set x (o.paint on)).m = H.m.set (H.t.atOf i) (o.marked on) := by unfold Hp.set; rw [g4]; rfl
   have h8 : Sat (Arena (H.set x (o.paint on)).m ba :: Row b (hrow ba bt H.roots v) 106 :: Tbl H.t bt :: Row mb [.pointer (some ⟨b, 0, none⟩), .slice p st.length c, .bool run] 162 :: Own 32 1 p st.length c (words st) :: F) w1 := by rw [em]; exact h7
   have h9 := heap_shut (H := H.set x (o.paint on)) hpw (ba := ba) (bt := bt) (v := v) (b := b) (Sat.p1 h8)
   exact (mk_shut (h9.pull 2 rfl |>.pull 2 rfl)).p1
theorem mmarked_c (hs : Sat (HeapH H v b :: MkH b mb st run :: F) w) {x : Nat} (hx : x < 18446744073709551616) : Calls Tryz.prog 145 #[.pointer (some ⟨mb, 0, none⟩), .int .u64 (x : Int)] w
  (Ret (.tuple #[.bool (isM H x), .int .i64 (if (H.look x).isSome = true then 0 else 6)]) (Sat (HeapH H v b :: MkH b mb st run :: F))) := by
 have hm := sat_wf hs
 refine S_mark_Marker_Marked_ok _ _ _ _ ?_
 unfold S_mark_Marker_Marked
 obtain ⟨p, c, h1⟩ := mk_open hs.p1
 simp only [onSome_some]
 refine LdP.of h1 0 rfl (off := 0) rfl rfl ?_
 have h2 : Sat (HeapH H v b :: Row mb [.pointer (some ⟨b, 0, none⟩), .slice p st.length c, .bool run] 162 :: Own 32 1 p st.length c (words st) :: F) w := h1.pull 2 rfl
 refine (htable_c h2).mono ?_
 rintro e w1 ⟨rfl, ba, bt, rfl, h3⟩
 refine ⟨_, rfl, ?_⟩
 refine (at_c (h3.pull 2 rfl) hx).mono ?_
 rintro e w1 ⟨rfl, rfl⟩
 unfold isM
 cases hf : H.t.find x with
 | none =>
  have hl := (look_none hm).2 hf
  refine ⟨_, _, rfl, cond_t rfl ⟨?_, hs⟩⟩
  rw [hl]; rfl
 | some i =>
  obtain ⟨o, g1, g2, g3, g4⟩ := look_find hm hf
  refine ⟨_, _, rfl, cond_f rfl ?_⟩
  refine LdP.of h1 0 rfl (off := 0) rfl rfl ?_
  refine (harena_c h2).mono ?_
  rintro e w1 ⟨rfl, ba, bt, rfl, h4⟩
  refine ⟨_, rfl, ?_⟩
  refine (head2 (h4.pull 1 rfl) _).mono ?_
  rw [findI_nat, g2]
  rintro e w2 ⟨rfl, h5⟩
  refine ⟨_, _, _, _, _, _, rfl, ?_⟩
  refine NewC.ofRow h5 fun d w3 h6 => ?_
  refine st5 h6 0 rfl fun w4 h7 => ?_
  refine cond_f rfl ?_
  refine LdB.of h7 0 rfl (off := 3) rfl (add_mk _ _ _) ?_
  have h8 : Sat (Arena H.m ba :: Row b (hrow ba bt H.roots v) 106 :: Tbl H.t bt :: Row mb [.pointer (some ⟨b, 0, none⟩), .slice p st.length c, .bool run] 162 :: Own 32 1 p st.length c (words st) :: F) w4 := h7.drop
  have h9 := heap_shut hm (ba := ba) (bt := bt) h8.p1
  refine ⟨?_, (mk_shut (h9.pull 2 rfl |>.pull 2 rfl)).p1⟩
  rw [g1]; rfl
theorem mmade_c (hs : Sat (HeapH H v b :: MkH b mb st run :: F) w) {x : Nat} (hx : x < 18446744073709551616) : Calls Tryz.prog 170 #[.pointer (some ⟨mb, 0, none⟩), .int .u64 (x : Int)] w
  (Ret (.tuple #[]) (Sat (HeapH (H.paint x true) v b :: MkH b mb st run :: F))) := by
 refine S_mark_Marker_Made_ok _ _ _ _ ?_
 unfold S_mark_Marker_Made
 refine (mset_c hs hx true).mono ?_
 rintro e w1 ⟨rfl, h1⟩
 exact ⟨rfl, rfl, h1⟩
theorem mlinked_c (hs : Sat (HeapH H v b :: MkH b mb st run :: F) w) (hst : st.length <= 1048576) {x : Nat} (hx : x < 18446744073709551616) : Calls Tryz.prog 115 #[.pointer (some ⟨mb, 0, none⟩), .int .u64 (x : Int)] w
  (Ret (.tuple #[]) (Sat (HeapH (lnk (H, st) x).1 v b :: MkH b mb (lnk (H, st) x).2 run :: F))) := by
 refine S_mark_Marker_Linked_ok _ _ _ _ ?_
 unfold S_mark_Marker_Linked
 refine (mmarked_c hs hx).mono ?_
 rintro e w1 ⟨rfl, h1⟩
 refine ⟨_, _, rfl, ?_⟩
 unfold lnk isM
 dsimp only
 cases hl : H.look x with
 | none => exact cond_f rfl ⟨rfl, h1⟩
 | some o =>
  refine cond_t rfl ?_
  dsimp only
  cases hmk : o.mark with
  | true => exact cond_f rfl ⟨rfl, by rw [if_pos rfl]; exact h1⟩
  | false =>
   refine cond_t rfl ?_
   refine (mset_c h1 hx true).mono ?_
   rintro e w2 ⟨rfl, h2⟩
   refine ⟨rfl, ?_⟩
   simp only [onSome_some]
   obtain ⟨p, c, h3⟩ := mk_open h2.p1
   refine LdS.of h3 0 rfl (off := 1) rfl (add_mk _ _ _) ?_
   refine RunS.one eok_u64 h3 1 rfl (by rfl) (by rfl) (by omega) (by simp only [maxLen]; omega) fun p' c' w3 h4 => ?_
   refine StC.of h4 0 rfl (off := 1) rfl (add_mk _ _ _) fun w4 h5 => ?_
   refine ⟨rfl, ?_⟩
   rw [if_neg (by decide)]
   dsimp only
   refine (mk_shut (p := p') (c := c') ?_).p1
   rw [words_snoc, List.length_append, List.length_singleton]
   exact h5
theorem mwaiting_c (hs : Sat (HeapH H v b :: MkH b mb st run :: F) w) : Calls Tryz.prog 67 #[.pointer (some ⟨mb, 0, none⟩)] w fun e w' => e = .returned (.int .i64 (st.length : Nat)) /\ w = w' := by
 refine S_mark_Marker_Waiting_ok _ _ _ ?_
 unfold S_mark_Marker_Waiting
 obtain ⟨p, c, h1⟩ := mk_open hs.p1
 simp only [onSome_some]
 refine LdS.of h1 0 rfl (off := 1) rfl (add_mk _ _ _) ?_
 exact ⟨rfl, trivial⟩
theorem mstop_c (hs : Sat (HeapH H v b :: MkH b mb st run :: F) w) : Calls Tryz.prog 68 #[.pointer (some ⟨mb, 0, none⟩)] w fun e w' =>
  if run = true then Ret (.int .i64 0) (Sat (HeapH H .nilIface b :: MkH b mb [] false :: F)) e w' else Ret (.int .i64 16) (Sat (HeapH H v b :: MkH b mb st false :: F)) e w' := by
 refine S_mark_Marker_Stop_ok _ _ _ ?_
 unfold S_mark_Marker_Stop
 obtain ⟨p, c, h1⟩ := mk_open hs.p1
 simp only [onSome_some]
 refine LdB.of h1 0 rfl (off := 2) rfl (add_mk _ _ _) ?_
 cases run with
 | false => exact cond_t rfl ⟨rfl, hs⟩
 | true =>
  refine cond_f rfl ?_
  refine StC.of h1 0 rfl (off := 2) rfl (add_mk _ _ _) fun w1 h2 => ?_
  refine StC.of h2 0 rfl (off := 1) rfl (add_mk _ _ _) fun w2 h3 => ?_
  refine LdP.of h3 0 rfl (off := 0) rfl rfl ?_
  have h4 : Sat (Own 32 1 p st.length c (words st) :: Row mb [.pointer (some ⟨b, 0, none⟩), .slice none 0 0, .bool false] 162 :: HeapH H v b :: F) w2 := Sat.pull h3 1 rfl
  have h5 : Sat (HeapH H v b :: MkH b mb [] false :: F) w2 := (mk_shut (st := []) ((h4.drop.ownNil 32 1).p1)).p1
  refine (watch_c (v' := .nilIface) rfl h5).mono ?_
  rintro e w3 ⟨rfl, h6⟩
  exact ⟨rfl, rfl, h6⟩
theorem mnew_c (hs : Sat (HeapH H v b :: F) w) : Calls Tryz.prog 64 #[.pointer (some ⟨b, 0, none⟩)] w fun e w' => ∃ mb, e = .returned (.pointer (some ⟨mb, 0, none⟩)) /\ Sat (HeapH H v b :: MkH b mb [] false :: F) w' := by
 refine S_mark_New_ok _ _ _ ?_
 unfold S_mark_New
 refine NewC.ofRow hs fun mb w1 h1 => ?_
 exact ⟨mb, rfl, (mk_shut (st := []) ((h1.ownNil 32 1).p1)).p1⟩
def mkW (mb : Nat) : Value := .iface 98 (.pointer (some ⟨mb, 0, none⟩))
theorem munit_c (hs : Sat (HeapH H v b :: MkH b mb st run :: F) w) (hne : st ≠ []) (hp : pot (H, st) <= 1048576) (hu : ∀ x ∈ st, x < 18446744073709551616) : Calls Tryz.prog 116 #[.pointer (some ⟨mb, 0, none⟩)] w
  (Ret (.tuple #[]) (Sat (HeapH (unit (H, st)).1 v b :: MkH b mb (unit (H, st)).2 run :: F))) := by
 have hm := sat_wf hs
 refine S_mark_Marker_unit_ok _ _ _ ?_
 unfold S_mark_Marker_unit
 have hlast : st.getLast? = some (st.getLast hne) := List.getLast?_eq_some_getLast hne
 have hdl : st = st.dropLast ++ [st.getLast hne] := (List.dropLast_concat_getLast hne).symm
 have hxu := hu _ (List.getLast_mem hne)
 have hun : unit (H, st) = (refsOf H (st.getLast hne)).foldl lnk (H, st.dropLast) := by unfold unit; dsimp only; rw [hlast]
 have hlen : 0 < st.length := by
  cases st with
  | nil => exact absurd rfl hne
  | cons a l => simp
 have hgl : st[st.length - 1]? = some (st.getLast hne) := by rw [<- List.getLast?_eq_getElem?, hlast]
 generalize st.getLast hne = x at hlast hdl hxu hun hgl
 have hp' : st.length + unm H <= 1048576 := hp
 simp only [onSome_some]
 obtain ⟨p, c, h1⟩ := mk_open hs.drew.p1
 refine LdS.of h1 0 rfl (off := 1) rfl (add_mk _ _ _) ?_
 refine LdS.of h1 0 rfl (off := 1) rfl (add_mk _ _ _) ?_
 have hi : IntKind.wrap .i64 ((st.length : Int) - 1) = ((st.length - 1 : Nat) : Int) := by rw [wrapI64 (by omega) (by omega)]; omega
 refine own_word h1 1 rfl rfl hgl hi ?_
 have h2 := h1.drew
 refine LdS.of h2 0 rfl (off := 1) rfl (add_mk _ _ _) ?_
 refine LdS.of h2 0 rfl (off := 1) rfl (add_mk _ _ _) ?_
 rw [hi]
 have hcap := h2.own_cap 1 rfl
 refine SlC.of 0 (st.length - 1) c rfl rfl rfl (by omega) (by omega) (by omega) ?_
 rw [slAddr_zero, Nat.sub_zero, Nat.sub_zero]
 refine StC.of h2 0 rfl (off := 1) rfl (add_mk _ _ _) fun w1 h3 => ?_
 have h4 := h3.ownTake 1 rfl (l' := st.length - 1) (by omega)
 have hdw : (words st).take ((st.length - 1) * 1) = words st.dropLast := by
  rw [Nat.mul_one, List.dropLast_eq_take]; simp [words, List.map_take]
 have hdlen : st.dropLast.length = st.length - 1 := List.length_dropLast
 have h5 : Sat (HeapH H v b :: MkH b mb st.dropLast run :: F) w1 := by
  refine (mk_shut (p := p) (c := c) ?_).p1
  rw [<- hdw, hdlen]
  exact h4
 clear h1 h2 h3 h4
 obtain ⟨p2, c2, h6⟩ := mk_open h5.p1
 refine LdP.of h6 0 rfl (off := 0) rfl rfl ?_
 clear h6
 refine (hhead_c h5 hxu).mono ?_
 rintro e w2 ⟨rfl, h6⟩
 cases ho : H.look x with
 | none =>
  refine ⟨_, _, _, _, rfl, ?_⟩
  refine ⟨fun i w => i = 0 /\ Sat (HeapH H v b :: MkH b mb st.dropLast run :: F) w, fun _ _ => 0, ⟨rfl, h6⟩, ?_⟩
  rintro i w3 ⟨rfl, h7⟩
  unfold S_mark_Marker_unit_l0
  refine cond_f (by simp) ⟨rfl, ?_⟩
  rw [hun]
  have : refsOf H x = [] := by unfold refsOf; rw [ho]
  rw [this]
  exact h7
 | some o =>
  have hro := (look_ok hm ho).refs; have hzo := (look_ok hm ho).size
  refine ⟨_, _, _, _, rfl, ?_⟩
  have hrl := refsOf_len hm ho
  refine ⟨fun i w => ∃ k : Nat, i = k /\ k <= o.refs /\ Sat (HeapH (((refsOf H x).take k).foldl lnk (H, st.dropLast)).1 v b :: MkH b mb (((refsOf H x).take k).foldl lnk (H, st.dropLast)).2 run :: F) w, fun i _ => (o.refs - i).toNat, ⟨0, rfl, by omega, h6⟩, ?_⟩
  rintro i w3 ⟨k, rfl, hk, h7⟩
  unfold S_mark_Marker_unit_l0
  by_cases hlt : k < o.refs
  ·refine cond_t (by simp; omega) ?_
   simp only [onSome_some]
   obtain ⟨g1, g2, g3⟩ := lnks_ok (s := (H, st.dropLast)) hm ((refsOf H x).take k)
   have hgx := refsOf_get hm ho hlt
   have hyu := w_u64 hm ho k
   generalize hS : ((refsOf H x).take k).foldl lnk (H, st.dropLast) = s at h7 g1 g2 g3
   obtain ⟨o', ho', e1, e2, _⟩ := g2.some ho
   obtain ⟨p2, c2, h8⟩ := mk_open h7.p1
   refine LdP.of h8 0 rfl (off := 0) rfl rfl ?_
   clear h8
   have href : Hp.ref s.1 x (k : Int) = (o.w.getD k 0, 0) := by simp only [Hp.ref, ho']; rw [if_pos (by omega), Int.toNat_natCast, e2]
   refine (href_c h7 hxu k).mono ?_
   rw [href]
   rintro e w4 ⟨rfl, h8⟩
   refine ⟨_, _, rfl, ?_⟩
   have hsl : s.2.length <= 1048576 := by
    have : s.2.length + unm s.1 = st.dropLast.length + unm H := g3
    omega
   refine (mlinked_c h8 hsl hyu).mono ?_
   rintro e w5 ⟨rfl, h9⟩
   refine ⟨rfl, ?_⟩
   rw [wrapI64 (by omega) (by omega)]
   refine ⟨⟨k + 1, by omega, by omega, ?_⟩, by first | omega | (dsimp only; omega)⟩
   rw [List.take_add_one, hgx, Option.toList_some, List.foldl_append, hS]
   exact h9
  ·refine cond_f (by simp; omega) ⟨rfl, ?_⟩
   have htk : (refsOf H x).take k = refsOf H x := List.take_of_length_le (by omega)
   rw [htk] at h7
   rw [hun]
   exact h7
theorem lnks_u64 {s : Ms} (h : s.1.WF) {ys : List Nat} (hs : ∀ x ∈ s.2, x < 18446744073709551616) : ∀ x ∈ (ys.foldl lnk s).2, x < 18446744073709551616 := by
 intro x hx
 rcases (lnks_stack h x).1 hx with a | ⟨_, a, _⟩
 ·exact hs x a
 ·obtain ⟨o, ho⟩ := Option.isSome_iff_exists.1 a
  exact look_lt h ho
theorem unit_u64 {s : Ms} (h : s.1.WF) (hs : ∀ x ∈ s.2, x < 18446744073709551616) : ∀ x ∈ (unit s).2, x < 18446744073709551616 := by
 unfold unit
 split
 ·exact hs
 ·exact lnks_u64 (s := (s.1, s.2.dropLast)) h fun x hx => hs x ((List.dropLast_sublist _).subset hx)
theorem mstep_c (hs : Sat (HeapH H v b :: MkH b mb st true :: F) w) {n : Nat} (hn : 1 <= n) (hn2 : n < 9223372036854775808) (hp : pot (H, st) <= 1048576) (hu : ∀ x ∈ st, x < 18446744073709551616) : Calls Tryz.prog 71 #[.pointer (some ⟨mb, 0, none⟩), .int .i64 (n : Int)] w
  (Ret (.tuple #[.bool (decide ((units n (H, st)).2 = [])), .int .i64 0]) (Sat (HeapH (units n (H, st)).1 v b :: MkH b mb (units n (H, st)).2 true :: F))) := by
 have hm := sat_wf hs
 refine S_mark_Marker_Step_ok _ _ _ _ ?_
 unfold S_mark_Marker_Step
 obtain ⟨p, c, h1⟩ := mk_open hs.p1
 simp only [onSome_some]
 refine LdB.of h1 0 rfl (off := 2) rfl (add_mk _ _ _) ?_
 refine cond_f rfl (cond_f (by simp; omega) ?_)
 clear h1
 intro k0 hk0
 have fin : ∀ w s, units n (H, st) = s -> Sat (HeapH s.1 v b :: MkH b mb s.2 true :: F) w -> k0 w := by
  intro w s he h
  refine hk0 _ ?_
  unfold S_mark_Marker_Step_j0
  obtain ⟨p, c, h1⟩ := mk_open h.p1
  simp only [onSome_some]
  refine LdS.of h1 0 rfl (off := 1) rfl (add_mk _ _ _) ?_
  refine ⟨?_, by rw [he]; exact h⟩
  rw [he]
  cases s.2 with
  | nil => rfl
  | cons a l =>
   have : ((((a :: l).length : Nat) : Int) == 0) = false := by simp; omega
   rw [this]; simp
 refine ⟨fun i w => ∃ (k : Nat) (s : Ms), i = k /\ k <= n /\ units k s = units n (H, st) /\ s.1.WF /\ pot s <= 1048576 /\ (∀ x ∈ s.2, x < 18446744073709551616) /\ Sat (HeapH s.1 v b :: MkH b mb s.2 true :: F) w, fun i _ => i.toNat, ⟨n, (H, st), rfl, Nat.le_refl _, rfl, hm, hp, hu, hs⟩, ?_⟩
 rintro i w1 ⟨k, s, rfl, hk, he, hw, hps, hus, h1⟩
 unfold S_mark_Marker_Step_l0
 cases k with
 | zero => exact cond_f (by simp) (fin _ s he.symm h1)
 | succ k =>
  refine cond_t (by simp) ?_
  obtain ⟨p, c, h2⟩ := mk_open h1.p1
  simp only [onSome_some]
  refine LdS.of h2 0 rfl (off := 1) rfl (add_mk _ _ _) ?_
  clear h2
  by_cases hne : s.2 = []
  ·refine cond_f (by simp [hne]) (fin _ s ?_ h1)
   rw [<- he, units_nil hne]
  ·refine cond_t ?_ ?_
   ·cases hsl : s.2 with
    | nil => exact absurd hsl hne
    | cons a l => simp
   refine (munit_c h1 hne hps hus).mono ?_
   rintro e w2 ⟨rfl, h2⟩
   refine ⟨rfl, ?_⟩
   rw [wrapI64 (by omega) (by omega)]
   obtain ⟨g1, g2, g3⟩ := unit_ok hw
   have := g3 hne
   refine ⟨⟨k, unit s, by omega, by omega, he, g1, by omega, unit_u64 hw hus, h2⟩, by first | omega | (dsimp only; omega)⟩
def clr (m : Am) (j : Nat) : Am := { m with low := (m.low.take j).map Ob.plain ++ m.low.drop j }
theorem clr_osz (m : Am) (j i : Nat) : osz (((m.low.take j).map Ob.plain ++ m.low.drop j).take i) = osz (m.low.take i) := by
 have key : ∀ (l : List Ob) (j i : Nat), osz (((l.take j).map Ob.plain ++ l.drop j).take i) = osz (l.take i) := by
  intro l
  induction l with
  | nil => intro j i; simp
  | cons p l ih =>
   intro j i
   cases i with
   | zero => simp [osz]
   | succ i =>
    cases j with
    | zero => rfl
    | succ j =>
     simp only [List.take_succ_cons, List.map_cons, List.drop_succ_cons, List.cons_append, osz, ih j i]
     rfl
 exact key m.low j i
theorem mstart_c (hs : Sat (HeapH H v b :: MkH b mb st false :: F) w) (hop : H.m.op = false) : Calls Tryz.prog 66 #[.pointer (some ⟨mb, 0, none⟩)] w
  (Ret (.int .i64 0) (Sat (HeapH (began H).1 (mkW mb) b :: MkH b mb (began H).2 true :: F))) := by
 have hm := sat_wf hs
 refine S_mark_Marker_Start_ok _ _ _ ?_
 unfold S_mark_Marker_Start
 obtain ⟨p, c, h1⟩ := mk_open hs.p1
 simp only [onSome_some]
 refine LdB.of h1 0 rfl (off := 2) rfl (add_mk _ _ _) ?_
 refine cond_f rfl ?_
 refine StC.of h1 0 rfl (off := 2) rfl (add_mk _ _ _) fun w1 h2 => ?_
 refine StC.of h2 0 rfl (off := 1) rfl (add_mk _ _ _) fun w2 h3 => ?_
 refine LdP.of h3 0 rfl (off := 0) rfl rfl ?_
 have h4 : Sat (Own 32 1 p st.length c (words st) :: Row mb [.pointer (some ⟨b, 0, none⟩), .slice none 0 0, .bool true] 162 :: HeapH H v b :: F) w2 := Sat.pull h3 1 rfl
 have h5 : Sat (HeapH H v b :: MkH b mb [] true :: F) w2 := (mk_shut (st := []) ((h4.drop.ownNil 32 1).p1)).p1
 clear h1 h2 h3 h4
 refine (harena_c h5).mono ?_
 rintro e w3 ⟨rfl, ba, bt, rfl, h6⟩
 refine ⟨_, rfl, ?_⟩
 refine (first2 (h6.pull 1 rfl)).mono ?_
 rintro e w3 ⟨rfl, rfl⟩
 refine ⟨_, rfl, ?_⟩
 intro k0 hk0
 have hnx : ∀ (m : Am) (k : Nat), m.op = false -> m.next k = k := fun m k h => by simp [Am.next, h]
 have hhigh := (hm.am.shut hop).2
 rw [hnx _ _ hop]
 have hct : ∀ j, (clr H.m j).top = H.m.top := fun j => by
  have := clr_osz H.m j H.m.low.length
  rw [List.take_of_length_le (by simp; omega), List.take_length] at this
  simp only [Am.top, clr, hop, cond_false, this]
 have htop : H.m.top = osz H.m.low := by simp [Am.top, hop]
 have hle := hm.am.top
 have hmm := hm.am.most
 have fin : ∀ w, Sat (Row b (hrow ba bt H.roots v) 106 :: Arena (clr H.m H.m.low.length) ba :: Tbl H.t bt :: MkH b mb [] true :: F) w -> k0 w := by
  intro w h7
  refine hk0 _ ?_
  have ecl : clr H.m H.m.low.length = H.clear.m := by
   unfold clr Hp.clear
   rw [List.take_length, List.drop_length, List.append_nil, hhigh]
   rfl
  rw [ecl] at h7
  have h8 : Sat (HeapH H.clear v b :: MkH b mb [] true :: F) w := heap_shut (clear_wf hm) h7
  unfold S_mark_Marker_Start_j0
  refine ⟨fun i w => ∃ k : Nat, i = k /\ k <= 16 /\ Sat (HeapH ((H.roots.take k).foldl lnk (H.clear, [])).1 v b :: MkH b mb ((H.roots.take k).foldl lnk (H.clear, [])).2 true :: F) w, fun i _ => (16 - i).toNat, ⟨0, rfl, by omega, h8⟩, ?_⟩
  clear h7 h8
  rintro i w4 ⟨k, rfl, hk, h9⟩
  unfold S_mark_Marker_Start_l1
  simp only [onSome_some]
  obtain ⟨g1, g2, g3⟩ := lnks_ok (s := (H.clear, [])) (clear_wf hm) (H.roots.take k)
  by_cases hlt : k < 16
  ·refine cond_t (by simp; omega) ?_
   generalize hS : (H.roots.take k).foldl lnk (H.clear, []) = s at h9 g1 g2 g3
   obtain ⟨p2, c2, h10⟩ := mk_open h9.p1
   refine LdP.of h10 0 rfl (off := 0) rfl rfl ?_
   clear h10
   have hr := hm.rlen
   have hx : H.roots[k]? = some (H.roots[k]'(by omega)) := List.getElem?_eq_getElem (by omega)
   have hxu := hm.r64 _ (List.getElem_mem (l := H.roots) (n := k) (by omega))
   generalize H.roots[k]'(by omega) = x at hx hxu
   refine (grt_c h9 (i := k) (y := x) (by rw [g2.roots]; exact hx) rfl).mono ?_
   rintro e w5 ⟨rfl, h10⟩
   refine ⟨_, _, rfl, ?_⟩
   have hpot : s.2.length + unm s.1 = [].length + unm H.clear := g3
   rw [clear_unm] at hpot
   have hob := objs_le hm
   refine (mlinked_c h10 (by simp at hpot; omega) hxu).mono ?_
   rintro e w6 ⟨rfl, h11⟩
   refine ⟨rfl, ?_⟩
   rw [wrapI64 (by omega) (by omega)]
   refine ⟨⟨k + 1, by omega, by omega, ?_⟩, by first | omega | (dsimp only; omega)⟩
   rw [List.take_add_one, hx, Option.toList_some, List.foldl_append, hS]
   exact h11
  ·refine cond_f (by simp; omega) ?_
   have htk : H.roots.take k = H.roots := List.take_of_length_le (by have := hm.rlen; omega)
   rw [htk] at h9
   obtain ⟨p2, c2, h10⟩ := mk_open h9.p1
   refine LdP.of h10 0 rfl (off := 0) rfl rfl ?_
   clear h10
   refine (watch_c (v' := mkW mb) rfl h9).mono ?_
   rintro e w5 ⟨rfl, h10⟩
   exact ⟨rfl, rfl, h10⟩
 have hc0 : clr H.m 0 = H.m := by unfold clr; simp
 refine ⟨fun a w => ∃ j : Nat, a = (osz (H.m.low.take j) : Nat) /\ j <= H.m.low.length /\ Sat (Row b (hrow ba bt H.roots v) 106 :: Arena (clr H.m j) ba :: Tbl H.t bt :: MkH b mb [] true :: F) w, fun a _ => (H.m.top - a).toNat, ⟨0, rfl, by omega, by rw [hc0]; exact h6⟩, ?_⟩
 clear h5 h6
 rintro a w4 ⟨j, rfl, hj, h7⟩
 unfold S_mark_Marker_Start_l0
 refine (top2 (h7.pull 1 rfl)).mono ?_
 rintro e w5 ⟨rfl, rfl⟩
 rw [hct]
 refine ⟨_, rfl, ?_⟩
 by_cases hjl : j < H.m.low.length
 ·have ho : H.m.low[j]? = some (H.m.low[j]'hjl) := List.getElem?_eq_getElem hjl
  generalize H.m.low[j]'hjl = o at ho
  have hsu := osz_take_succ ho
  have hup : ∀ (l : List Ob) (k : Nat), osz (l.take k) <= osz l := fun l => by
   induction l with
   | nil => intro k; simp [osz]
   | cons p l ih =>
    intro k
    cases k with
    | zero => simp [osz]
    | succ k => simp only [List.take_succ_cons, osz]; have := ih k; omega
  have hup := hup H.m.low (j + 1)
  refine cond_t (by simp; omega) ?_
  have hcj : (clr H.m j).low[j]? = some o := by
   unfold clr
   dsimp only
   rw [List.getElem?_append_right (by simp; omega)]
   simp only [List.length_map, List.length_take, List.getElem?_drop]
   rw [show j + (j - min j H.m.low.length) = j by omega]
   exact ho
  have hpj : osz ((clr H.m j).low.take j) = osz (H.m.low.take j) := clr_osz H.m j j
  have hfj : (clr H.m j).find (osz (H.m.low.take j)) = some o := by
   have := findL_pos (k := 0) hcj
   rw [Nat.zero_add, hpj] at this
   simp [Am.find, this]
  refine (mark2 (h7.pull 1 rfl) _ false).mono ?_
  intro e w5 hp
  rcases hp with ⟨h8, _⟩ | ⟨k, o', e1, h8, h9⟩
  ·rw [findI_nat, hfj] at h8; cases h8
  ·have e1 : k = osz (H.m.low.take j) := by omega
   subst e1
   rw [hfj] at h8
   cases h8
   obtain ⟨h9, h10⟩ := h9
   refine ⟨0, h9, ?_⟩
   have hset : (clr H.m j).set (osz (H.m.low.take j)) (o.marked false) = clr H.m (j + 1) := by
    have hs1 := setL_pos (k := 0) (o' := o.marked false) hcj
    rw [Nat.zero_add, hpj] at hs1
    have hf1 := findL_pos (k := 0) hcj
    rw [Nat.zero_add, hpj] at hf1
    unfold Am.set
    rw [hf1, hs1]
    simp only [Option.isSome_some, if_true]
    unfold clr
    dsimp only
    congr 1
    rw [List.set_append_right _ _ (by simp; omega)]
    simp only [List.length_map, List.length_take]
    rw [show j - min j H.m.low.length = 0 by omega, List.drop_eq_getElem_cons hjl, List.set_cons_zero, List.take_add_one, List.map_append, List.append_assoc]
    have : H.m.low[j]?.toList.map Ob.plain = [o.marked false] := by rw [ho]; rfl
    rw [this]
    rfl
   rw [hset] at h10
   refine (next2 h10 _).mono ?_
   have hfj2 : (clr H.m (j + 1)).find (osz (H.m.low.take j)) = some (o.marked false) := by
    have hcj2 : (clr H.m (j + 1)).low[j]? = some (o.marked false) := by
     unfold clr
     dsimp only
     rw [List.getElem?_append_left (by simp; omega), List.getElem?_map, List.getElem?_take_of_lt (by omega), ho]
     rfl
    have := findL_pos (k := 0) hcj2
    rw [Nat.zero_add, show osz ((clr H.m (j + 1)).low.take j) = osz (H.m.low.take j) from clr_osz H.m (j + 1) j] at this
    simp [Am.find, this]
   rw [findI_nat, hfj2]
   rintro e w6 ⟨rfl, h11⟩
   refine ⟨_, _, rfl, cond_f rfl ?_⟩
   rw [hnx _ _ (show (clr H.m (j + 1)).op = false from hop), Int.toNat_natCast]
   refine ⟨⟨j + 1, ?_, by omega, Sat.p1 h11⟩, ?_⟩
   ·rw [hsu]; rfl
   ·have : (o.marked false).w.length = o.w.length := rfl
    rw [this]
    first | omega | (dsimp only; omega)
 ·have hjl : j = H.m.low.length := by omega
  subst hjl
  rw [List.take_length]
  exact cond_f (by simp [htop]) (fin _ h7)
end
end Go.Proofs.YtpicofkhioalkaaGreat
/- What the laws of chapter 10 have in common: three objects; 'is'; the law 'awake'. -/
set_option maxRecDepth 100000
namespace Go.Proofs.YtpicofkhioalkaaGreat
open Go Go.Lw Go.Wd Go.Am Go.Tb Go.Hm
section
variable {H : Hp} {v : Value} {b mb : Nat} {st : List Nat} {run : Bool} {F : List HP} {w : World}
end
end Go.Proofs.YtpicofkhioalkaaGreat
/- What 'Graph' comes to: the roots' numbers and the nodes, in memory that stands. -/
set_option maxRecDepth 100000
namespace Go.Hm
open Go Go.Lw Go.Wd Go.Am Go.Tb
end Go.Hm
namespace Go.Proofs.YtpicofkhioalkaaGreat
open Go Go.Lw Go.Wd Go.Am Go.Tb Go.Hm
section
variable {H : Hp} {v : Value} {b : Nat} {F : List HP} {w W : World} {S : Mem}
end
section
variable {H : Hp}
theorem set_isSome (hm : H.WF) {x : Nat} {o o' : Ob} (hl : H.look x = some o) (hw : o'.w.length = o.w.length) (z : Nat) : ((H.set x o').look z).isSome = (H.look z).isSome := by
 rw [set_look hm hl hw]
 by_cases e : z = x
 ·rw [if_pos e, e, hl]; rfl
 ·rw [if_neg e]
end
end Go.Proofs.YtpicofkhioalkaaGreat
/- What is stored stays live, deed behind deed; ref9's Live. -/
set_option maxRecDepth 100000
namespace Go.Proofs.YtpicofkhioalkaaGreat
open Go Go.Lw Go.Wd Go.Am Go.Tb Go.Hm
section
variable {H : Hp} {hs : List Nat}
theorem closed_new (n k : Nat) : (Hp.new n k).Closed := by
 refine ⟨fun x hx => ?_, fun x y hy => ?_⟩
 ·have := List.eq_of_mem_replicate hx
  subst this
  rfl
 ·unfold refsOf at hy
  rw [new_look] at hy
  cases hy
theorem closed_rooted (h : H.Closed) {i y : Nat} (hy : H.may y = true) : (H.rooted i y).Closed := by
 refine ⟨fun x hx => ?_, fun x z hz => h.refs x z hz⟩
 rcases List.mem_or_eq_of_mem_set hx with a | rfl
 ·exact h.roots x a
 ·exact hy
theorem closed_put (hm : H.WF) (h : H.Closed) {x j y : Nat} {o : Ob} (ho : H.look x = some o) (hy : j < o.refs -> H.may y = true) : (H.set x (o.put j y)).Closed := by
 have hw : (o.put j y).w.length = o.w.length := by simp [Ob.put]
 have hmay : ∀ z, (H.set x (o.put j y)).may z = H.may z := fun z => by unfold Hp.may; rw [set_isSome hm ho hw]
 refine ⟨fun z hz => by rw [hmay]; exact h.roots z hz, fun z u hu => ?_⟩
 rw [hmay]
 unfold refsOf at hu
 rw [set_look hm ho hw] at hu
 by_cases e : z = x
 ·rw [if_pos e] at hu
  have hu : u ∈ (o.w.set j y).take o.refs := hu
  have hold : u ∈ o.w.take o.refs -> H.may u = true := fun hh => h.refs x u (by unfold refsOf; rw [ho]; exact hh)
  rw [List.take_set] at hu
  by_cases hj : j < o.refs
  ·rcases List.mem_or_eq_of_mem_set hu with a | rfl
   ·exact hold a
   ·exact hy hj
  ·rw [List.set_eq_of_length_le (by rw [List.length_take]; omega)] at hu
   exact hold hu
 ·rw [if_neg e] at hu
  exact h.refs z u hu
theorem closed_made (hm : H.WF) (h : H.Closed) (hf : ¬ H.t.full) {tag refs size : Nat} : (H.made tag refs size).Closed := by
 have hlk := made_look hm (tag := tag) (refs := refs) (size := size) hf
 have hmay : ∀ z, H.may z = true -> (H.made tag refs size).may z = true := fun z hz => by
  unfold Hp.may at hz ⊢
  rw [hlk]
  by_cases e : z = nextH H.t
  ·rw [if_pos e]; simp
  ·rw [if_neg e]; exact hz
 refine ⟨fun z hz => hmay z (h.roots z hz), fun z u hu => ?_⟩
 unfold refsOf at hu
 rw [hlk] at hu
 by_cases e : z = nextH H.t
 ·rw [if_pos e] at hu
  have hu : u ∈ (List.replicate size 0).take refs := hu
  have := List.eq_of_mem_replicate (List.mem_of_mem_take hu)
  subst this
  rfl
 ·rw [if_neg e] at hu
  exact hmay u (h.refs z u hu)
end
end Go.Proofs.YtpicofkhioalkaaGreat
/- Markings of a heap by deeds: data, and what is common to chapter 10's laws. -/
set_option maxRecDepth 100000
namespace Go.Proofs.YtpicofkhioalkaaGreat
open Go Go.Lw Go.Wd Go.Am Go.Tb Go.Hm
section
variable {n k : Nat} {H : Hp} {hs : List Nat} {s : Ms}
theorem inv_small {s : Ms} (h : Inv s) : ∀ x ∈ s.2, x < 18446744073709551616 := fun x hx => by
 obtain ⟨o, ho⟩ := Option.isSome_iff_exists.1 (isM_live (h.stack x hx))
 exact look_lt h.wf ho
theorem unit_pot {s : Ms} (h : s.1.WF) : pot (unit s) <= pot s := by
 by_cases he : s.2 = []
 ·rw [unit_nil he]; exact Nat.le_refl _
 ·have := (unit_ok h).2.2 he; omega
theorem units_pot : ∀ (m : Nat) {s : Ms}, s.1.WF -> pot (units m s) <= pot s
 | 0, _, _ => Nat.le_refl _
 | m + 1, s, h => Nat.le_trans (units_pot m (unit_ok h).1) (unit_pot h)
end
end Go.Proofs.YtpicofkhioalkaaGreat
