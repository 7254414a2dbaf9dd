
/- A heap as plain data: an arena of objects, a table of handles, the roots, and what ties them: each live handle's number is the place of an object whose owner is its slot, and back. No program in sight. -/
import Derived.Test.YtpicofkhioalkaaGreatTb
import Derived.Test.YtpicofkhioalkaaGreatAm
namespace Go.Hm
open Go Go.Lw Go.Wd Go.Am Go.Tb
def Fresh (tag refs size owner : Nat) : Ob := ⟨tag, refs, owner, false, List.replicate size 0⟩
theorem hnd_parts {x i : Nat} (h : x % 4294967296 = i + 1) : x = hnd (x / 4294967296) i := by unfold hnd; omega
theorem tfind_iff {t : Tab} {x i : Nat} : t.find x = some i ↔ x % 4294967296 = i + 1 /\ ∃ s, t.L[i]? = some s /\ s.taken = true /\ s.gen = x / 4294967296 := by
 unfold Tab.find
 constructor
 ·intro h
  split at h
  ·cases h
  ·rename_i k hk
   split at h
   ·rename_i s hs
    split at h
    ·rename_i hc
     simp only [Option.some.injEq] at h
     subst h
     exact ⟨hk, s, hs, hc.1, hc.2⟩
    ·cases h
   ·cases h
 ·rintro ⟨h1, s, h2, h3, h4⟩
  rw [h1]
  simp only [h2]
  rw [if_pos ⟨h3, h4⟩]
theorem tfind_inj {t : Tab} {x y i : Nat} (hx : t.find x = some i) (hy : t.find y = some i) : x = y := by
 obtain ⟨h1, s, h2, _, h3⟩ := tfind_iff.1 hx
 obtain ⟨g1, s', g2, _, g3⟩ := tfind_iff.1 hy
 rw [h2] at g2
 cases g2
 omega
theorem tfind_at {t : Tab} {x i : Nat} {s : Slot} (h : t.find x = some i) (hs : t.L[i]? = some s) : t.atOf i = s.at_ := by simp [Tab.atOf, hs]
theorem tfind_zero {t : Tab} : t.find 0 = none := by simp [Tab.find]
def nextH (t : Tab) : Nat := hnd (t.genAt t.nextSlot) t.nextSlot
theorem make_get {t : Tab} {a : Nat} (h : t.WF) (i : Nat) : (t.make a).L[i]? = if i = t.nextSlot then some ⟨t.genAt i, a, true⟩ else t.L[i]? := by
 unfold Tab.make Tab.nextSlot
 cases hf : t.fr with
 | nil =>
  simp only
  by_cases e : i = t.L.length
  ·subst e
   rw [if_pos rfl]
   have : t.genAt t.L.length = 1 := by simp [Tab.genAt]
   simp [this]
  ·rw [if_neg e]
   rcases Nat.lt_or_ge i t.L.length with hl | hl
   ·rw [List.getElem?_append_left hl]
   ·rw [List.getElem?_eq_none (by simp; omega), List.getElem?_eq_none (by omega)]
 | cons k r =>
  simp only
  have hk := h.mem_lt (i := k) (by rw [hf]; simp)
  by_cases e : i = k
  ·subst e; simp [hk]
  ·rw [if_neg e, List.getElem?_set_ne (Ne.symm e)]
theorem next_free {t : Tab} (h : t.WF) {s : Slot} (hs : t.L[t.nextSlot]? = some s) : s.taken = false := by
 unfold Tab.nextSlot at hs
 cases hf : t.fr with
 | nil => rw [hf] at hs; simp at hs
 | cons k r =>
  rw [hf] at hs
  obtain ⟨s', h1, h2⟩ := (h.mem k).1 (by rw [hf]; simp)
  simp only [h1, Option.some.injEq] at hs
  subst hs
  exact h2
theorem find_make {t : Tab} {a : Nat} (h : t.WF) (hn : ¬ t.full) (y : Nat) : (t.make a).find y = if y = nextH t then some t.nextSlot else t.find y := by
 have hlt := h.next_lt hn
 have hmo := h.most
 by_cases e : y = nextH t
 ·rw [if_pos e]
  refine tfind_iff.2 ⟨by rw [e]; exact hnd_mod (by omega), _, by rw [make_get h, if_pos rfl], rfl, ?_⟩
  rw [e]; exact (hnd_div (by omega)).symm
 ·rw [if_neg e]
  cases hf : t.find y with
  | some i =>
   obtain ⟨h1, s, h2, h3, h4⟩ := tfind_iff.1 hf
   have hne : i ≠ t.nextSlot := fun hh => by
    subst hh
    have := next_free h h2
    rw [this] at h3; cases h3
   exact tfind_iff.2 ⟨h1, s, by rw [make_get h, if_neg hne]; exact h2, h3, h4⟩
  | none =>
   cases hg : (t.make a).find y with
   | none => rfl
   | some i =>
    obtain ⟨h1, s, h2, h3, h4⟩ := tfind_iff.1 hg
    rw [make_get h] at h2
    split at h2
    ·rename_i e1
     subst e1
     cases h2
     exact absurd (by rw [hnd_parts h1, <- h4]; rfl) e
    ·rw [tfind_iff.2 ⟨h1, s, h2, h3, h4⟩] at hf; cases hf
theorem at_make {t : Tab} {a : Nat} (h : t.WF) (i : Nat) : (t.make a).atOf i = if i = t.nextSlot then a else t.atOf i := by
 unfold Tab.atOf
 rw [make_get h]
 by_cases e : i = t.nextSlot
 ·rw [if_pos e, if_pos e]
 ·rw [if_neg e, if_neg e]
theorem full_count {t : Tab} (h : t.WF) : t.count = t.n ↔ t.full := h.count_eq
theorem count_make {t : Tab} {a : Nat} (h : t.WF) : (t.make a).count = t.count + 1 := by
 have h1 := h.fr_len
 unfold Tab.make Tab.count
 cases hf : t.fr with
 | nil => simp
 | cons k r => rw [hf] at h1; simp at h1 ⊢; omega
theorem count_le {t : Tab} (h : t.WF) : t.count <= t.n := by
 have := h.len; unfold Tab.count; omega
theorem make_n (t : Tab) (a : Nat) : (t.make a).n = t.n := by unfold Tab.make; split <;> rfl
structure Hp where
 m : Am
 t : Tab
 roots : List Nat
def Hp.look (H : Hp) (x : Nat) : Option Ob := (H.t.find x).bind fun i => H.m.find (H.t.atOf i)
def Hp.place (H : Hp) (x : Nat) : Nat := match H.t.find x with | some i => H.t.atOf i | none => 0
structure Hp.WF (H : Hp) : Prop where
 am : H.m.WF
 tab : H.t.WF
 rlen : H.roots.length = 16
 r64 : ∀ x ∈ H.roots, x < 18446744073709551616
 link : ∀ i s, H.t.L[i]? = some s -> s.taken = true -> ∃ o, H.m.find s.at_ = some o /\ o.owner = i
 back : ∀ k o, H.m.find k = some o -> ∃ s, H.t.L[o.owner]? = some s /\ s.taken = true /\ s.at_ = k
def Hp.new (n k : Nat) : Hp := ⟨Am.new n, Tab.new k, List.replicate 16 0⟩
def Hp.made (H : Hp) (tag refs size : Nat) : Hp := { H with m := H.m.alloc (Fresh tag refs size H.t.nextSlot), t := H.t.make H.m.top }
def Hp.set (H : Hp) (x : Nat) (o : Ob) : Hp := { H with m := H.m.set (H.place x) o }
def Hp.rooted (H : Hp) (i x : Nat) : Hp := { H with roots := H.roots.set i x }
def Hp.may (H : Hp) (y : Nat) : Bool := y == 0 || (H.look y).isSome
variable {H : Hp}
theorem look_find (h : H.WF) {x i : Nat} (hf : H.t.find x = some i) : ∃ o, H.look x = some o /\ H.m.find (H.t.atOf i) = some o /\ o.owner = i /\ H.place x = H.t.atOf i := by
 obtain ⟨h1, s, h2, h3, h4⟩ := tfind_iff.1 hf
 obtain ⟨o, h5, h6⟩ := h.link i s h2 h3
 have ha := tfind_at hf h2
 refine ⟨o, ?_, by rw [ha]; exact h5, h6, by simp [Hp.place, hf]⟩
 simp [Hp.look, hf, ha, h5]
theorem look_none (h : H.WF) {x : Nat} : H.look x = none ↔ H.t.find x = none := by
 constructor
 ·intro hl
  cases hf : H.t.find x with
  | none => rfl
  | some i => obtain ⟨o, h1, _⟩ := look_find h hf; rw [hl] at h1; cases h1
 ·intro hf; simp [Hp.look, hf]
theorem look_some (h : H.WF) {x : Nat} {o : Ob} (hl : H.look x = some o) : H.t.find x = some o.owner /\ H.m.find (H.place x) = some o := by
 cases hf : H.t.find x with
 | none => rw [(look_none h).2 hf] at hl; cases hl
 | some i =>
  obtain ⟨o', h1, h2, h3, h4⟩ := look_find h hf
  rw [hl] at h1
  cases h1
  exact ⟨by rw [h3], by rw [h4]; exact h2⟩
theorem look_ok (h : H.WF) {x : Nat} {o : Ob} (hl : H.look x = some o) : o.Ok := h.am.find_ok (look_some h hl).2
theorem look_zero (h : H.WF) : H.look 0 = none := (look_none h).2 tfind_zero
theorem look_lt (h : H.WF) {x : Nat} {o : Ob} (hl : H.look x = some o) : x < 18446744073709551616 := by
 obtain ⟨h1, s, h2, h3, h4⟩ := tfind_iff.1 (look_some h hl).1
 have := h.tab.gen _ _ h2
 omega
theorem place_inj (h : H.WF) {x y : Nat} {o p : Ob} (hx : H.look x = some o) (hy : H.look y = some p) (he : H.place x = H.place y) : x = y := by
 obtain ⟨h1, h2⟩ := look_some h hx
 obtain ⟨h3, h4⟩ := look_some h hy
 rw [he, h4] at h2
 cases h2
 exact tfind_inj h1 h3
theorem new_wf {n k : Nat} (h1 : 1 <= n) (h2 : n <= 1048576) (h3 : 1 <= k) (h4 : k <= 1048576) : (Hp.new n k).WF := by
 refine ⟨Am.new_wf h1 h2, Tb.new_wf h3 h4, by simp [Hp.new], fun x hx => ?_, fun i s hs => by simp [Hp.new, Tab.new] at hs, fun k o ho => by simp [Hp.new, Am.new, Am.find, findL] at ho⟩
 rw [List.eq_of_mem_replicate hx]; omega
theorem new_look {n k x : Nat} : (Hp.new n k).look x = none := by
 have : (Hp.new n k).t.find x = none := by
  cases hf : (Hp.new n k).t.find x with
  | none => rfl
  | some i => obtain ⟨_, s, h2, _⟩ := tfind_iff.1 hf; simp [Hp.new, Tab.new] at h2
 simp [Hp.look, this]
theorem set_wf (h : H.WF) {x : Nat} {o o' : Ob} (hl : H.look x = some o) (hw : o'.w.length = o.w.length) (ho : o'.owner = o.owner) (hok : o'.Ok) : (H.set x o').WF := by
 obtain ⟨h1, h2⟩ := look_some h hl
 refine ⟨Am.set_wf h.am h2 hw hok, h.tab, h.rlen, h.r64, fun i s hs ht => ?_, fun k p hp => ?_⟩
 ·obtain ⟨p, h3, h4⟩ := h.link i s hs ht
  unfold Hp.set
  simp only [Am.find_set h.am h2 hw]
  split
  ·rename_i e; rw [e, h2] at h3; cases h3; exact ⟨o', rfl, ho.trans h4⟩
  ·exact ⟨p, h3, h4⟩
 ·unfold Hp.set at hp
  simp only [Am.find_set h.am h2 hw] at hp
  split at hp
  ·rename_i e; cases hp; obtain ⟨s, a, b, c⟩ := h.back _ _ h2; exact ⟨s, by rw [ho]; exact a, b, by rw [e]; exact c⟩
  ·exact h.back _ _ hp
theorem set_look (h : H.WF) {x : Nat} {o o' : Ob} (hl : H.look x = some o) (hw : o'.w.length = o.w.length) (y : Nat) : (H.set x o').look y = if y = x then some o' else H.look y := by
 obtain ⟨h1, h2⟩ := look_some h hl
 have e : ∀ z, (H.set x o').look z = (H.t.find z).bind fun i => (H.m.set (H.place x) o').find (H.t.atOf i) := fun z => rfl
 rw [e]
 cases hf : H.t.find y with
 | none =>
  rw [if_neg (fun hh => by rw [hh, h1] at hf; cases hf), (look_none h).2 hf]; rfl
 | some i =>
  obtain ⟨p, h3, h4, h5, h6⟩ := look_find h hf
  simp only [Option.bind_some, Am.find_set h.am h2 hw]
  by_cases hxy : y = x
  ·subst hxy
   rw [if_pos rfl, if_pos h6.symm]
  ·rw [if_neg hxy, if_neg (fun hh => hxy (place_inj h h3 hl (by rw [h6, hh]))), h3, h4]
theorem set_place (x : Nat) (o' : Ob) (y : Nat) : (H.set x o').place y = H.place y := rfl
theorem set_top (h : H.WF) {x : Nat} {o o' : Ob} (hl : H.look x = some o) (hw : o'.w.length = o.w.length) : (H.set x o').m.top = H.m.top := by
 obtain ⟨_, h2⟩ := look_some h hl
 unfold Hp.set Am.top
 rcases h.am.find_cases h2 with ⟨h1, _⟩ | ⟨h1, h2, _, _, _⟩
 ·have e : H.m.set (H.place x) o' = { H.m with low := setL 0 H.m.low (H.place x) o' } := by unfold Am.set; simp [h1]
  simp only [e, osz_setL h1 hw]
 ·have e : H.m.set (H.place x) o' = { H.m with high := setL H.m.hi H.m.high (H.place x) o' } := by unfold Am.set; simp [h1, findL_none_set h1]
  simp only [e, osz_setL h2 hw]
theorem rooted_wf (h : H.WF) {i x : Nat} (hx : x < 18446744073709551616) : (H.rooted i x).WF := by
 refine ⟨h.am, h.tab, by simp [Hp.rooted, h.rlen], fun y hy => ?_, h.link, h.back⟩
 rcases List.mem_or_eq_of_mem_set hy with hy | rfl
 ·exact h.r64 y hy
 ·exact hx
theorem fresh_ok {tag refs size owner : Nat} (h1 : 1 <= tag /\ tag <= 255) (h2 : refs <= size) (h3 : size <= 4096) (h4 : owner < 1048576) : (Fresh tag refs size owner).Ok := by
 refine ⟨by dsimp only [Fresh]; omega, by simp [Fresh]; omega, by simp [Fresh]; omega, by dsimp only [Fresh]; omega, fun x hx => ?_⟩
 rw [List.eq_of_mem_replicate hx]; omega
theorem made_wf (h : H.WF) {tag refs size : Nat} (h1 : 1 <= tag /\ tag <= 255) (h2 : refs <= size) (h3 : size <= 4096) (hn : ¬ H.t.full) (hr : H.m.top + 1 + size <= H.m.n) : (H.made tag refs size).WF := by
 have hlt := h.tab.next_lt hn
 have hmo := h.tab.most
 have hmm := h.am.most
 have hok := fresh_ok (owner := H.t.nextSlot) h1 h2 h3 (by omega)
 have hll : (Fresh tag refs size H.t.nextSlot).w.length = size := by simp [Fresh]
 refine ⟨Am.alloc_wf h.am hok (by rw [hll]; exact hr), h.tab.make hn (by omega), h.rlen, h.r64, fun i s hs ht => ?_, fun k o ho => ?_⟩
 ·unfold Hp.made at hs ⊢
  simp only [make_get h.tab, Am.find_alloc h.am] at hs ⊢
  split at hs
  ·rename_i e
   cases hs
   cases hf : H.m.find H.m.top with
   | some p => have := h.am.find_top hf; omega
   | none => exact ⟨Fresh tag refs size H.t.nextSlot, by simp, e.symm⟩
  ·obtain ⟨o, h5, h6⟩ := h.link i s hs ht
   exact ⟨o, by rw [h5]; rfl, h6⟩
 ·unfold Hp.made at ho ⊢
  simp only [make_get h.tab, Am.find_alloc h.am] at ho ⊢
  cases hf : H.m.find k with
  | some p =>
   rw [hf] at ho
   simp at ho
   subst ho
   obtain ⟨s, a, b, c⟩ := h.back _ _ hf
   refine ⟨s, ?_, b, c⟩
   rw [if_neg (fun e => ?_)]
   ·exact a
   ·rw [e] at a
    have := next_free h.tab a
    rw [this] at b; cases b
  | none =>
   rw [hf] at ho
   simp only [Option.none_or] at ho
   split at ho
   ·rename_i e
    cases ho
    exact ⟨_, by rw [if_pos (by rfl)], rfl, e.symm⟩
   ·cases ho
theorem made_look (h : H.WF) {tag refs size : Nat} (hn : ¬ H.t.full) (y : Nat) : (H.made tag refs size).look y = if y = nextH H.t then some (Fresh tag refs size H.t.nextSlot) else H.look y := by
 have e : (H.made tag refs size).look y = ((H.t.make H.m.top).find y).bind fun i => (H.m.alloc (Fresh tag refs size H.t.nextSlot)).find ((H.t.make H.m.top).atOf i) := rfl
 rw [e, find_make h.tab hn]
 split
 ·simp only [Option.bind_some]
  rw [at_make h.tab, if_pos rfl, Am.find_alloc h.am]
  cases hf : H.m.find H.m.top with
  | some p => have := h.am.find_top hf; omega
  | none => simp
 ·cases hf : H.t.find y with
  | none => rw [(look_none h).2 hf]; rfl
  | some i =>
   obtain ⟨o, h1, h2, h3, _⟩ := look_find h hf
   obtain ⟨_, s, h4, h5, _⟩ := tfind_iff.1 hf
   simp only [Option.bind_some]
   rw [at_make h.tab, if_neg (fun e => ?_), Am.find_alloc h.am, h2, h1]
   ·rfl
   ·rw [e] at h4
    have := next_free h.tab h4
    rw [this] at h5; cases h5
theorem next_look (h : H.WF) (hn : ¬ H.t.full) : H.look (nextH H.t) = none := by
 refine (look_none h).2 ?_
 cases hf : H.t.find (nextH H.t) with
 | none => rfl
 | some i =>
  obtain ⟨h1, s, h2, h3, h4⟩ := tfind_iff.1 hf
  have := h.tab.next_lt hn
  have := h.tab.most
  have e : nextH H.t % 4294967296 = H.t.nextSlot + 1 := hnd_mod (by omega)
  have : i = H.t.nextSlot := by omega
  subst this
  rw [next_free h.tab h2] at h3; cases h3
theorem next_pos (t : Tab) : nextH t ≠ 0 := by unfold nextH hnd; omega
theorem next_u64 (h : H.WF) (hn : ¬ H.t.full) : nextH H.t < 18446744073709551616 := by
 have h1 := h.tab.next_lt hn
 have h2 := h.tab.most
 have h3 := h.tab.genAt_lt H.t.nextSlot
 unfold nextH hnd; omega
theorem made_top (h : H.WF) {tag refs size : Nat} : (H.made tag refs size).m.top = H.m.top + 1 + size := by
 unfold Hp.made; rw [Am.alloc_top h.am]; simp [Fresh]
end Go.Hm
