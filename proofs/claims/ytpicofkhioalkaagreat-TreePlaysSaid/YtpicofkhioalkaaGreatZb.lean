
/- A collection as plain data: what a unit of sliding does to a heap, and what stays. No program in sight. -/
import Derived.Test.YtpicofkhioalkaaGreatZa
set_option maxRecDepth 100000
namespace Go.Hm
open Go Go.Lw Go.Wd Go.Am Go.Tb
section
variable {t : Tab} {i : Nat} {s : Slot}
theorem move_get (hi : i < t.L.length) (a k : Nat) : (t.move i a).L[k]? = if k = i then some ⟨t.genAt i, a, true⟩ else t.L[k]? := by
 unfold Tab.move
 dsimp only
 by_cases e : k = i
 ·subst e; rw [if_pos rfl, List.getElem?_set_self hi]
 ·rw [if_neg e, List.getElem?_set_ne (Ne.symm e)]
theorem free_get (hi : i < t.L.length) (k : Nat) : (t.free i).L[k]? = if k = i then some ⟨t.genAt i + 1, 0, false⟩ else t.L[k]? := by
 unfold Tab.free
 dsimp only
 by_cases e : k = i
 ·subst e; rw [if_pos rfl, List.getElem?_set_self hi]
 ·rw [if_neg e, List.getElem?_set_ne (Ne.symm e)]
theorem move_find (hs : t.L[i]? = some s) (ht : s.taken = true) (a x : Nat) : (t.move i a).find x = t.find x := by
 have hi := get_lt hs
 apply Option.ext
 intro k
 rw [tfind_iff, tfind_iff]
 constructor
 ·rintro ⟨h1, u, h2, h3, h4⟩
  rw [move_get hi] at h2
  split at h2
  ·rename_i e; subst e; cases h2; exact ⟨h1, s, hs, ht, by rw [<- h4]; exact (genAt_of hs).symm⟩
  ·exact ⟨h1, u, h2, h3, h4⟩
 ·rintro ⟨h1, u, h2, h3, h4⟩
  refine ⟨h1, ?_⟩
  rw [move_get hi]
  by_cases e : k = i
  ·subst e; rw [hs] at h2; cases h2; exact ⟨_, if_pos rfl, rfl, (genAt_of hs).trans h4⟩
  ·exact ⟨u, by rw [if_neg e]; exact h2, h3, h4⟩
theorem free_find (hi : i < t.L.length) (x : Nat) : (t.free i).find x = if t.find x = some i then none else t.find x := by
 apply Option.ext
 intro k
 by_cases hc : t.find x = some i
 ·rw [if_pos hc, tfind_iff]
  constructor
  ·rintro ⟨h1, u, h2, h3, h4⟩
   rw [free_get hi] at h2
   split at h2
   ·cases h2; cases h3
   ·rename_i e
    have := tfind_iff.2 ⟨h1, u, h2, h3, h4⟩
    rw [hc] at this
    cases this
    exact absurd rfl e
  ·intro h; cases h
 ·rw [if_neg hc, tfind_iff, tfind_iff]
  constructor
  ·rintro ⟨h1, u, h2, h3, h4⟩
   rw [free_get hi] at h2
   split at h2
   ·cases h2; cases h3
   ·exact ⟨h1, u, h2, h3, h4⟩
  ·rintro ⟨h1, u, h2, h3, h4⟩
   have e : k ≠ i := by
    rintro rfl; exact hc (tfind_iff.2 ⟨h1, u, h2, h3, h4⟩)
   exact ⟨h1, u, by rw [free_get hi, if_neg e]; exact h2, h3, h4⟩
theorem move_at (hi : i < t.L.length) (a k : Nat) : (t.move i a).atOf k = if k = i then a else t.atOf k := by
 unfold Tab.atOf
 rw [move_get hi]
 by_cases e : k = i
 ·rw [if_pos e, if_pos e]
 ·rw [if_neg e, if_neg e]
theorem free_at (hi : i < t.L.length) {k : Nat} (e : k ≠ i) : (t.free i).atOf k = t.atOf k := by
 unfold Tab.atOf
 rw [free_get hi, if_neg e]
theorem move_gen (hi : i < t.L.length) (a k : Nat) : (t.move i a).genAt k = t.genAt k := by
 unfold Tab.genAt
 rw [move_get hi]
 by_cases e : k = i
 ·rw [if_pos e, e]; rfl
 ·rw [if_neg e]
theorem free_gen (hi : i < t.L.length) {k : Nat} (e : k ≠ i) : (t.free i).genAt k = t.genAt k := by
 unfold Tab.genAt
 rw [free_get hi, if_neg e]
def wgt (s : Slot) : Nat := s.gen + if s.taken = true then 1 else 0
def tot (t : Tab) : Nat := (t.L.map wgt).sum
theorem wgt_t (g a : Nat) : wgt ⟨g, a, true⟩ = g + 1 := rfl
theorem wgt_f (g a : Nat) : wgt ⟨g, a, false⟩ = g := rfl
theorem wgt_taken (ht : s.taken = true) : wgt s = s.gen + 1 := by unfold wgt; rw [if_pos ht]
theorem wgt_free (ht : s.taken = false) : wgt s = s.gen := by unfold wgt; rw [if_neg (by rw [ht]; decide)]; rfl
theorem wgt_ge (s : Slot) : s.gen <= wgt s := Nat.le_add_right _ _
theorem sum_set : ∀ {L : List Slot} {i : Nat} {s : Slot} (s' : Slot), L[i]? = some s -> ((L.set i s').map wgt).sum + wgt s = (L.map wgt).sum + wgt s'
 | [], _, _, _, h => by simp at h
 | p :: L, 0, s, s', h => by simp at h; subst h; simp; omega
 | p :: L, i + 1, s, s', h => by
  simp only [List.getElem?_cons_succ] at h
  have := sum_set s' h
  simp only [List.set_cons_succ, List.map_cons, List.sum_cons]
  omega
theorem sum_ge : ∀ {L : List Slot} {i : Nat} {s : Slot}, L[i]? = some s -> wgt s <= (L.map wgt).sum
 | [], _, _, h => by simp at h
 | p :: L, 0, s, h => by simp at h; subst h; simp
 | p :: L, i + 1, s, h => by
  simp only [List.getElem?_cons_succ] at h
  have := sum_ge h
  simp only [List.map_cons, List.sum_cons]
  omega
theorem gen_tot (t : Tab) (i : Nat) : t.genAt i <= tot t + 1 := by
 unfold Tab.genAt
 cases h : t.L[i]? with
 | none => simp
 | some s => have h1 := sum_ge h; have h2 := wgt_ge s; unfold tot; dsimp only; omega
theorem tot_move (hs : t.L[i]? = some s) (ht : s.taken = true) (a : Nat) : tot (t.move i a) = tot t := by
 have h1 := sum_set ⟨t.genAt i, a, true⟩ hs
 rw [wgt_taken ht, wgt_t, genAt_of hs] at h1
 unfold tot Tab.move
 dsimp only
 rw [genAt_of hs]
 omega
theorem tot_free (hs : t.L[i]? = some s) (ht : s.taken = true) : tot (t.free i) = tot t := by
 have h1 := sum_set ⟨t.genAt i + 1, 0, false⟩ hs
 rw [wgt_taken ht, wgt_f, genAt_of hs] at h1
 unfold tot Tab.free
 dsimp only
 rw [genAt_of hs]
 omega
theorem tot_make (h : t.WF) (a : Nat) : tot (t.make a) <= tot t + 2 := by
 unfold tot Tab.make
 split
 ·rename_i i r hf
  obtain ⟨s, hs, ht⟩ := (h.mem i).1 (by rw [hf]; simp)
  have h1 := sum_set ⟨t.genAt i, a, true⟩ hs
  rw [wgt_free ht, wgt_t, genAt_of hs] at h1
  dsimp only
  rw [genAt_of hs]
  omega
 ·simp [wgt]
theorem count_free (h : t.WF) (hs : t.L[i]? = some s) (ht : s.taken = true) : (t.free i).count + 1 = t.count := by
 have h1 := h.fr_len
 have hni : i ∉ t.fr := by rw [h.mem i]; rintro ⟨s', h2, h3⟩; rw [hs] at h2; cases h2; rw [ht] at h3; cases h3
 have := nodup_bound (n := t.L.length) (l := i :: t.fr) (List.nodup_cons.2 ⟨hni, h.nodup⟩) fun k hk => by
  rcases List.mem_cons.1 hk with rfl | hk
  ·exact get_lt hs
  ·exact h.mem_lt hk
 simp only [List.length_cons] at this
 unfold Tab.free Tab.count
 simp only [List.length_set, List.length_cons]
 omega
theorem count_move (t : Tab) (i a : Nat) : (t.move i a).count = t.count := by unfold Tab.move Tab.count; simp
end
variable {H : Hp} {o : Ob} {l : List Ob}
def Hp.opened (H : Hp) : Hp := { H with m := H.m.opened }
def Hp.shut (H : Hp) : Hp := { H with m := H.m.close }
def slK (H : Hp) (o : Ob) : Hp := { H with m := (H.m.keep).set (osz H.m.low) (o.marked false), t := H.t.move o.owner (osz H.m.low) }
def slS (H : Hp) (o : Ob) : Hp := { H with m := H.m.skip, t := H.t.free o.owner }
def sl1 (H : Hp) : Hp := match H.m.high with | [] => H | o :: _ => if o.mark = true then slK H o else slS H o
def mv1 (H : Hp) : Nat := match H.m.high with | [] => 0 | o :: _ => if o.mark = true /\ H.m.hi ≠ osz H.m.low then 1 else 0
def slN : Nat -> Hp × Nat -> Hp × Nat
 | 0, s => s
 | n + 1, s => slN n (sl1 s.1, s.2 + mv1 s.1)
theorem head_find (h : H.WF) (hh : H.m.high = o :: l) : H.m.find H.m.hi = some o := by
 have hg := h.am.gap (Am.op_of h.am hh)
 unfold Am.find
 rw [findL_above (by omega), hh, findL_cons, if_pos rfl]
 rfl
theorem head_slot (h : H.WF) (hh : H.m.high = o :: l) : ∃ s, H.t.L[o.owner]? = some s /\ s.taken = true /\ s.at_ = H.m.hi := h.back _ _ (head_find h hh)
theorem keep_at (h : H.WF) (hh : H.m.high = o :: l) : H.m.keep.find (osz H.m.low) = some o := by rw [Am.find_keep h.am hh, if_pos rfl]
theorem slK_find (h : H.WF) (hh : H.m.high = o :: l) (x : Nat) : (slK H o).m.find x = if x = osz H.m.low then some (o.marked false) else if x = H.m.hi then none else H.m.find x := by
 have e : (slK H o).m = (H.m.keep).set (osz H.m.low) (o.marked false) := rfl
 rw [e, Am.find_set (o' := o.marked false) (Am.keep_wf h.am hh) (keep_at h hh) rfl, Am.find_keep h.am hh]
 by_cases e : x = osz H.m.low
 ·rw [if_pos e, if_pos e]
 ·rw [if_neg e, if_neg e, if_neg e]
theorem slS_find (h : H.WF) (hh : H.m.high = o :: l) (x : Nat) : (slS H o).m.find x = if x = H.m.hi then none else H.m.find x := Am.find_skip h.am hh x
theorem slK_m (h : H.WF) (hh : H.m.high = o :: l) : (slK H o).m = ⟨H.m.n, H.m.low ++ [o.marked false], l, H.m.hi + 1 + o.w.length, H.m.op⟩ := by
 have e : (slK H o).m = (H.m.keep).set (osz H.m.low) (o.marked false) := rfl
 have hg : (H.m.low ++ [o])[H.m.low.length]? = some o := by simp
 have h1 := findL_pos (k := 0) hg
 have h2 := setL_pos (k := 0) (o' := o.marked false) hg
 rw [List.take_left, Nat.zero_add] at h1 h2
 rw [e, Am.keep_eq hh]
 unfold Am.set
 dsimp only
 rw [h1, h2]
 simp
theorem slS_m (hh : H.m.high = o :: l) : (slS H o).m = ⟨H.m.n, H.m.low, l, H.m.hi + 1 + o.w.length, H.m.op⟩ := by
 have e : (slS H o).m = H.m.skip := rfl
 rw [e, Am.skip_eq hh]
theorem mid_none (h : H.WF) (hh : H.m.high = o :: l) (hne : osz H.m.low ≠ H.m.hi) : H.m.find (osz H.m.low) = none := by
 have hg := h.am.gap (Am.op_of h.am hh)
 unfold Am.find
 rw [findL_above (by omega), findL_low (by omega)]
 rfl
theorem slK_wf (h : H.WF) (hh : H.m.high = o :: l) : (slK H o).WF := by
 obtain ⟨s0, a1, a2, a3⟩ := head_slot h hh
 have hi := get_lt a1
 have hf := head_find h hh
 have hle := h.am.low_le
 have hto := h.am.top
 have hmo := h.am.most
 have htk : H.t.takenAt o.owner = true := by simp [Tab.takenAt, a1, a2]
 refine ⟨Am.set_wf (Am.keep_wf h.am hh) (keep_at h hh) rfl (Ob.marked_ok (h.am.find_ok hf) _), h.tab.move htk (by omega), h.rlen, h.r64, fun i s hs ht => ?_, fun k p hp => ?_⟩
 ·have hs : (H.t.move o.owner (osz H.m.low)).L[i]? = some s := hs
  rw [move_get hi] at hs
  rw [slK_find h hh]
  split at hs
  ·rename_i e
   cases hs
   exact ⟨o.marked false, if_pos rfl, e.symm⟩
  ·rename_i e
   obtain ⟨p, b1, b2⟩ := h.link i s hs ht
   have n1 : s.at_ ≠ H.m.hi := fun e1 => by
    rw [e1, hf] at b1; cases b1; exact e b2.symm
   have n2 : s.at_ ≠ osz H.m.low := fun e1 => by
    rw [e1, mid_none h hh (fun e2 => n1 (e1.trans e2))] at b1; cases b1
   exact ⟨p, by rw [if_neg n2, if_neg n1]; exact b1, b2⟩
 ·rw [slK_find h hh] at hp
  have e : ∀ j : Nat, (slK H o).t.L[j]? = (H.t.move o.owner (osz H.m.low)).L[j]? := fun _ => rfl
  rw [e, move_get hi]
  split at hp
  ·rename_i e1
   cases hp
   exact ⟨_, if_pos rfl, rfl, e1.symm⟩
  ·split at hp
   ·cases hp
   ·rename_i e1 e2
    obtain ⟨s, b1, b2, b3⟩ := h.back k p hp
    refine ⟨s, ?_, b2, b3⟩
    rw [if_neg (fun e3 => ?_)]
    ·exact b1
    ·rw [e3, a1] at b1; cases b1; exact e2 (b3.symm.trans a3)
theorem slS_wf (h : H.WF) (hh : H.m.high = o :: l) (hg : H.t.genAt o.owner + 1 < 4294967296) : (slS H o).WF := by
 obtain ⟨s0, a1, a2, a3⟩ := head_slot h hh
 have hi := get_lt a1
 have hf := head_find h hh
 have htk : H.t.takenAt o.owner = true := by simp [Tab.takenAt, a1, a2]
 refine ⟨Am.skip_wf h.am hh, h.tab.free htk hg, h.rlen, h.r64, fun i s hs ht => ?_, fun k p hp => ?_⟩
 ·have hs : (H.t.free o.owner).L[i]? = some s := hs
  rw [free_get hi] at hs
  rw [slS_find h hh]
  split at hs
  ·cases hs; cases ht
  ·rename_i e
   obtain ⟨p, b1, b2⟩ := h.link i s hs ht
   have n1 : s.at_ ≠ H.m.hi := fun e1 => by
    rw [e1, hf] at b1; cases b1; exact e b2.symm
   exact ⟨p, by rw [if_neg n1]; exact b1, b2⟩
 ·rw [slS_find h hh] at hp
  have e : ∀ j : Nat, (slS H o).t.L[j]? = (H.t.free o.owner).L[j]? := fun _ => rfl
  rw [e, free_get hi]
  split at hp
  ·cases hp
  ·rename_i e2
   obtain ⟨s, b1, b2, b3⟩ := h.back k p hp
   refine ⟨s, ?_, b2, b3⟩
   rw [if_neg (fun e3 => ?_)]
   ·exact b1
   ·rw [e3, a1] at b1; cases b1; exact e2 (b3.symm.trans a3)
theorem head_look (h : H.WF) (hh : H.m.high = o :: l) {x : Nat} (hx : H.t.find x = some o.owner) : H.look x = some o /\ H.place x = H.m.hi := by
 obtain ⟨s0, a1, a2, a3⟩ := head_slot h hh
 have e := tfind_at hx a1
 refine ⟨?_, ?_⟩
 ·unfold Hp.look
  rw [hx, Option.bind_some, e, a3, head_find h hh]
 ·unfold Hp.place
  rw [hx]
  dsimp only
  rw [e, a3]
theorem slK_look (h : H.WF) (hh : H.m.high = o :: l) (x : Nat) : (slK H o).look x = if H.t.find x = some o.owner then some (o.marked false) else H.look x := by
 obtain ⟨s0, a1, a2, a3⟩ := head_slot h hh
 have hi := get_lt a1
 have e : (slK H o).look x = ((H.t.move o.owner (osz H.m.low)).find x).bind fun i => (slK H o).m.find ((H.t.move o.owner (osz H.m.low)).atOf i) := rfl
 rw [e, move_find a1 a2]
 by_cases hx : H.t.find x = some o.owner
 ·rw [if_pos hx, hx, Option.bind_some, move_at hi, if_pos rfl, slK_find h hh, if_pos rfl]
 ·rw [if_neg hx]
  cases hf : H.t.find x with
  | none => rw [(look_none h).2 hf]; rfl
  | some i =>
   have hne : i ≠ o.owner := fun e => hx (by rw [hf, e])
   obtain ⟨p, b1, b2, b3, b4⟩ := look_find h hf
   have n1 : H.t.atOf i ≠ H.m.hi := fun e1 => by
    rw [e1, head_find h hh] at b2; cases b2; exact hne b3.symm
   have n2 : H.t.atOf i ≠ osz H.m.low := fun e1 => by
    rw [e1, mid_none h hh (fun e2 => n1 (e1.trans e2))] at b2; cases b2
   rw [Option.bind_some, move_at hi, if_neg hne, slK_find h hh, if_neg n2, if_neg n1, b2, b1]
theorem slS_look (h : H.WF) (hh : H.m.high = o :: l) (x : Nat) : (slS H o).look x = if H.t.find x = some o.owner then none else H.look x := by
 obtain ⟨s0, a1, a2, a3⟩ := head_slot h hh
 have hi := get_lt a1
 have e : (slS H o).look x = ((H.t.free o.owner).find x).bind fun i => (slS H o).m.find ((H.t.free o.owner).atOf i) := rfl
 rw [e, free_find hi]
 by_cases hx : H.t.find x = some o.owner
 ·rw [if_pos hx, if_pos hx]; rfl
 ·rw [if_neg hx, if_neg hx]
  cases hf : H.t.find x with
  | none => rw [(look_none h).2 hf]; rfl
  | some i =>
   have hne : i ≠ o.owner := fun e => hx (by rw [hf, e])
   obtain ⟨p, b1, b2, b3, b4⟩ := look_find h hf
   have n1 : H.t.atOf i ≠ H.m.hi := fun e1 => by
    rw [e1, head_find h hh] at b2; cases b2; exact hne b3.symm
   rw [Option.bind_some, free_at hi hne, slS_find h hh, if_neg n1, b2, b1]
theorem slK_place (h : H.WF) (hh : H.m.high = o :: l) (x : Nat) : (slK H o).place x = if H.t.find x = some o.owner then osz H.m.low else H.place x := by
 obtain ⟨s0, a1, a2, a3⟩ := head_slot h hh
 have hi := get_lt a1
 have e : (slK H o).place x = match (H.t.move o.owner (osz H.m.low)).find x with | some i => (H.t.move o.owner (osz H.m.low)).atOf i | none => 0 := rfl
 rw [e, move_find a1 a2]
 by_cases hx : H.t.find x = some o.owner
 ·rw [if_pos hx, hx]; dsimp only; rw [move_at hi, if_pos rfl]
 ·rw [if_neg hx]
  unfold Hp.place
  cases hf : H.t.find x with
  | none => rfl
  | some i => dsimp only; rw [move_at hi, if_neg (fun e => hx (by rw [hf, e]))]
theorem slS_place (h : H.WF) (hh : H.m.high = o :: l) {x : Nat} (hx : H.t.find x ≠ some o.owner) : (slS H o).place x = H.place x := by
 obtain ⟨s0, a1, a2, a3⟩ := head_slot h hh
 have hi := get_lt a1
 have e : (slS H o).place x = match (H.t.free o.owner).find x with | some i => (H.t.free o.owner).atOf i | none => 0 := rfl
 rw [e, free_find hi, if_neg hx]
 unfold Hp.place
 cases hf : H.t.find x with
 | none => rfl
 | some i => dsimp only; rw [free_at hi (fun e => hx (by rw [hf, e]))]
def sv (H : Hp) (x : Nat) : Prop := ∃ o, H.look x = some o /\ (o.mark = true ∨ H.place x < osz H.m.low)
theorem sv_live {x : Nat} (h : sv H x) : (H.look x).isSome = true := by obtain ⟨o, ho, _⟩ := h; rw [ho]; rfl
theorem look_place (h : H.WF) {x : Nat} {p : Ob} (hp : H.look x = some p) (hh : H.m.high = o :: l) (hx : H.t.find x ≠ some o.owner) : H.place x < osz H.m.low ∨ H.m.hi + 1 + o.w.length <= H.place x := by
 obtain ⟨h1, h2⟩ := look_some h hp
 rcases h.am.find_cases h2 with ⟨_, h3⟩ | ⟨_, h3, h4, h5, _⟩
 ·exact .inl (by omega)
 ·right
  rw [hh, findL_cons] at h3
  split at h3
  ·cases h3; exact absurd h1 hx
  ·have := (findL_bound h3).1
   omega
theorem slK_sv (h : H.WF) (hh : H.m.high = o :: l) (hm : o.mark = true) (x : Nat) : sv (slK H o) x ↔ sv H x := by
 have hg := h.am.gap (Am.op_of h.am hh)
 have hlow : osz (slK H o).m.low = osz H.m.low + 1 + o.w.length := by rw [slK_m h hh]; dsimp only; rw [osz_app, osz_one]; simp [Ob.marked]; omega
 unfold sv
 rw [slK_look h hh, slK_place h hh, hlow]
 by_cases hx : H.t.find x = some o.owner
 ·rw [if_pos hx, if_pos hx]
  obtain ⟨h1, h2⟩ := head_look h hh hx
  exact ⟨fun _ => ⟨o, h1, .inl hm⟩, fun _ => ⟨_, rfl, .inr (by omega)⟩⟩
 ·rw [if_neg hx, if_neg hx]
  constructor
  ·rintro ⟨p, hp, a⟩
   refine ⟨p, hp, a.imp id fun b => ?_⟩
   rcases look_place h hp hh hx with c | c
   ·exact c
   ·omega
  ·rintro ⟨p, hp, a⟩
   exact ⟨p, hp, a.imp id fun b => by omega⟩
theorem slS_sv (h : H.WF) (hh : H.m.high = o :: l) (hm : o.mark = false) (x : Nat) : sv (slS H o) x ↔ sv H x := by
 have hg := h.am.gap (Am.op_of h.am hh)
 have hlow : (slS H o).m.low = H.m.low := by rw [slS_m hh]
 unfold sv
 rw [slS_look h hh, hlow]
 by_cases hx : H.t.find x = some o.owner
 ·rw [if_pos hx]
  obtain ⟨h1, h2⟩ := head_look h hh hx
  refine ⟨fun ⟨p, hp, _⟩ => (by cases hp), fun ⟨p, hp, a⟩ => ?_⟩
  rw [h1] at hp
  cases hp
  rw [hm] at a
  rcases a with a | a
  ·cases a
  ·omega
 ·rw [if_neg hx, slS_place h hh hx]
structure Sl (H : Hp) : Prop where
 wf : H.WF
 op : H.m.op = true
 low : ∀ o ∈ H.m.low, o.mark = false
 roots : ∀ y ∈ H.roots, y = 0 ∨ sv H y
 refs : ∀ x, sv H x -> ∀ y ∈ refsOf H x, y = 0 ∨ sv H y
theorem Sl.reach (h : Sl H) {x : Nat} (hr : Reach H x) : sv H x := by
 have z : ∀ {y : Nat}, y = 0 ∨ sv H y -> (H.look y).isSome = true -> sv H y := fun a b => by
  rcases a with rfl | a
  ·rw [look_zero h.wf] at b; cases b
  ·exact a
 induction hr with
 | root a b => exact z (h.roots _ a) b
 | step _ a b ih => exact z (h.refs _ ih _ a) b
theorem slK_refs (h : H.WF) (hh : H.m.high = o :: l) (x : Nat) : refsOf (slK H o) x = refsOf H x := by
 unfold refsOf
 rw [slK_look h hh]
 by_cases hx : H.t.find x = some o.owner
 ·rw [if_pos hx, (head_look h hh hx).1]; rfl
 ·rw [if_neg hx]
theorem slS_refs (h : H.WF) (hh : H.m.high = o :: l) {x : Nat} (hx : ((slS H o).look x).isSome = true) : refsOf (slS H o) x = refsOf H x := by
 unfold refsOf
 rw [slS_look h hh] at hx ⊢
 by_cases hx2 : H.t.find x = some o.owner
 ·rw [if_pos hx2] at hx; cases hx
 ·rw [if_neg hx2]
theorem Sl.keep (h : Sl H) (hh : H.m.high = o :: l) (hm : o.mark = true) : Sl (slK H o) := by
 refine ⟨slK_wf h.wf hh, by rw [slK_m h.wf hh]; exact h.op, fun p hp => ?_, fun y hy => ?_, fun x hx y hy => ?_⟩
 ·rw [slK_m h.wf hh] at hp
  rcases List.mem_append.1 hp with a | a
  ·exact h.low p a
  ·simp only [List.mem_singleton] at a; subst a; rfl
 ·rw [slK_sv h.wf hh hm]; exact h.roots y hy
 ·rw [slK_sv h.wf hh hm] at hx ⊢
  rw [slK_refs h.wf hh] at hy
  exact h.refs x hx y hy
theorem Sl.skip (h : Sl H) (hh : H.m.high = o :: l) (hm : o.mark = false) (hg : H.t.genAt o.owner + 1 < 4294967296) : Sl (slS H o) := by
 refine ⟨slS_wf h.wf hh hg, by rw [slS_m hh]; exact h.op, fun p hp => ?_, fun y hy => ?_, fun x hx y hy => ?_⟩
 ·rw [slS_m hh] at hp; exact h.low p hp
 ·rw [slS_sv h.wf hh hm]; exact h.roots y hy
 ·rw [slS_refs h.wf hh (sv_live hx)] at hy
  rw [slS_sv h.wf hh hm] at hx ⊢
  exact h.refs x hx y hy
structure Less (H H' : Hp) : Prop where
 roots : H'.roots = H.roots
 n : H'.m.n = H.m.n
 tn : H'.t.n = H.t.n
 drop : ∀ x, H'.look x = none ∨ (H'.look x).map Ob.plain = (H.look x).map Ob.plain
 keep : ∀ x, Reach H x -> (H'.look x).map Ob.plain = (H.look x).map Ob.plain
theorem Less.refl (H : Hp) : Less H H := ⟨rfl, rfl, rfl, fun _ => .inr rfl, fun _ _ => rfl⟩
theorem Sk.less {A B : Hp} (h : Sk A B) : Less A B := ⟨h.roots, h.n, by rw [h.t], fun x => .inr (h.look x), fun x _ => h.look x⟩
theorem map_some {a b : Option Ob} (h : a.map Ob.plain = b.map Ob.plain) : a.isSome = b.isSome := by
 cases a <;> cases b <;> first | rfl | cases h
theorem map_refs {A B : Hp} {x : Nat} (h : (B.look x).map Ob.plain = (A.look x).map Ob.plain) : refsOf B x = refsOf A x := by
 unfold refsOf
 cases ha : A.look x with
 | none => rw [ha] at h; cases hb : B.look x with
  | none => rfl
  | some p => rw [hb] at h; cases h
 | some o =>
  rw [ha] at h
  cases hb : B.look x with
  | none => rw [hb] at h; cases h
  | some p =>
   rw [hb] at h
   simp only [Option.map_some, Option.some.injEq] at h
   have h1 : p.plain.refs = o.plain.refs := by rw [h]
   have h2 : p.plain.w = o.plain.w := by rw [h]
   have h1 : p.refs = o.refs := h1
   have h2 : p.w = o.w := h2
   dsimp only
   rw [h1, h2]
section
variable {A B C : Hp}
theorem Less.isSome (h : Less A B) {x : Nat} (hr : Reach A x) : (B.look x).isSome = true := by rw [map_some (h.keep x hr)]; exact hr.live
theorem Less.live (h : Less A B) {x : Nat} (hx : (B.look x).isSome = true) : (A.look x).isSome = true := by
 rcases h.drop x with e | e
 ·rw [e] at hx; cases hx
 ·rw [<- map_some e]; exact hx
theorem Less.reach (h : Less A B) (x : Nat) : Reach B x ↔ Reach A x := by
 constructor
 ·intro hr
  induction hr with
  | root a b => rw [h.roots] at a; exact .root a (h.live b)
  | step _ a b ih => rw [map_refs (h.keep _ ih)] at a; exact .step ih a (h.live b)
 ·intro hr
  induction hr with
  | root a b => exact .root (by rw [h.roots]; exact a) (h.isSome (.root a b))
  | step a b c ih => exact .step ih (by rw [map_refs (h.keep _ a)]; exact b) (h.isSome (.step a b c))
theorem Less.trans (h : Less A B) (g : Less B C) : Less A C := by
 refine ⟨g.roots.trans h.roots, g.n.trans h.n, g.tn.trans h.tn, fun x => ?_, fun x hx => (g.keep x ((h.reach x).2 hx)).trans (h.keep x hx)⟩
 rcases g.drop x with e | e
 ·exact .inl e
 ·rcases h.drop x with f | f
  ·rw [f] at e
   cases hc : C.look x with
   | none => exact .inl rfl
   | some p => rw [hc] at e; cases e
  ·exact .inr (e.trans f)
theorem Less.some (h : Less A B) {x : Nat} (hr : Reach A x) {o : Ob} (ho : A.look x = some o) : ∃ p, B.look x = some p /\ p.refs = o.refs /\ p.w = o.w /\ p.tag = o.tag := by
 have := h.keep x hr
 rw [ho] at this
 cases hb : B.look x with
 | none => rw [hb] at this; cases this
 | some p =>
  rw [hb] at this
  simp only [Option.map_some, Option.some.injEq] at this
  have h1 : p.plain.refs = o.plain.refs := by rw [this]
  have h2 : p.plain.w = o.plain.w := by rw [this]
  have h3 : p.plain.tag = o.plain.tag := by rw [this]
  exact ⟨p, rfl, h1, h2, h3⟩
end
theorem slK_less (h : H.WF) (hh : H.m.high = o :: l) : Less H (slK H o) := by
 have e : ∀ x, ((slK H o).look x).map Ob.plain = (H.look x).map Ob.plain := fun x => by
  rw [slK_look h hh]
  by_cases hx : H.t.find x = some o.owner
  ·rw [if_pos hx, (head_look h hh hx).1]; rfl
  ·rw [if_neg hx]
 exact ⟨rfl, by rw [slK_m h hh], rfl, fun x => .inr (e x), fun x _ => e x⟩
theorem slS_less (h : Sl H) (hh : H.m.high = o :: l) (hm : o.mark = false) : Less H (slS H o) := by
 refine ⟨rfl, by rw [slS_m hh], rfl, fun x => ?_, fun x hx => ?_⟩
 ·rw [slS_look h.wf hh]
  by_cases hx : H.t.find x = some o.owner
  ·exact .inl (if_pos hx)
  ·rw [if_neg hx]; exact .inr rfl
 ·have hv := (slS_sv h.wf hh hm x).2 (h.reach hx)
  obtain ⟨p, hp, _⟩ := hv
  rw [slS_look h.wf hh] at hp ⊢
  by_cases hx : H.t.find x = some o.owner
  ·rw [if_pos hx] at hp; cases hp
  ·rw [if_neg hx]
structure Gd (B : Nat) (H : Hp) : Prop where
 cnt : H.t.count = H.m.low.length + H.m.high.length
 tot : tot H.t <= B
def rowH (H : Hp) : List Nat := ((H.m.low ++ H.m.high).map Ob.owner).map fun i => hnd (H.t.genAt i) i
structure One (B : Nat) (H H' : Hp) : Prop where
 sl : Sl H'
 gd : Gd B H'
 less : Less H H'
 sv : ∀ x, sv H' x ↔ sv H x
 high : H'.m.high = H.m.high.tail
 row : (rowH H').Sublist (rowH H)
theorem owners_ne (h : H.WF) (hh : H.m.high = o :: l) : ∀ p, p ∈ H.m.low ∨ p ∈ l -> p.owner ≠ o.owner := by
 obtain ⟨s0, a1, a2, a3⟩ := head_slot h hh
 have hg := h.am.gap (Am.op_of h.am hh)
 intro p hp e
 have key : ∃ k, H.m.find k = some p /\ k ≠ H.m.hi := by
  rcases hp with hp | hp
  ·obtain ⟨j, hj⟩ := List.getElem?_of_mem hp
   have h1 := findL_pos (k := 0) hj
   have h2 := findL_bound h1
   exact ⟨_, by unfold Am.find; rw [h1]; rfl, by omega⟩
  ·obtain ⟨j, hj⟩ := List.getElem?_of_mem hp
   have h1 := findL_pos (k := H.m.hi + 1 + o.w.length) hj
   have h2 := findL_bound h1
   refine ⟨H.m.hi + 1 + o.w.length + osz (l.take j), ?_, by omega⟩
   unfold Am.find
   rw [findL_above (by omega), hh, findL_cons, if_neg (by omega), h1]
   rfl
 obtain ⟨k, hk, hne⟩ := key
 obtain ⟨s, b1, b2, b3⟩ := h.back k p hk
 rw [e, a1] at b1
 cases b1
 exact hne (b3.symm.trans a3)
theorem one_of {B : Nat} (h : Sl H) (hg : Gd B H) (hB : B + 2 < 4294967296) (hh : H.m.high = o :: l) : One B H (sl1 H) := by
 obtain ⟨s0, a1, a2, a3⟩ := head_slot h.wf hh
 have hi := get_lt a1
 have hgen : H.t.genAt o.owner + 1 < 4294967296 := by have := gen_tot H.t o.owner; have := hg.tot; omega
 have hne := owners_ne h.wf hh
 unfold sl1
 rw [hh]
 dsimp only
 cases hm : o.mark with
 | true =>
  rw [if_pos rfl]
  have em := slK_m h.wf hh
  refine ⟨h.keep hh hm, ⟨?_, ?_⟩, slK_less h.wf hh, slK_sv h.wf hh hm, by rw [em, hh]; rfl, ?_⟩
  ·have e : (slK H o).t.count = H.t.count := count_move _ _ _
   rw [e, em, hg.cnt, hh]
   simp only [List.length_append, List.length_cons, List.length_nil]
   omega
  ·have e : tot (slK H o).t = tot H.t := tot_move a1 a2 _
   rw [e]; exact hg.tot
  ·have e : rowH (slK H o) = rowH H := by
    unfold rowH
    rw [em, hh]
    dsimp only
    rw [List.append_assoc]
    simp only [List.map_append, List.map_cons, List.map_nil, List.singleton_append]
    have eg : ∀ i, (slK H o).t.genAt i = H.t.genAt i := fun i => move_gen hi _ i
    simp only [eg]
    rfl
   rw [e]
   exact List.Sublist.refl _
 | false =>
  rw [if_neg (by decide)]
  have em := slS_m hh
  refine ⟨h.skip hh hm hgen, ⟨?_, ?_⟩, slS_less h hh hm, slS_sv h.wf hh hm, by rw [em, hh]; rfl, ?_⟩
  ·have e : (slS H o).t.count + 1 = H.t.count := count_free h.wf.tab a1 a2
   rw [hg.cnt, hh] at e
   rw [em]
   simp only [List.length_cons] at e
   dsimp only
   omega
  ·have e : tot (slS H o).t = tot H.t := tot_free a1 a2
   rw [e]; exact hg.tot
  ·unfold rowH
   rw [em, hh]
   dsimp only
   rw [List.map_map, List.map_map]
   have eg : (H.m.low ++ l).map ((fun i => hnd ((slS H o).t.genAt i) i) ∘ Ob.owner) = (H.m.low ++ l).map ((fun i => hnd (H.t.genAt i) i) ∘ Ob.owner) := by
    apply List.map_congr_left
    intro p hp
    have := hne p (List.mem_append.1 hp)
    simp only [Function.comp]
    have e : (slS H o).t.genAt p.owner = H.t.genAt p.owner := free_gen hi this
    rw [e]
   rw [eg]
   exact ((List.sublist_cons_self o l).append_left H.m.low).map _
theorem One.refl {B : Nat} (h : Sl H) (hg : Gd B H) (hh : H.m.high = []) : One B H H := ⟨h, hg, Less.refl H, fun _ => Iff.rfl, by rw [hh]; rfl, List.Sublist.refl _⟩
theorem sl1_nil (hh : H.m.high = []) : sl1 H = H := by unfold sl1; rw [hh]
theorem one {B : Nat} (h : Sl H) (hg : Gd B H) (hB : B + 2 < 4294967296) : One B H (sl1 H) := by
 cases hh : H.m.high with
 | nil => rw [sl1_nil hh]; exact .refl h hg hh
 | cons o l => exact one_of h hg hB hh
structure Many (B n : Nat) (H H' : Hp) : Prop where
 sl : Sl H'
 gd : Gd B H'
 less : Less H H'
 sv : ∀ x, sv H' x ↔ sv H x
 high : H'.m.high = H.m.high.drop n
 row : (rowH H').Sublist (rowH H)
theorem many {B : Nat} (hB : B + 2 < 4294967296) : ∀ (n : Nat) {H : Hp} (mv : Nat), Sl H -> Gd B H -> Many B n H (slN n (H, mv)).1
 | 0, H, mv, h, hg => ⟨h, hg, Less.refl H, fun _ => Iff.rfl, rfl, List.Sublist.refl _⟩
 | n + 1, H, mv, h, hg => by
  have h1 := one h hg hB
  have h2 := many hB n (mv + mv1 H) h1.sl h1.gd
  exact ⟨h2.sl, h2.gd, h1.less.trans h2.less, fun x => (h2.sv x).trans (h1.sv x), by rw [show (slN (n + 1) (H, mv)).1 = (slN n (sl1 H, mv + mv1 H)).1 from rfl, h2.high, h1.high, List.drop_tail], h2.row.trans h1.row⟩
theorem slN_add (n m : Nat) (s : Hp × Nat) : slN (n + m) s = slN m (slN n s) := by
 induction n generalizing s with
 | zero => rw [Nat.zero_add]; rfl
 | succ n ih => rw [show n + 1 + m = (n + m) + 1 by omega]; exact ih _
theorem mv1_le (H : Hp) : mv1 H <= 1 := by
 unfold mv1
 split
 ·omega
 ·split <;> omega
theorem slN_mv : ∀ (n : Nat) (s : Hp × Nat), (slN n s).2 <= s.2 + n
 | 0, s => Nat.le_refl _
 | n + 1, s => by
  have := slN_mv n (sl1 s.1, s.2 + mv1 s.1)
  have := mv1_le s.1
  have e : slN (n + 1) s = slN n (sl1 s.1, s.2 + mv1 s.1) := rfl
  rw [e]; dsimp only at *; omega
end Go.Hm
/- A collector as plain data: its phases, steps, ends; what a collection leaves. No program in sight. -/
set_option maxRecDepth 100000
namespace Go.Hm
open Go Go.Lw Go.Wd Go.Am Go.Tb Go.Proofs.YtpicofkhioalkaaGreat
variable {H : Hp}
structure Rw (H H' : Hp) : Prop where
 t : H'.t = H.t
 low : H'.m.low.map Ob.owner = H.m.low.map Ob.owner
 high : H'.m.high.map Ob.owner = H.m.high.map Ob.owner
theorem Rw.refl (H : Hp) : Rw H H := ⟨rfl, rfl, rfl⟩
theorem Rw.trans {A B C : Hp} (h : Rw A B) (g : Rw B C) : Rw A C := ⟨g.t.trans h.t, g.low.trans h.low, g.high.trans h.high⟩
theorem Rw.lens {A B : Hp} (h : Rw A B) : B.m.low.length = A.m.low.length /\ B.m.high.length = A.m.high.length := by
 have h1 := congrArg List.length h.low
 have h2 := congrArg List.length h.high
 simp only [List.length_map] at h1 h2
 exact ⟨h1, h2⟩
theorem Rw.gd {A B : Hp} (h : Rw A B) {b : Nat} (g : Gd b A) : Gd b B := by
 obtain ⟨h1, h2⟩ := h.lens
 exact ⟨by rw [h.t, h1, h2]; exact g.cnt, by rw [h.t]; exact g.tot⟩
theorem Rw.row {A B : Hp} (h : Rw A B) : rowH B = rowH A := by
 unfold rowH
 simp only [List.map_append, h.low, h.high, h.t]
theorem setL_owner : ∀ {l : List Ob} {k a : Nat} {o o' : Ob}, findL k l a = some o -> o'.owner = o.owner -> (setL k l a o').map Ob.owner = l.map Ob.owner
 | [], _, _, _, _, h, _ => by simp [findL] at h
 | p :: l, k, a, o, o', h, ho => by
  simp only [findL] at h
  simp only [setL]
  split at h
  ·rename_i e; cases h; rw [if_pos e]; simp [ho]
  ·rename_i e; rw [if_neg e]; simp only [List.map_cons, setL_owner h ho]
theorem rw_set (h : H.WF) {x : Nat} {o o' : Ob} (ho : H.look x = some o) (he : o'.owner = o.owner) : Rw H (H.set x o') := by
 obtain ⟨_, h2⟩ := look_some h ho
 unfold Hp.set
 rcases h.am.find_cases h2 with ⟨h1, _⟩ | ⟨h1, h3, _, _, _⟩
 ·have e : H.m.set (H.place x) o' = { H.m with low := setL 0 H.m.low (H.place x) o' } := by unfold Am.set; simp [h1]
  rw [e]
  exact ⟨rfl, setL_owner h1 he, rfl⟩
 ·have e : H.m.set (H.place x) o' = { H.m with high := setL H.m.hi H.m.high (H.place x) o' } := by unfold Am.set; simp [h1, findL_none_set h1]
  rw [e]
  exact ⟨rfl, rfl, setL_owner h3 he⟩
theorem paint_rw (h : H.WF) (x : Nat) (on : Bool) : Rw H (H.paint x on) := by
 unfold Hp.paint
 split
 ·rename_i o ho; exact rw_set h ho rfl
 ·exact .refl H
theorem lnk_rw {s : Ms} (h : s.1.WF) (x : Nat) : Rw s.1 (lnk s x).1 := by
 unfold lnk
 split
 ·split
  ·exact .refl _
  ·exact paint_rw h x true
 ·exact .refl _
theorem lnks_rw : ∀ (ys : List Nat) {s : Ms}, s.1.WF -> Rw s.1 (ys.foldl lnk s).1
 | [], _, _ => .refl _
 | y :: ys, s, h => by rw [List.foldl_cons]; exact (lnk_rw h y).trans (lnks_rw ys (lnk_wf h y))
theorem unit_rw {s : Ms} (h : s.1.WF) : Rw s.1 (unit s).1 := by
 unfold unit
 split
 ·exact .refl _
 ·exact lnks_rw (s := (s.1, s.2.dropLast)) _ h
theorem units_rw : ∀ (n : Nat) {s : Ms}, s.1.WF -> Rw s.1 (units n s).1
 | 0, _, _ => .refl _
 | n + 1, s, h => (unit_rw h).trans (units_rw n (unit_ok h).1)
theorem clear_rw (H : Hp) : Rw H H.clear := by
 refine ⟨rfl, ?_, ?_⟩ <;> (unfold Hp.clear; dsimp only; rw [List.map_map]; rfl)
theorem began_rw (h : H.WF) : Rw H (began H).1 := (clear_rw H).trans (lnks_rw (s := (H.clear, [])) _ (clear_wf h))
structure Cd where
 H : Hp
 st : List Nat
 ph : Nat
 ro : Nat
 mv : Nat
def startC (c : Cd) : Cd := ⟨(began c.H).1, (began c.H).2, 1, c.ro, c.mv⟩
def slC (n : Nat) (c : Cd) : Cd × Bool :=
 if n <= c.H.m.high.length then (⟨(slN n (c.H, c.mv)).1, [], 2, c.ro, (slN n (c.H, c.mv)).2⟩, false)
 else (⟨(slN c.H.m.high.length (c.H, c.mv)).1.shut, [], 0, c.ro + 1, (slN c.H.m.high.length (c.H, c.mv)).2⟩, true)
def openC (c : Cd) : Cd := if c.ph = 1 then ⟨c.H.opened, [], 2, c.ro, c.mv⟩ else c
def stepC (n : Nat) (c : Cd) : Cd × Bool :=
 if c.ph = 1 /\ c.st ≠ [] then (⟨(units n (c.H, c.st)).1, (units n (c.H, c.st)).2, 1, c.ro, c.mv⟩, false) else slC n (openC c)
def markC (c : Cd) : Cd := if c.ph = 1 then ⟨(units (pot (c.H, c.st)) (c.H, c.st)).1, (units (pot (c.H, c.st)) (c.H, c.st)).2, 1, c.ro, c.mv⟩ else c
def endC (c : Cd) : Cd := if c.ph = 0 then c else (slC ((openC (markC c)).H.m.high.length + 1) (openC (markC c))).1
def fullC (c : Cd) : Cd := endC (startC (endC c))
structure Ci (B : Nat) (c : Cd) : Prop where
 wf : c.H.WF
 gd : Gd B c.H
 ph : (c.ph = 0 /\ c.st = [] /\ c.H.m.op = false /\ c.H.Closed) ∨ (c.ph = 1 /\ Inv (c.H, c.st) /\ c.H.m.op = false /\ c.H.Closed) ∨ (c.ph = 2 /\ c.st = [] /\ Sl c.H)
structure Sp (B : Nat) (c c' : Cd) : Prop where
 ci : Ci B c'
 less : Less c.H c'.H
 row : (rowH c'.H).Sublist (rowH c.H)
theorem Sp.trans {B : Nat} {a b c : Cd} (h : Sp B a b) (g : Sp B b c) : Sp B a c := ⟨g.ci, h.less.trans g.less, g.row.trans h.row⟩
theorem Sp.refl {B : Nat} {a : Cd} (h : Ci B a) : Sp B a a := ⟨h, Less.refl _, List.Sublist.refl _⟩
section
variable {B : Nat} {c : Cd}
theorem Ci.ph0 (h : Ci B c) (hp : c.ph = 0) : c.st = [] /\ c.H.m.op = false /\ c.H.Closed := by
 rcases h.ph with a | a | a
 ·exact a.2
 ·have := a.1; omega
 ·have := a.1; omega
theorem Ci.ph1 (h : Ci B c) (hp : c.ph = 1) : Inv (c.H, c.st) /\ c.H.m.op = false /\ c.H.Closed := by
 rcases h.ph with a | a | a
 ·have := a.1; omega
 ·exact a.2
 ·have := a.1; omega
theorem Ci.ph2 (h : Ci B c) (h0 : c.ph ≠ 0) (hp : c.ph ≠ 1) : c.ph = 2 /\ c.st = [] /\ Sl c.H := by
 rcases h.ph with a | a | a
 ·have := a.1; omega
 ·have := a.1; omega
 ·exact a
theorem start_ok (h : Ci B c) (hp : c.ph = 0) : Sp B c (startC c) := by
 obtain ⟨h1, h2, h3⟩ := h.ph0 hp
 obtain ⟨g1, g2, _⟩ := began_ok h.wf
 have hr := began_rw h.wf
 exact ⟨⟨g1, hr.gd h.gd, .inr (.inl ⟨rfl, Inv.began h.wf, g2.op.trans h2, g2.closed h3⟩)⟩, g2.less, by rw [show (startC c).H = (began c.H).1 from rfl, hr.row]; exact List.Sublist.refl _⟩
theorem may_or {H : Hp} {y : Nat} (h : H.may y = true) : y = 0 ∨ (H.look y).isSome = true := by
 unfold Hp.may at h
 simpa using h
theorem opened_look (h : H.WF) (ho : H.m.op = false) (x : Nat) : H.opened.look x = H.look x := by
 unfold Hp.look
 have e : ∀ k, H.opened.m.find k = H.m.find k := Am.find_opened h.am ho
 have e2 : H.opened.t = H.t := rfl
 rw [e2]
 cases H.t.find x with
 | none => rfl
 | some i => simp only [Option.bind_some, e]
theorem opened_wf2 (h : H.WF) (ho : H.m.op = false) : H.opened.WF := by
 have e : ∀ k, H.opened.m.find k = H.m.find k := Am.find_opened h.am ho
 refine ⟨Am.opened_wf h.am ho, h.tab, h.rlen, h.r64, fun i s hs ht => ?_, fun k o hk => ?_⟩
 ·rw [e]; exact h.link i s hs ht
 ·rw [e] at hk; exact h.back k o hk
theorem opened_sv (h : H.WF) (ho : H.m.op = false) (x : Nat) : sv H.opened x ↔ isM H x = true := by
 unfold sv isM
 rw [opened_look h ho]
 have e : osz H.opened.m.low = 0 := rfl
 rw [e]
 cases H.look x with
 | none => simp
 | some o => simp
theorem opened_less (h : H.WF) (ho : H.m.op = false) : Less H H.opened :=
 ⟨rfl, rfl, rfl, fun x => .inr (by rw [opened_look h ho]), fun x _ => by rw [opened_look h ho]⟩
theorem opened_row (ho : H.m.op = false) (h : H.WF) : rowH H.opened = rowH H := by
 have hh := (h.am.shut ho).2
 have e : H.opened.m.low ++ H.opened.m.high = H.m.low ++ H.m.high := by
  rw [hh, List.append_nil]; rfl
 unfold rowH
 rw [e]
 rfl
theorem opened_gd (ho : H.m.op = false) (h : H.WF) {B : Nat} (g : Gd B H) : Gd B H.opened := by
 have hh := (h.am.shut ho).2
 have h1 := g.cnt
 refine ⟨?_, g.tot⟩
 rw [hh] at h1
 have e : H.opened.t.count = H.t.count := rfl
 rw [e, h1]
 show H.m.low.length + 0 = 0 + H.m.low.length
 omega
theorem opened_sl {st : List Nat} (h : Inv (H, st)) (hst : st = []) (ho : H.m.op = false) (hc : H.Closed) : Sl H.opened := by
 subst hst
 have hw : H.WF := h.wf
 refine ⟨opened_wf2 hw ho, rfl, fun o hh => (by cases hh), fun y hy => ?_, fun x hx y hy => ?_⟩
 ·rw [opened_sv hw ho]
  exact (may_or (hc.roots y hy)).imp id fun a => h.roots y hy a
 ·rw [opened_sv hw ho] at hx ⊢
  have hy : y ∈ refsOf H x := by unfold refsOf at hy ⊢; rw [opened_look hw ho] at hy; exact hy
  exact (may_or (hc.refs x y hy)).imp id fun a => h.refs x hx (by simp) y hy a
theorem open_ok (h : Ci B c) (h0 : c.ph ≠ 0) (hst : c.ph = 1 -> c.st = []) : Sp B c (openC c) /\ (openC c).ph = 2 /\ (openC c).st = [] /\ Sl (openC c).H /\ (openC c).ro = c.ro /\ (openC c).mv = c.mv := by
 unfold openC
 by_cases hp : c.ph = 1
 ·rw [if_pos hp]
  obtain ⟨h1, h2, h3⟩ := h.ph1 hp
  have hsl := opened_sl h1 (hst hp) h2 h3
  exact ⟨⟨⟨hsl.wf, opened_gd h2 h.wf h.gd, .inr (.inr ⟨rfl, rfl, hsl⟩)⟩, opened_less h.wf h2, by rw [opened_row h2 h.wf]; exact List.Sublist.refl _⟩, rfl, rfl, hsl, rfl, rfl⟩
 ·rw [if_neg hp]
  obtain ⟨h1, h2, h3⟩ := h.ph2 h0 hp
  exact ⟨Sp.refl h, h1, h2, h3, rfl, rfl⟩
theorem end_sv (h : Sl H) (hh : H.m.high = []) {x : Nat} (hx : (H.look x).isSome = true) : sv H x := by
 obtain ⟨o, ho⟩ := Option.isSome_iff_exists.1 hx
 obtain ⟨_, h2⟩ := look_some h.wf ho
 rcases h.wf.am.find_cases h2 with ⟨_, h3⟩ | ⟨_, h3, _⟩
 ·exact ⟨o, ho, .inr (by omega)⟩
 ·rw [hh] at h3; simp [findL] at h3
theorem shut_look (hh : H.m.high = []) (x : Nat) : H.shut.look x = H.look x := by
 unfold Hp.look
 have e : ∀ k, H.shut.m.find k = H.m.find k := Am.find_close hh
 have e2 : H.shut.t = H.t := rfl
 rw [e2]
 cases H.t.find x with
 | none => rfl
 | some i => simp only [Option.bind_some, e]
theorem shut_wf (h : Sl H) (hh : H.m.high = []) : H.shut.WF := by
 have e : ∀ k, H.shut.m.find k = H.m.find k := Am.find_close hh
 refine ⟨Am.close_wf h.wf.am h.op hh, h.wf.tab, h.wf.rlen, h.wf.r64, fun i s hs ht => ?_, fun k o hk => ?_⟩
 ·rw [e]; exact h.wf.link i s hs ht
 ·rw [e] at hk; exact h.wf.back k o hk
theorem shut_less (hh : H.m.high = []) : Less H H.shut := ⟨rfl, rfl, rfl, fun x => .inr (by rw [shut_look hh]), fun x _ => by rw [shut_look hh]⟩
theorem shut_row : rowH H.shut = rowH H := rfl
theorem shut_closed (h : Sl H) (hh : H.m.high = []) : H.shut.Closed := by
 have hm : ∀ {y : Nat}, y = 0 ∨ sv H y -> H.shut.may y = true := fun a => by
  unfold Hp.may
  rcases a with rfl | a
  ·rfl
  ·rw [shut_look hh, sv_live a]; simp
 refine ⟨fun y hy => hm (h.roots y hy), fun x y hy => ?_⟩
 have hy : y ∈ refsOf H x := by unfold refsOf at hy ⊢; rw [shut_look hh] at hy; exact hy
 have hl : (H.look x).isSome = true := by
  unfold refsOf at hy
  cases hx : H.look x with
  | none => rw [hx] at hy; cases hy
  | some o => rfl
 exact hm (h.refs x (end_sv h hh hl) y hy)
theorem slC_ok (hB : B + 2 < 4294967296) (h : Sl c.H) (hg : Gd B c.H) (n : Nat) : Sp B c (slC n c).1 := by
 unfold slC
 split
 ·have hm := many hB n c.mv h hg
  exact ⟨⟨hm.sl.wf, hm.gd, .inr (.inr ⟨rfl, rfl, hm.sl⟩)⟩, hm.less, hm.row⟩
 ·have hm := many hB c.H.m.high.length c.mv h hg
  have hh : (slN c.H.m.high.length (c.H, c.mv)).1.m.high = [] := by rw [hm.high, List.drop_length]
  exact ⟨⟨shut_wf hm.sl hh, ⟨hm.gd.cnt, hm.gd.tot⟩, .inl ⟨rfl, rfl, rfl, shut_closed hm.sl hh⟩⟩, hm.less.trans (shut_less hh), by dsimp only; rw [shut_row]; exact hm.row⟩
theorem step_ok (hB : B + 2 < 4294967296) (h : Ci B c) (h0 : c.ph ≠ 0) (n : Nat) : Sp B c (stepC n c).1 := by
 unfold stepC
 split
 ·rename_i hp
  obtain ⟨h1, h2, h3⟩ := h.ph1 hp.1
  obtain ⟨g1, g2, _⟩ := units_ok (s := (c.H, c.st)) h.wf n
  have hr := units_rw n (s := (c.H, c.st)) h.wf
  exact ⟨⟨g1, hr.gd h.gd, .inr (.inl ⟨rfl, h1.units n, g2.op.trans h2, g2.closed h3⟩)⟩, g2.less, by dsimp only; rw [hr.row]; exact List.Sublist.refl _⟩
 ·rename_i hp
  obtain ⟨g1, g2, g3, g4, _⟩ := open_ok h h0 (fun e => Classical.byContradiction fun hh => hp ⟨e, hh⟩)
  exact g1.trans (slC_ok hB g4 g1.ci.gd n)
theorem pot_end {s : Ms} (h : s.1.WF) {n : Nat} (hn : pot s <= n) : (units n s).2 = [] := by
 obtain ⟨_, _, g3⟩ := units_ok (s := s) h n
 refine Classical.byContradiction fun hne => ?_
 have := g3 hne
 have h1 : 0 < (units n s).2.length := List.length_pos_iff.2 hne
 have h2 : (units n s).2.length <= pot (units n s) := Nat.le_add_right _ _
 omega
theorem units_fin {s : Ms} {a b : Nat} (ha : (units a s).2 = []) (hb : (units b s).2 = []) : units a s = units b s := by
 rw [<- units_nil ha b, <- units_add, Nat.add_comm, units_add, units_nil hb]
theorem mark_ok (h : Ci B c) (h0 : c.ph ≠ 0) : Sp B c (markC c) /\ (markC c).ph = c.ph /\ (c.ph = 1 -> (markC c).st = []) /\ (markC c).ro = c.ro /\ (markC c).mv = c.mv := by
 unfold markC
 split
 ·rename_i hp
  obtain ⟨h1, h2, h3⟩ := h.ph1 hp
  obtain ⟨g1, g2, _⟩ := units_ok (s := (c.H, c.st)) h.wf (pot (c.H, c.st))
  have hr := units_rw (pot (c.H, c.st)) (s := (c.H, c.st)) h.wf
  exact ⟨⟨⟨g1, hr.gd h.gd, .inr (.inl ⟨rfl, h1.units _, g2.op.trans h2, g2.closed h3⟩)⟩, g2.less, by dsimp only; rw [hr.row]; exact List.Sublist.refl _⟩, hp.symm, fun _ => pot_end h.wf (Nat.le_refl _), rfl, rfl⟩
 ·rename_i hp
  exact ⟨Sp.refl h, rfl, fun e => absurd e hp, rfl, rfl⟩
def Pk (c : Cd) : Prop := c.ph = 1 -> pot (c.H, c.st) <= 1048576
theorem end_ok (hB : B + 2 < 4294967296) (h : Ci B c) : Sp B c (endC c) /\ (endC c).ph = 0 := by
 unfold endC
 split
 ·rename_i h0; exact ⟨Sp.refl h, h0⟩
 ·rename_i h0
  obtain ⟨g1, g2, g3, _⟩ := mark_ok h h0
  obtain ⟨k1, k2, k3, k4, _⟩ := open_ok g1.ci (by rw [g2]; exact h0) (fun e => g3 (g2.symm.trans e))
  refine ⟨g1.trans (k1.trans (slC_ok hB k4 k1.ci.gd _)), ?_⟩
  unfold slC
  rw [if_neg (by omega)]
theorem pk_start (h : Ci B c) : Pk (startC c) := fun _ => by
 have h1 := (began_ok h.wf).2.2
 have h2 := objs_le h.wf
 show pot (began c.H) <= 1048576
 omega
theorem pk_step (h : Ci B c) (hk : Pk c) (n : Nat) : Pk (stepC n c).1 := by
 unfold stepC
 split
 ·rename_i hp
  intro _
  have h1 := units_pot n (s := (c.H, c.st)) h.wf
  have h2 := hk hp.1
  have e : pot ((units n (c.H, c.st)).1, (units n (c.H, c.st)).2) = pot (units n (c.H, c.st)) := rfl
  dsimp only
  rw [e]; omega
 ·intro e
  unfold slC at e
  split at e <;> cases e
theorem pk0 (h : c.ph ≠ 1) : Pk c := fun e => absurd e h
theorem slC_end {n : Nat} (hn : 1 <= n) (h2 : c.ph = 2) (hB : B + 2 < 4294967296) (h : Sl c.H) (hg : Gd B c.H) : endC (slC n c).1 = endC c := by
 have e0 : endC c = (slC (c.H.m.high.length + 1) c).1 := by
  unfold endC
  rw [if_neg (by omega)]
  have e1 : markC c = c := by unfold markC; rw [if_neg (by omega)]
  have e2 : openC c = c := by unfold openC; rw [if_neg (by omega)]
  rw [e1, e2]
 have e1 : (slC (c.H.m.high.length + 1) c).1 = ⟨(slN c.H.m.high.length (c.H, c.mv)).1.shut, [], 0, c.ro + 1, (slN c.H.m.high.length (c.H, c.mv)).2⟩ := by
  unfold slC; rw [if_neg (by omega)]
 rw [e0, e1]
 by_cases hle : n <= c.H.m.high.length
 ·have e3 : (slC n c).1 = ⟨(slN n (c.H, c.mv)).1, [], 2, c.ro, (slN n (c.H, c.mv)).2⟩ := by unfold slC; rw [if_pos hle]
  have hm := many hB n c.mv h hg
  have hl : (slN n (c.H, c.mv)).1.m.high.length = c.H.m.high.length - n := by rw [hm.high, List.length_drop]
  have ha : slN c.H.m.high.length (c.H, c.mv) = slN (c.H.m.high.length - n) (slN n (c.H, c.mv)) := by rw [<- slN_add]; congr 1; omega
  rw [e3]
  unfold endC
  rw [if_neg (by dsimp only; omega)]
  have e4 : ∀ d : Cd, d.ph = 2 -> openC (markC d) = d := fun d hd => by
   have e1 : markC d = d := by unfold markC; rw [if_neg (by omega)]
   rw [e1]; unfold openC; rw [if_neg (by omega)]
  rw [e4 _ rfl]
  unfold slC
  rw [if_neg (by omega)]
  dsimp only
  rw [hl, ha]
 ·have e3 : (slC n c).1 = ⟨(slN c.H.m.high.length (c.H, c.mv)).1.shut, [], 0, c.ro + 1, (slN c.H.m.high.length (c.H, c.mv)).2⟩ := by unfold slC; rw [if_neg hle]
  rw [e3]
  unfold endC
  rw [if_pos rfl]
theorem end_step {n : Nat} (hn : 1 <= n) (hB : B + 2 < 4294967296) (h : Ci B c) (h0 : c.ph ≠ 0) : endC (stepC n c).1 = endC c := by
 unfold stepC
 split
 ·rename_i hp
  have hw := (units_ok (s := (c.H, c.st)) h.wf n).1
  have e : units (pot (units n (c.H, c.st))) (units n (c.H, c.st)) = units (pot (c.H, c.st)) (c.H, c.st) := by
   have a1 := pot_end hw (Nat.le_refl _)
   rw [<- units_add] at a1 ⊢
   exact units_fin a1 (pot_end h.wf (Nat.le_refl _))
  unfold endC
  dsimp only
  rw [if_neg (by omega), if_neg h0]
  have e1 : markC ⟨(units n (c.H, c.st)).1, (units n (c.H, c.st)).2, 1, c.ro, c.mv⟩ = markC c := by
   unfold markC
   rw [if_pos rfl, if_pos hp.1]
   dsimp only
   have e2 : ((units n (c.H, c.st)).1, (units n (c.H, c.st)).2) = units n (c.H, c.st) := rfl
   rw [e2, e]
  rw [e1]
 ·rename_i hp
  have hst : c.ph = 1 -> c.st = [] := fun e => Classical.byContradiction fun hh => hp ⟨e, hh⟩
  obtain ⟨g1, g2, g3, g4, g5, g6⟩ := open_ok h h0 hst
  rw [slC_end hn g2 hB g4 g1.ci.gd]
  unfold endC
  rw [if_neg (by omega), if_neg h0]
  have e4 : ∀ d : Cd, d.ph = 2 -> openC (markC d) = d := fun d hd => by
   have e1 : markC d = d := by unfold markC; rw [if_neg (by omega)]
   rw [e1]; unfold openC; rw [if_neg (by omega)]
  rw [e4 _ g2]
  have e5 : openC (markC c) = openC c := by
   by_cases e : c.ph = 1
   ·unfold markC
    rw [if_pos e]
    unfold openC
    dsimp only
    rw [if_pos rfl, if_pos e, units_nil (hst e)]
   ·unfold markC
    rw [if_neg e]
  rw [e5]
def muC (c : Cd) : Nat := if c.ph = 0 then 0 else if c.ph = 1 then pot (c.H, c.st) + (c.H.m.low.length + c.H.m.high.length) + 2 else c.H.m.high.length + 1
theorem mu_slC {n : Nat} (hn : 1 <= n) (hB : B + 2 < 4294967296) (h : Sl c.H) (hg : Gd B c.H) : muC (slC n c).1 < c.H.m.high.length + 1 := by
 unfold slC
 split
 ·rename_i hle
  have hm := many hB n c.mv h hg
  have hl : (slN n (c.H, c.mv)).1.m.high.length = c.H.m.high.length - n := by rw [hm.high, List.length_drop]
  unfold muC
  dsimp only
  rw [if_neg (by omega), if_neg (by omega), hl]
  omega
 ·unfold muC
  rw [if_pos rfl]
  omega
theorem mu_step {n : Nat} (hn : 1 <= n) (hB : B + 2 < 4294967296) (h : Ci B c) (h0 : c.ph ≠ 0) : muC (stepC n c).1 < muC c := by
 unfold stepC
 split
 ·rename_i hp
  have hr := units_rw n (s := (c.H, c.st)) h.wf
  obtain ⟨r1, r2⟩ := hr.lens
  have h1 := (unit_ok (s := (c.H, c.st)) h.wf).2.2 hp.2
  have h2 := units_pot (n - 1) (unit_ok (s := (c.H, c.st)) h.wf).1
  have e : units n (c.H, c.st) = units (n - 1) (unit (c.H, c.st)) := by
   obtain ⟨k, rfl⟩ := Nat.exists_eq_add_of_le hn
   rw [Nat.add_comm, Nat.add_sub_cancel]; rfl
  have e2 : pot ((units n (c.H, c.st)).1, (units n (c.H, c.st)).2) = pot (units n (c.H, c.st)) := rfl
  unfold muC
  dsimp only
  have h3 : pot (units n (c.H, c.st)) + 1 <= pot (c.H, c.st) := by rw [e]; omega
  rw [if_neg (by omega), if_pos rfl, if_neg h0, if_pos hp.1, r1, r2]
  dsimp only at e2 ⊢
  omega
 ·rename_i hp
  have hst : c.ph = 1 -> c.st = [] := fun e => Classical.byContradiction fun hh => hp ⟨e, hh⟩
  obtain ⟨g1, g2, g3, g4, g5, g6⟩ := open_ok h h0 hst
  have h1 := mu_slC hn hB g4 g1.ci.gd
  have h2 : (openC c).H.m.high.length + 1 <= muC c := by
   unfold muC openC
   rw [if_neg h0]
   by_cases e : c.ph = 1
   ·rw [if_pos e, if_pos e]
    show c.H.m.low.length + 1 <= _
    omega
   ·rw [if_neg e, if_neg e]
    exact Nat.le_refl _
  omega
end
end Go.Hm
/- What a unit of the package slide's second phase comes to, over a heap as data. -/
set_option maxRecDepth 100000
namespace Go.Proofs.YtpicofkhioalkaaGreat
open Go Go.Lw Go.Wd Go.Am Go.Tb Go.Hm
def CoR (b cb mb ph ro mv : Nat) : HP := Row cb [.pointer (some ⟨b, 0, none⟩), .pointer (some ⟨mb, 0, none⟩), .int .i64 (ph : Int), .int .i64 (ro : Int), .int .i64 (mv : Int)] 101
def coW (cb : Nat) : Value := .iface 52 (.pointer (some ⟨cb, 0, none⟩))
section
variable {H : Hp} {v : Value} {b cb mb ro mv : Nat} {F : List HP} {w : World}
theorem htab_o {L : List HP} {ba bt : Nat} {rs : List Nat} (hs : Sat L w) (i : Nat) (hi : L[i]? = some (Row b (hrow ba bt rs v) 106)) : Calls Tryz.prog 24 #[.pointer (some ⟨b, 0, none⟩)] w fun e w' =>
  e = .returned (.pointer (some ⟨bt, 0, none⟩)) /\ w = w' := by
 refine S_heap_Heap_Table_ok _ _ _ ?_
 unfold S_heap_Heap_Table
 simp only [onSome_some]
 refine LdP.of hs i hi (off := 1) rfl (add_mk _ _ _) ?_
 exact ⟨rfl, trivial⟩
set_option maxHeartbeats 2000000 in
theorem slide_c {B : Nat} (hs : Sat (HeapH H v b :: CoR b cb mb 2 ro mv :: F) w) (hS : Sl H) (hg : Gd B H) (hB : B + 2 < 4294967296) (hro : ro < 4611686018427387904) (hmv : mv < 4611686018427387904) :
  Calls Tryz.prog 72 #[.pointer (some ⟨cb, 0, none⟩)] w fun e w' =>
   if H.m.high = [] then Ret (.bool true) (Sat (HeapH H.shut .nilIface b :: CoR b cb mb 0 (ro + 1) mv :: F)) e w'
   else Ret (.bool false) (Sat (HeapH (sl1 H) v b :: CoR b cb mb 2 ro (mv + mv1 H) :: F)) e w' := by
 have hm := hS.wf
 have hgap := hm.am.gap hS.op
 have htopn := hm.am.top
 have hmost := hm.am.most
 refine S_slide_Collector_slide_ok _ _ _ ?_
 unfold S_slide_Collector_slide
 simp only [onSome_some]
 refine LdP.of hs 1 rfl (off := 0) rfl rfl ?_
 refine (harena_c hs).mono ?_
 rintro e w1 ⟨rfl, ba, bt, rfl, h1⟩
 refine ⟨_, rfl, ?_⟩
 refine (gap2 (h1.pull 1 rfl)).mono ?_
 rintro e w2 ⟨rfl, h2⟩
 refine ⟨_, _, _, rfl, ?_⟩
 refine (head2 h2 _).mono ?_
 rw [findI_nat]
 cases hh : H.m.high with
 | nil => as_aux_lemma =>
  have hf : H.m.find H.m.hi = none := by
   unfold Am.find
   rw [findL_above (by omega), hh]
   rfl
  rw [hf]
  rintro e w3 ⟨rfl, h3⟩
  refine ⟨_, _, _, _, _, _, rfl, ?_⟩
  refine NewC.ofRow h3 fun d w4 h4 => ?_
  refine st5 h4 0 rfl fun w5 h5 => ?_
  refine (top2 (h5.pull 1 rfl)).mono ?_
  rintro e w6 ⟨rfl, rfl⟩
  refine ⟨_, rfl, ?_⟩
  have ht : H.m.top = H.m.hi := by simp [Am.top, hS.op, hh, osz]
  refine cond_t (by simp [ht]) ?_
  refine (close2 (h5.pull 1 rfl)).mono ?_
  intro e w6 hp
  rw [if_pos hS.op, if_pos hh] at hp
  obtain ⟨rfl, h6⟩ := hp
  refine ⟨_, rfl, ?_⟩
  have h6 : Sat (Arena H.shut.m ba :: Row d _ _ :: Row b (hrow ba bt H.roots v) 106 :: Tbl H.t bt :: CoR b cb mb 2 ro mv :: F) w6 := h6
  have hwf : H.shut.WF := by
   have e : H.shut.m = H.m.close := rfl
   refine ⟨Am.close_wf hm.am hS.op hh, hm.tab, hm.rlen, hm.r64, fun i s hs ht => ?_, fun k o ho => ?_⟩
   ·rw [e, Am.find_close hh]; exact hm.link i s hs ht
   ·rw [e, Am.find_close hh] at ho; exact hm.back k o ho
  have h7 : Sat (HeapH H.shut v b :: CoR b cb mb 2 ro mv :: F) w6 := heap_shut hwf (ba := ba) (bt := bt) ((Sat.p1 h6).drop.p1)
  refine LdP.of h7 1 rfl (off := 0) rfl rfl ?_
  refine (watch_c (v' := .nilIface) rfl h7).mono ?_
  rintro e w7 ⟨rfl, h8⟩
  refine ⟨rfl, ?_⟩
  refine StC.of h8 1 rfl (off := 2) rfl (add_mk _ _ _) fun w8 h9 => ?_
  refine LdI.of h9 1 rfl (off := 3) rfl (add_mk _ _ _) ?_
  refine StC.of h9 1 rfl (off := 3) rfl (add_mk _ _ _) fun w9 h10 => ?_
  rw [if_pos rfl, wrapI64 (by omega) (by omega)] at *
  exact ⟨rfl, h10⟩
 | cons o l => as_aux_lemma =>
  simp only [reduceCtorEq, if_false]
  rw [head_find hm hh]
  rintro e w3 ⟨rfl, h3⟩
  refine ⟨_, _, _, _, _, _, rfl, ?_⟩
  refine NewC.ofRow h3 fun d w4 h4 => ?_
  refine st5 h4 0 rfl fun w5 h5 => ?_
  refine (top2 (h5.pull 1 rfl)).mono ?_
  rintro e w6 ⟨rfl, rfl⟩
  refine ⟨_, rfl, ?_⟩
  have ht : H.m.top = H.m.hi + (1 + o.w.length + osz l) := by simp [Am.top, hS.op, hh, osz]
  refine cond_f (by simp [ht]; omega) ?_
  refine cond_f rfl ?_
  obtain ⟨s0, a1, a2, a3⟩ := head_slot hm hh
  have hown := get_lt a1
  have htl := hm.tab.len
  have htm := hm.tab.most
  have hfd : H.t.find (hnd (H.t.genAt o.owner) o.owner) = some o.owner := find_of (by omega) a1 a2 (genAt_of a1).symm
  have hu : hnd (H.t.genAt o.owner) o.owner < 18446744073709551616 := by
   have := hm.tab.genAt_lt o.owner
   unfold hnd; omega
  have hgen : H.t.genAt o.owner + 1 < 4294967296 := by have := gen_tot H.t o.owner; have := hg.tot; omega
  have h5 : Sat (Row d [.int .i64 (o.tag : Nat), .int .i64 (o.refs : Nat), .int .i64 (o.w.length : Nat), .bool o.mark, .int .i64 (o.owner : Nat)] 115 :: Arena H.m ba :: Row b (hrow ba bt H.roots v) 106 :: Tbl H.t bt :: CoR b cb mb 2 ro mv :: F) w5 := h5
  have h6 := h5.drew
  generalize w5.drew = w6 at h6
  clear h1 h2 h3 h4 h5 hs
  refine ⟨fun w => Sat (Row d [.int .i64 (o.tag : Nat), .int .i64 (o.refs : Nat), .int .i64 (o.w.length : Nat), .bool o.mark, .int .i64 (o.owner : Nat)] 115 :: Arena H.m ba :: Row b (hrow ba bt H.roots v) 106 :: Tbl H.t bt :: CoR b cb mb 2 ro mv :: F) w, h6, ?_⟩
  refine LdPQ.row (fun w hw => ⟨_, Sat.pull hw 4 rfl⟩) (off := 0) rfl rfl ?_
  refine LdIQ.row (fun w hw => ⟨_, hw⟩) (off := 4) rfl (add_mk _ _ _) ?_
  refine (htab_o h6 2 rfl).mono ?_
  rintro e w7 ⟨rfl, rfl⟩
  refine ⟨_, rfl, h6, ?_⟩
  refine (of_c (h6.pull 3 rfl) _).mono ?_
  rintro e w7 ⟨rfl, rfl⟩
  rw [if_neg (by omega), Int.toNat_natCast, if_pos (by simp [Tab.takenAt, a1, a2])]
  refine ⟨_, _, rfl, h6, ?_⟩
  refine LdB.of h6 0 rfl (off := 3) rfl (add_mk _ _ _) ?_
  cases hmk : o.mark with
  | false => as_aux_lemma =>
   have e1 : sl1 H = slS H o := by unfold sl1; rw [hh]; dsimp only; rw [hmk, if_neg (by decide)]
   have e2 : mv1 H = 0 := by unfold mv1; rw [hh]; dsimp only; rw [hmk, if_neg (by simp)]
   rw [e1, e2]
   refine cond_t rfl ?_
   refine (skip2 (h6.pull 1 rfl) hh).mono ?_
   rintro e w8 ⟨rfl, h7⟩
   refine ⟨_, _, rfl, cond_t rfl ?_⟩
   refine LdP.of h7 4 rfl (off := 0) rfl rfl ?_
   refine (htab_o h7 2 rfl).mono ?_
   rintro e w9 ⟨rfl, rfl⟩
   refine ⟨_, rfl, ?_⟩
   refine (free_c (h7.pull 3 rfl) hu hfd hgen).mono ?_
   rintro e w9 ⟨rfl, h8⟩
   refine ⟨_, rfl, rfl, ?_⟩
   have h8 : Sat (Tbl (slS H o).t bt :: Arena (slS H o).m ba :: Row d _ _ :: Row b (hrow ba bt (slS H o).roots v) 106 :: CoR b cb mb 2 ro mv :: F) w9 := h8
   have h9 := (h8.pull 2 rfl).drop
   exact heap_shut (slS_wf hm hh hgen) (ba := ba) (bt := bt) ((Sat.pull h9 1 rfl).pull 2 rfl)
  | true => as_aux_lemma =>
   have e1 : sl1 H = slK H o := by unfold sl1; rw [hh]; dsimp only; rw [hmk, if_pos rfl]
   rw [e1]
   refine cond_f rfl ?_
   refine (keep2 (h6.pull 1 rfl) hh).mono ?_
   rintro e w8 ⟨rfl, h7⟩
   refine ⟨_, _, _, rfl, ?_⟩
   refine (mark2 h7 _ false).mono ?_
   intro e w9 hp
   have hke := keep_at hm hh
   rcases hp with ⟨h8, _⟩ | ⟨k, o', e3, h8, h9⟩
   ·rw [findI_nat, hke] at h8; cases h8
   ·have e3 : k = osz H.m.low := by omega
    subst e3
    rw [hke] at h8
    cases h8
    obtain ⟨rfl, h9⟩ := h9
    refine ⟨_, rfl, ?_⟩
    intro k0 hk0
    refine cond_t rfl ?_
    refine LdP.of h9 4 rfl (off := 0) rfl rfl ?_
    refine (htab_o h9 2 rfl).mono ?_
    rintro e w10 ⟨rfl, rfl⟩
    refine ⟨_, rfl, ?_⟩
    refine (move_c (h9.pull 3 rfl) hu _ (by omega)).mono ?_
    intro e w11 hp
    rcases hp with ⟨g1, _⟩ | ⟨i, g1, g2, _⟩ | ⟨i, g1, g2, rfl, h10⟩
    ·rw [hfd] at g1; cases g1
    ·omega
    ·rw [hfd] at g1
     cases g1
     rw [Int.toNat_natCast] at h10
     refine ⟨_, rfl, hk0 _ ?_⟩
     have h10 : Sat (Tbl (slK H o).t bt :: Arena (slK H o).m ba :: Row d _ _ :: Row b (hrow ba bt (slK H o).roots v) 106 :: CoR b cb mb 2 ro mv :: F) w11 := h10
     have h11 := (h10.pull 2 rfl).drop
     have h12 := heap_shut (slK_wf hm hh) (ba := ba) (bt := bt) ((Sat.pull h11 1 rfl).pull 2 rfl)
     unfold S_slide_Collector_slide_j0
     simp only [onSome_some]
     by_cases hne : H.m.hi = osz H.m.low
     ·have e2 : mv1 H = 0 := by unfold mv1; rw [hh]; dsimp only; rw [if_neg (fun hh => hh.2 hne)]
      rw [e2]
      exact cond_f (by simp [hne]) ⟨rfl, h12⟩
     ·have e2 : mv1 H = 1 := by unfold mv1; rw [hh]; dsimp only; rw [if_pos ⟨hmk, hne⟩]
      rw [e2]
      refine cond_t (by simp; omega) ?_
      refine LdI.of h12 1 rfl (off := 4) rfl (add_mk _ _ _) ?_
      refine StC.of h12 1 rfl (off := 4) rfl (add_mk _ _ _) fun w12 h13 => ?_
      rw [wrapI64 (by omega) (by omega)] at h13
      exact ⟨rfl, h13⟩
end
end Go.Proofs.YtpicofkhioalkaaGreat
/- What the package slide's functions come to, over a collector as data. -/
set_option maxRecDepth 100000
namespace Go.Hm
open Go Go.Lw Go.Wd Go.Am Go.Tb
def mvB (c : Cd) : Nat := c.mv + if c.ph = 0 then 0 else if c.ph = 1 then c.H.m.low.length + c.H.m.high.length else c.H.m.high.length
def roB (c : Cd) : Nat := c.ro + if c.ph = 0 then 0 else 1
section
variable {B : Nat} {c : Cd}
theorem mv_le (c : Cd) : c.mv <= mvB c := Nat.le_add_right _ _
theorem ro_le (c : Cd) : c.ro <= roB c := Nat.le_add_right _ _
theorem mvB_slC (hB : B + 2 < 4294967296) (h : Sl c.H) (hg : Gd B c.H) (n : Nat) : mvB (slC n c).1 <= c.mv + c.H.m.high.length := by
 unfold slC
 split
 ·have hm := many hB n c.mv h hg
  have hl : (slN n (c.H, c.mv)).1.m.high.length = c.H.m.high.length - n := by rw [hm.high, List.length_drop]
  have := slN_mv n (c.H, c.mv)
  unfold mvB
  dsimp only at this ⊢
  rw [if_neg (by omega), if_neg (by omega), hl]
  omega
 ·have := slN_mv c.H.m.high.length (c.H, c.mv)
  unfold mvB
  dsimp only at this ⊢
  rw [if_pos rfl]
  omega
theorem mvB_step (hB : B + 2 < 4294967296) (h : Ci B c) (h0 : c.ph ≠ 0) (n : Nat) : mvB (stepC n c).1 <= mvB c := by
 unfold stepC
 split
 ·rename_i hp
  obtain ⟨r1, r2⟩ := (units_rw n (s := (c.H, c.st)) h.wf).lens
  unfold mvB
  dsimp only at r1 r2 ⊢
  rw [if_neg (by omega), if_pos rfl, if_neg h0, if_pos hp.1, r1, r2]
  exact Nat.le_refl _
 ·rename_i hp
  have hst : c.ph = 1 -> c.st = [] := fun e => Classical.byContradiction fun hh => hp ⟨e, hh⟩
  obtain ⟨g1, g2, g3, g4, g5, g6⟩ := open_ok h h0 hst
  refine Nat.le_trans (mvB_slC hB g4 g1.ci.gd n) ?_
  rw [g6]
  unfold mvB openC
  rw [if_neg h0]
  by_cases e : c.ph = 1
  ·rw [if_pos e, if_pos e]
   show c.mv + c.H.m.low.length <= _
   omega
  ·rw [if_neg e, if_neg e]
   exact Nat.le_refl _
theorem roB_step (h0 : c.ph ≠ 0) (n : Nat) : roB (stepC n c).1 = roB c := by
 unfold stepC
 split
 ·unfold roB
  dsimp only
  rw [if_neg (by omega), if_neg h0]
 ·have e : (openC c).ro = c.ro := by unfold openC; split <;> rfl
  unfold slC
  split
  ·unfold roB
   dsimp only
   rw [if_neg (by omega), if_neg h0, e]
  ·unfold roB
   dsimp only
   rw [if_pos rfl, if_neg h0, e]
theorem mvB_end (hB : B + 2 < 4294967296) (h : Ci B c) : (endC c).mv <= mvB c /\ (endC c).ro = roB c := by
 unfold endC
 by_cases h0 : c.ph = 0
 ·rw [if_pos h0]
  exact ⟨mv_le c, by unfold roB; rw [if_pos h0, Nat.add_zero]⟩
 ·rw [if_neg h0]
  obtain ⟨g1, g2, g3, g4, g5⟩ := mark_ok h h0
  obtain ⟨k1, k2, k3, k4, k5, k6⟩ := open_ok g1.ci (by rw [g2]; exact h0) (fun e => g3 (g2.symm.trans e))
  have h1 := mvB_slC hB k4 k1.ci.gd ((openC (markC c)).H.m.high.length + 1)
  have h2 : (openC (markC c)).mv + (openC (markC c)).H.m.high.length <= mvB c := by
   rw [k6, g5]
   unfold mvB openC
   rw [if_neg h0, g2]
   by_cases e : c.ph = 1
   ·rw [if_pos e, if_pos e]
    have hr : (units (pot (c.H, c.st)) (c.H, c.st)).1.m.low.length = c.H.m.low.length := (units_rw (pot (c.H, c.st)) (s := (c.H, c.st)) h.wf).lens.1
    have : (markC c).H = (units (pot (c.H, c.st)) (c.H, c.st)).1 := by unfold markC; rw [if_pos e]
    show c.mv + (markC c).H.m.low.length <= _
    rw [this, hr]
    omega
   ·have : markC c = c := by unfold markC; rw [if_neg e]
    rw [if_neg e, if_neg e, this]
    exact Nat.le_refl _
  refine ⟨Nat.le_trans (mv_le _) (Nat.le_trans h1 h2), ?_⟩
  unfold slC
  rw [if_neg (by omega)]
  dsimp only
  rw [k5, g4]
  unfold roB
  rw [if_neg h0]
end
end Go.Hm
namespace Go.Proofs.YtpicofkhioalkaaGreat
open Go Go.Lw Go.Wd Go.Am Go.Tb Go.Hm
def wvC (ph mb cb : Nat) : Value := if ph = 0 then .nilIface else if ph = 1 then mkW mb else coW cb
def CL (c : Cd) (b cb mb : Nat) (F : List HP) : List HP := HeapH c.H (wvC c.ph mb cb) b :: CoR b cb mb c.ph c.ro c.mv :: MkH b mb c.st (c.ph == 1) :: F
section
variable {c : Cd} {B b cb mb : Nat} {F : List HP} {w : World}
theorem snew_c {H : Hp} (hs : Sat (HeapH H .nilIface b :: F) w) : Calls Tryz.prog 21 #[.pointer (some ⟨b, 0, none⟩)] w fun e w' =>
  ∃ cb mb, e = .returned (.pointer (some ⟨cb, 0, none⟩)) /\ Sat (CL ⟨H, [], 0, 0, 0⟩ b cb mb F) w' := by
 refine S_slide_New_ok _ _ _ ?_
 unfold S_slide_New
 refine (mnew_c hs).mono ?_
 rintro e w1 ⟨mb, rfl, h1⟩
 refine ⟨_, rfl, ?_⟩
 refine NewC.ofRow h1 fun cb w2 h2 => ?_
 exact ⟨cb, mb, rfl, Sat.p1 h2⟩
section
variable {L : List HP} {ph ro mv : Nat}
theorem sphase_c (hs : Sat L w) (i : Nat) (hi : L[i]? = some (CoR b cb mb ph ro mv)) : Calls Tryz.prog 29 #[.pointer (some ⟨cb, 0, none⟩)] w fun e w' => e = .returned (.int .i64 (ph : Int)) /\ w = w' := by
 refine S_slide_Collector_Phase_ok _ _ _ ?_
 unfold S_slide_Collector_Phase
 simp only [onSome_some]
 exact LdI.of hs i hi (off := 2) rfl (add_mk _ _ _) ⟨rfl, trivial⟩
end
theorem sstart_c (hs : Sat (CL c b cb mb F) w) (h : Ci B c) (hp : c.ph = 0) : Calls Tryz.prog 30 #[.pointer (some ⟨cb, 0, none⟩)] w (Ret (.int .i64 0) (Sat (CL (startC c) b cb mb F))) := by
 obtain ⟨g1, g2, g3⟩ := h.ph0 hp
 unfold CL at hs ⊢
 rw [hp, g1] at hs
 refine S_slide_Collector_Start_ok _ _ _ ?_
 unfold S_slide_Collector_Start
 simp only [onSome_some]
 refine LdI.of hs 1 rfl (off := 2) rfl (add_mk _ _ _) ?_
 refine cond_f rfl ?_
 refine StC.of hs 1 rfl (off := 2) rfl (add_mk _ _ _) fun w1 h1 => ?_
 have h1 : Sat (HeapH c.H .nilIface b :: CoR b cb mb 1 c.ro c.mv :: MkH b mb [] false :: F) w1 := h1
 refine LdP.of h1 1 rfl (off := 1) rfl (add_mk _ _ _) ?_
 refine (mstart_c (h1.pull 2 rfl).p1 g2).mono ?_
 rintro e w2 ⟨rfl, h2⟩
 exact ⟨_, rfl, rfl, h2.pull 2 rfl |>.p1⟩
def midC (c : Cd) (k : Nat) : Cd := ⟨(slN k (c.H, c.mv)).1, [], 2, c.ro, (slN k (c.H, c.mv)).2⟩
set_option maxHeartbeats 2000000 in
theorem sstep_c (hs : Sat (CL c b cb mb F) w) (hB : B + 2 < 4294967296) (h : Ci B c) (hk : Pk c) (h0 : c.ph ≠ 0) {n : Nat} (hn : 1 <= n) (hn2 : n <= 1048576) (hro : roB c < 2305843009213693952) (hmv : mvB c < 2305843009213693952) :
  Calls Tryz.prog 31 #[.pointer (some ⟨cb, 0, none⟩), .int .i64 (n : Int)] w (Ret (.tuple #[.bool (stepC n c).2, .int .i64 0]) (Sat (CL (stepC n c).1 b cb mb F))) := by
 have hro1 := ro_le c
 have hs1 : Sat (HeapH c.H (wvC c.ph mb cb) b :: CoR b cb mb c.ph c.ro c.mv :: MkH b mb c.st (c.ph == 1) :: F) w := hs
 refine S_slide_Collector_Step_ok _ _ _ _ ?_
 unfold S_slide_Collector_Step
 refine ⟨fun l n' w => if l = 0 then ∃ k : Nat, n' = n - k /\ k < n /\ k <= (openC c).H.m.high.length /\ (c.ph = 1 -> c.st = []) /\ Sat (CL (midC (openC c) k) b cb mb F) w else n' = n /\ c.ph = 1 /\ c.st ≠ [] /\ Sat (CL c b cb mb F) w, fun n' _ => n'.toNat, ?_, ?_, ?_, trivial⟩
 ·simp only [onSome_some]
  refine LdI.of hs1 1 rfl (off := 2) rfl (add_mk _ _ _) ?_
  refine cond_f (by simp; omega) ?_
  refine cond_f (by simp; omega) ?_
  refine LdI.of hs1 1 rfl (off := 2) rfl (add_mk _ _ _) ?_
  by_cases hp : c.ph = 1
  ·refine cond_f (by simp [hp]) ?_
   rw [hp] at hs1
   have hs2 : Sat (HeapH c.H (mkW mb) b :: CoR b cb mb 1 c.ro c.mv :: MkH b mb c.st true :: F) w := hs1
   refine LdP.of hs2 1 rfl (off := 1) rfl (add_mk _ _ _) ?_
   refine (mwaiting_c (hs2.pull 2 rfl).p1).mono ?_
   rintro e w1 ⟨rfl, rfl⟩
   refine ⟨_, rfl, ?_⟩
   by_cases hst : c.st = []
   ·obtain ⟨q1, q2, q3⟩ := h.ph1 hp
    refine cond_f (by simp [hst]) ?_
    refine LdP.of hs2 1 rfl (off := 1) rfl (add_mk _ _ _) ?_
    refine (mstop_c (hs2.pull 2 rfl).p1).mono ?_
    intro e w1 hpost
    rw [if_pos rfl] at hpost
    obtain ⟨rfl, h1⟩ := hpost
    refine ⟨_, rfl, ?_⟩
    have h1 : Sat (HeapH c.H .nilIface b :: MkH b mb [] false :: CoR b cb mb 1 c.ro c.mv :: F) w1 := h1
    refine LdP.of h1 2 rfl (off := 0) rfl rfl ?_
    refine (harena_c h1).mono ?_
    rintro e w2 ⟨rfl, ba, bt, rfl, h2⟩
    refine ⟨_, rfl, ?_⟩
    refine (open2 (h2.pull 1 rfl)).mono ?_
    intro e w2 hpost
    rw [if_neg (by rw [q2]; decide)] at hpost
    obtain ⟨rfl, h3⟩ := hpost
    refine ⟨_, rfl, ?_⟩
    have h3 : Sat (Arena c.H.opened.m ba :: Row b (hrow ba bt c.H.opened.roots .nilIface) 106 :: Tbl c.H.opened.t bt :: MkH b mb [] false :: CoR b cb mb 1 c.ro c.mv :: F) w2 := h3
    have h4 : Sat (HeapH c.H.opened .nilIface b :: MkH b mb [] false :: CoR b cb mb 1 c.ro c.mv :: F) w2 := heap_shut (opened_wf2 h.wf q2) (ba := ba) (bt := bt) h3.p1
    refine LdP.of h4 2 rfl (off := 0) rfl rfl ?_
    refine (watch_c (v' := coW cb) rfl h4).mono ?_
    rintro e w3 ⟨rfl, h5⟩
    refine ⟨rfl, ?_⟩
    refine StC.of h5 2 rfl (off := 2) rfl (add_mk _ _ _) fun w4 h6 => ?_
    rw [if_pos trivial]
    refine ⟨0, by omega, by omega, by omega, fun _ => hst, ?_⟩
    have e1 : openC c = ⟨c.H.opened, [], 2, c.ro, c.mv⟩ := by unfold openC; rw [if_pos hp]
    rw [e1]
    exact Sat.p1 (Sat.pull h6 2 rfl)
   ·refine cond_t ?_ ?_
    ·have := List.length_pos_iff.2 hst
     simp; omega
    ·rw [if_neg (by decide)]
     exact ⟨trivial, hp, hst, hs⟩
  ·obtain ⟨q1, q2, q3⟩ := h.ph2 h0 hp
   refine cond_t (by simp [q1]) ?_
   rw [if_pos trivial]
   refine ⟨0, by omega, by omega, by omega, fun e => absurd e hp, ?_⟩
   have e1 : openC c = c := by unfold openC; rw [if_neg hp]
   rw [e1]
   unfold CL at hs ⊢
   rw [q1, q2] at hs
   exact hs
 ·intro n3 w6 hI
  rw [if_pos rfl] at hI
  obtain ⟨k, rfl, hkn, hkl, hst, h1⟩ := hI
  obtain ⟨g1, g2, g3, g4, g5, g6⟩ := open_ok h h0 hst
  have hmv2 : (openC c).mv + (openC c).H.m.high.length <= mvB c := by
   rw [g6]
   unfold mvB openC
   rw [if_neg h0]
   by_cases e : c.ph = 1
   ·rw [if_pos e, if_pos e]
    show c.mv + c.H.m.low.length <= _
    omega
   ·rw [if_neg e, if_neg e]
    exact Nat.le_refl _
  have hstep : stepC n c = slC n (openC c) := by
   unfold stepC
   rw [if_neg (fun hh => hh.2 (hst hh.1))]
  have hm := many hB k (openC c).mv g4 g1.ci.gd
  have hmvk := slN_mv k ((openC c).H, (openC c).mv)
  unfold S_slide_Collector_Step_g0
  generalize hO : openC c = d at *
  have h1 : Sat (HeapH (slN k (d.H, d.mv)).1 (coW cb) b :: CoR b cb mb 2 d.ro (slN k (d.H, d.mv)).2 :: MkH b mb [] false :: F) w6 := h1
  refine (slide_c h1 hm.sl hm.gd hB (by omega) (by dsimp only at hmvk; omega)).mono ?_
  intro e w7 hpost
  have hhl : (slN k (d.H, d.mv)).1.m.high.length = d.H.m.high.length - k := by rw [hm.high, List.length_drop]
  by_cases hnil : (slN k (d.H, d.mv)).1.m.high = []
  ·rw [if_pos hnil] at hpost
   obtain ⟨rfl, h2⟩ := hpost
   rw [hnil] at hhl
   simp only [List.length_nil] at hhl
   have ek : k = d.H.m.high.length := by omega
   refine ⟨_, rfl, cond_t rfl ⟨?_, ?_⟩⟩
   ·rw [hstep]; unfold slC; rw [if_neg (by omega)]
   ·rw [hstep]
    unfold slC
    rw [if_neg (by omega), <- ek]
    exact h2
  ·rw [if_neg hnil] at hpost
   obtain ⟨rfl, h2⟩ := hpost
   have hpos : 0 < (slN k (d.H, d.mv)).1.m.high.length := List.length_pos_iff.2 hnil
   have e2 : slN (k + 1) (d.H, d.mv) = (sl1 (slN k (d.H, d.mv)).1, (slN k (d.H, d.mv)).2 + mv1 (slN k (d.H, d.mv)).1) := by rw [slN_add]; rfl
   have h3 : Sat (CL (midC d (k + 1)) b cb mb F) w7 := by
    unfold CL midC
    rw [e2]
    exact h2
   refine ⟨_, rfl, cond_f rfl ?_⟩
   have ew : IntKind.wrap .i64 ((n : Int) - (k : Int) - 1) = (n : Int) - ((k + 1 : Nat) : Int) := by rw [wrapI64 (by omega) (by omega)]; omega
   rw [ew]
   by_cases hlt : k + 1 < n
   ·refine cond_t (by simp; omega) ⟨?_, by dsimp only; omega⟩
    dsimp only
    rw [if_pos rfl]
    exact ⟨k + 1, rfl, hlt, by omega, hst, h3⟩
   ·have en : n = k + 1 := by omega
    refine cond_f (by simp; omega) ⟨?_, ?_⟩
    ·rw [hstep]; unfold slC; rw [if_pos (by omega)]
    ·rw [hstep]
     unfold slC
     rw [if_pos (by omega), en]
     exact h3
 ·intro n3 w6 hI
  rw [if_neg (by decide)] at hI
  obtain ⟨rfl, hp, hst, h1⟩ := hI
  obtain ⟨q1, q2, q3⟩ := h.ph1 hp
  unfold S_slide_Collector_Step_g1
  simp only [onSome_some]
  have e1 : stepC n c = (⟨(units n (c.H, c.st)).1, (units n (c.H, c.st)).2, 1, c.ro, c.mv⟩, false) := by unfold stepC; rw [if_pos ⟨hp, hst⟩]
  rw [e1]
  unfold CL at h1
  rw [hp] at h1
  have h2 : Sat (HeapH c.H (mkW mb) b :: CoR b cb mb 1 c.ro c.mv :: MkH b mb c.st true :: F) w6 := h1
  refine LdP.of h2 1 rfl (off := 1) rfl (add_mk _ _ _) ?_
  refine (mstep_c (h2.pull 2 rfl).p1 hn (by omega) (hk hp) (inv_small q1)).mono ?_
  rintro e w7 ⟨rfl, h3⟩
  exact ⟨_, _, rfl, rfl, Sat.p1 (Sat.pull h3 2 rfl)⟩
theorem least_ex (P : Nat -> World -> Prop) : ∃ M : World -> Nat, ∀ w, (∃ m, P m w) -> P (M w) w /\ ∀ k, P k w -> M w <= k := by
 have key : ∀ w, ∃ m, (∃ m, P m w) -> P m w /\ ∀ k, P k w -> m <= k := by
  intro w
  by_cases h : ∃ m, P m w
  ·obtain ⟨m, hm⟩ := h
   induction m using Nat.strongRecOn with
   | _ m ih =>
    by_cases hl : ∃ k, k < m /\ P k w
    ·obtain ⟨k, hk, hp⟩ := hl
     exact ih k hk hp
    ·exact ⟨m, fun _ => ⟨hm, fun k hk => Nat.le_of_not_lt fun hh => hl ⟨k, hh, hk⟩⟩⟩
  ·exact ⟨0, fun hh => absurd hh h⟩
 exact ⟨fun w => (key w).choose, fun w => (key w).choose_spec⟩
theorem send_c (hs : Sat (CL c b cb mb F) w) (hB : B + 2 < 4294967296) (h : Ci B c) (hk : Pk c) (hro : roB c < 2305843009213693952) (hmv : mvB c < 2305843009213693952) :
  Calls Tryz.prog 65 #[.pointer (some ⟨cb, 0, none⟩)] w (Ret (.tuple #[]) (Sat (CL (endC c) b cb mb F))) := by
 refine S_slide_Collector_end_ok _ _ _ ?_
 unfold S_slide_Collector_end
 obtain ⟨M, hM⟩ := least_ex fun m w => ∃ d, Ci B d /\ Pk d /\ roB d < 2305843009213693952 /\ mvB d < 2305843009213693952 /\ endC d = endC c /\ muC d = m /\ Sat (CL d b cb mb F) w
 refine ⟨fun w => ∃ m d, Ci B d /\ Pk d /\ roB d < 2305843009213693952 /\ mvB d < 2305843009213693952 /\ endC d = endC c /\ muC d = m /\ Sat (CL d b cb mb F) w, M, ⟨_, c, h, hk, hro, hmv, rfl, rfl, hs⟩, ?_⟩
 intro w0 hI
 obtain ⟨⟨d, d1, d2, d3, d4, d5, d6, d7⟩, _⟩ := hM w0 hI
 unfold S_slide_Collector_end_l0
 simp only [onSome_some]
 refine LdI.of (show Sat (HeapH d.H (wvC d.ph mb cb) b :: CoR b cb mb d.ph d.ro d.mv :: MkH b mb d.st (d.ph == 1) :: F) w0 from d7) 1 rfl (off := 2) rfl (add_mk _ _ _) ?_
 by_cases hp : d.ph = 0
 ·refine cond_f (by simp [hp]) ⟨rfl, ?_⟩
  rw [<- d5]
  unfold endC
  rw [if_pos hp]
  exact d7
 ·refine cond_t (by simp; omega) ?_
  refine (sstep_c d7 hB d1 d2 hp (n := 1048576) (by omega) (Nat.le_refl _) d3 d4).mono ?_
  rintro e w1 ⟨rfl, h1⟩
  refine ⟨_, _, rfl, cond_f rfl ?_⟩
  have hmu := mu_step (n := 1048576) (by omega) hB d1 hp
  have hci := (step_ok hB d1 hp 1048576).ci
  have hpk := pk_step d1 d2 1048576
  have hr := roB_step hp 1048576
  have hv := mvB_step hB d1 hp 1048576
  have he := end_step (n := 1048576) (by omega) hB d1 hp
  generalize (stepC 1048576 d).1 = d' at *
  have hw : ∃ m, ∃ d, Ci B d /\ Pk d /\ roB d < 2305843009213693952 /\ mvB d < 2305843009213693952 /\ endC d = endC c /\ muC d = m /\ Sat (CL d b cb mb F) w1 := ⟨_, d', hci, hpk, by omega, by omega, he.trans d5, rfl, h1⟩
  refine ⟨hw, ?_⟩
  have := (hM w1 hw).2 (muC d') ⟨d', hci, hpk, by omega, by omega, he.trans d5, rfl, h1⟩
  omega
theorem sfull_c (hs : Sat (CL c b cb mb F) w) (hB : B + 2 < 4294967296) (h : Ci B c) (hk : Pk c) (hro : roB c < 1152921504606846976) (hmv : mvB c < 1152921504606846976) :
  Calls Tryz.prog 27 #[.pointer (some ⟨cb, 0, none⟩)] w (Ret (.tuple #[.int .i64 (((fullC c).H.m.n - (fullC c).H.m.top : Nat) - (c.H.m.n - c.H.m.top : Nat) : Int), .int .i64 0]) (Sat (CL (fullC c) b cb mb F))) := by
 refine S_slide_Collector_Full_ok _ _ _ ?_
 unfold S_slide_Collector_Full
 simp only [onSome_some]
 have free : ∀ {d : Cd} {w : World} {K : Ending -> World -> Prop}, Sat (CL d b cb mb F) w -> (∀ w', Sat (CL d b cb mb F) w' -> K (.returned (.int .i64 ((d.H.m.n - d.H.m.top : Nat) : Int))) w') ->
   LdP w ⟨cb, 0, none⟩ fun p0 => Calls Tryz.prog 22 #[.pointer p0] w fun e0 w0 => ∃ (r0 : Option Addr), e0 = .returned (.pointer r0) /\ Calls Tryz.prog 23 #[.pointer r0] w0 K := by
  intro d w K h1 hK
  have h1 : Sat (HeapH d.H (wvC d.ph mb cb) b :: CoR b cb mb d.ph d.ro d.mv :: MkH b mb d.st (d.ph == 1) :: F) w := h1
  refine LdP.of h1 1 rfl (off := 0) rfl rfl ?_
  refine (harena_c h1).mono ?_
  rintro e w2 ⟨rfl, ba, bt, rfl, h2⟩
  refine ⟨_, rfl, ?_⟩
  refine (free2 (h2.pull 1 rfl)).mono ?_
  rintro e w3 ⟨rfl, h3⟩
  exact hK _ (heap_shut (sat_wf h1) (ba := ba) (bt := bt) (Sat.p1 h3))
 refine free hs fun w1 h1 => ⟨_, rfl, ?_⟩
 refine (send_c h1 hB h hk (by omega) (by omega)).mono ?_
 rintro e w2 ⟨rfl, h2⟩
 refine ⟨rfl, ?_⟩
 obtain ⟨e1, e2⟩ := end_ok hB h
 obtain ⟨v1, v2⟩ := mvB_end hB h
 refine (sstart_c h2 e1.ci e2).mono ?_
 rintro e w3 ⟨rfl, h3⟩
 refine ⟨_, rfl, cond_f rfl ?_⟩
 have s1 := start_ok e1.ci e2
 have sp := pk_start e1.ci
 have hob := objs_le s1.ci.wf
 have r1 : roB (startC (endC c)) = (endC c).ro + 1 := rfl
 have m1 : mvB (startC (endC c)) = (endC c).mv + ((startC (endC c)).H.m.low.length + (startC (endC c)).H.m.high.length) := rfl
 refine (send_c h3 hB s1.ci sp (by omega) (by omega)).mono ?_
 rintro e w4 ⟨rfl, h4⟩
 refine ⟨rfl, ?_⟩
 refine free h4 fun w5 h5 => ⟨_, rfl, ?_⟩
 have hf := (end_ok hB s1.ci).1.ci
 have b1 := hf.wf.am.most
 have b2 := h.wf.am.most
 have e3 : endC (startC (endC c)) = fullC c := rfl
 rw [e3] at b1 h5 ⊢
 rw [wrapI64 (by omega) (by omega)]
 exact ⟨rfl, h5⟩
end
end Go.Proofs.YtpicofkhioalkaaGreat
/- What the laws of chapter 11 have in common: places and tops asked for; two objects; the law 'awake'. -/
set_option maxRecDepth 100000
namespace Go.Proofs.YtpicofkhioalkaaGreat
open Go Go.Lw Go.Wd Go.Am Go.Tb Go.Hm
section
variable {H : Hp} {v : Value} {b : Nat} {F : List HP} {w : World}
theorem ci_new {B : Nat} (hm : H.WF) (hg : Gd B H) (hop : H.m.op = false) (hc : H.Closed) (ro mv : Nat) : Ci B ⟨H, [], 0, ro, mv⟩ := ⟨hm, hg, .inl ⟨rfl, rfl, hop, hc⟩⟩
end
end Go.Proofs.YtpicofkhioalkaaGreat
/- What a full collection leaves of a heap, as data; the end of a step. -/
set_option maxRecDepth 100000
namespace Go.Hm
open Go Go.Lw Go.Wd Go.Am Go.Tb Go.Proofs.YtpicofkhioalkaaGreat
end Go.Hm
