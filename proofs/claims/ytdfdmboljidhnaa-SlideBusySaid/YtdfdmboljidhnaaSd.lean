
/- A collection as plain data: what a unit of sliding does to a heap, and what stays. No program in sight. -/
import Derived.Test.YtdfdmboljidhnaaMa
set_option maxRecDepth 100000
namespace Go.Hm
open Go Go.Lw Go.Wd Go.Am Go.Tb

/-! Tables, moved and freed. -/
section
variable {t : Tab} {i : Nat} {s : Slot}
theorem move_get (hi : i < t.L.length) (a k : Nat) : (t.move i a).L[k]? = if k = i then some ⟨t.genAt i, a, true⟩ else t.L[k]? := by
  unfold Tab.move
  dsimp only
  by_cases e : k = i
  · subst e; rw [if_pos rfl, List.getElem?_set_self hi]
  · rw [if_neg e, List.getElem?_set_ne (Ne.symm e)]
theorem free_get (hi : i < t.L.length) (k : Nat) : (t.free i).L[k]? = if k = i then some ⟨t.genAt i + 1, 0, false⟩ else t.L[k]? := by
  unfold Tab.free
  dsimp only
  by_cases e : k = i
  · subst e; rw [if_pos rfl, List.getElem?_set_self hi]
  · rw [if_neg e, List.getElem?_set_ne (Ne.symm e)]
theorem move_find (hs : t.L[i]? = some s) (ht : s.taken = true) (a x : Nat) : (t.move i a).find x = t.find x := by
  have hi := get_lt hs
  apply Option.ext
  intro k
  rw [tfind_iff, tfind_iff]
  constructor
  · rintro ⟨h1, u, h2, h3, h4⟩
    rw [move_get hi] at h2
    split at h2
    · rename_i e; subst e; cases h2; exact ⟨h1, s, hs, ht, by rw [← h4]; exact (genAt_of hs).symm⟩
    · exact ⟨h1, u, h2, h3, h4⟩
  · rintro ⟨h1, u, h2, h3, h4⟩
    refine ⟨h1, ?_⟩
    rw [move_get hi]
    by_cases e : k = i
    · subst e; rw [hs] at h2; cases h2; exact ⟨_, if_pos rfl, rfl, (genAt_of hs).trans h4⟩
    · exact ⟨u, by rw [if_neg e]; exact h2, h3, h4⟩
theorem free_find (hi : i < t.L.length) (x : Nat) : (t.free i).find x = if t.find x = some i then none else t.find x := by
  apply Option.ext
  intro k
  by_cases hc : t.find x = some i
  · rw [if_pos hc, tfind_iff]
    constructor
    · rintro ⟨h1, u, h2, h3, h4⟩
      rw [free_get hi] at h2
      split at h2
      · cases h2; cases h3
      · rename_i e
        have := tfind_iff.2 ⟨h1, u, h2, h3, h4⟩
        rw [hc] at this
        cases this
        exact absurd rfl e
    · intro h; cases h
  · rw [if_neg hc, tfind_iff, tfind_iff]
    constructor
    · rintro ⟨h1, u, h2, h3, h4⟩
      rw [free_get hi] at h2
      split at h2
      · cases h2; cases h3
      · exact ⟨h1, u, h2, h3, h4⟩
    · rintro ⟨h1, u, h2, h3, h4⟩
      have e : k ≠ i := by
        rintro rfl; exact hc (tfind_iff.2 ⟨h1, u, h2, h3, h4⟩)
      exact ⟨h1, u, by rw [free_get hi, if_neg e]; exact h2, h3, h4⟩
theorem move_at (hi : i < t.L.length) (a k : Nat) : (t.move i a).atOf k = if k = i then a else t.atOf k := by
  unfold Tab.atOf
  rw [move_get hi]
  by_cases e : k = i
  · rw [if_pos e, if_pos e]
  · rw [if_neg e, if_neg e]
theorem free_at (hi : i < t.L.length) {k : Nat} (e : k ≠ i) : (t.free i).atOf k = t.atOf k := by
  unfold Tab.atOf
  rw [free_get hi, if_neg e]
theorem move_gen (hi : i < t.L.length) (a k : Nat) : (t.move i a).genAt k = t.genAt k := by
  unfold Tab.genAt
  rw [move_get hi]
  by_cases e : k = i
  · rw [if_pos e, e]; rfl
  · rw [if_neg e]
theorem free_gen (hi : i < t.L.length) {k : Nat} (e : k ≠ i) : (t.free i).genAt k = t.genAt k := by
  unfold Tab.genAt
  rw [free_get hi, if_neg e]
/-- what bounds the generations. -/
def wgt (s : Slot) : Nat := s.gen + if s.taken = true then 1 else 0
def tot (t : Tab) : Nat := (t.L.map wgt).sum
theorem wgt_t (g a : Nat) : wgt ⟨g, a, true⟩ = g + 1 := rfl
theorem wgt_f (g a : Nat) : wgt ⟨g, a, false⟩ = g := rfl
theorem wgt_taken (ht : s.taken = true) : wgt s = s.gen + 1 := by unfold wgt; rw [if_pos ht]
theorem wgt_free (ht : s.taken = false) : wgt s = s.gen := by unfold wgt; rw [if_neg (by rw [ht]; decide)]; rfl
theorem wgt_ge (s : Slot) : s.gen ≤ wgt s := Nat.le_add_right _ _
theorem sum_set : ∀ {L : List Slot} {i : Nat} {s : Slot} (s' : Slot), L[i]? = some s → ((L.set i s').map wgt).sum + wgt s = (L.map wgt).sum + wgt s'
  | [], _, _, _, h => by simp at h
  | p :: L, 0, s, s', h => by simp at h; subst h; simp; omega
  | p :: L, i + 1, s, s', h => by
    simp only [List.getElem?_cons_succ] at h
    have := sum_set s' h
    simp only [List.set_cons_succ, List.map_cons, List.sum_cons]
    omega
theorem sum_ge : ∀ {L : List Slot} {i : Nat} {s : Slot}, L[i]? = some s → wgt s ≤ (L.map wgt).sum
  | [], _, _, h => by simp at h
  | p :: L, 0, s, h => by simp at h; subst h; simp
  | p :: L, i + 1, s, h => by
    simp only [List.getElem?_cons_succ] at h
    have := sum_ge h
    simp only [List.map_cons, List.sum_cons]
    omega
theorem gen_tot (t : Tab) (i : Nat) : t.genAt i ≤ tot t + 1 := by
  unfold Tab.genAt
  cases h : t.L[i]? with
  | none => simp
  | some s => have h1 := sum_ge h; have h2 := wgt_ge s; unfold tot; dsimp only; omega
theorem tot_move (hs : t.L[i]? = some s) (ht : s.taken = true) (a : Nat) : tot (t.move i a) = tot t := by
  have h1 := sum_set ⟨t.genAt i, a, true⟩ hs
  rw [wgt_taken ht, wgt_t, genAt_of hs] at h1
  unfold tot Tab.move
  dsimp only
  rw [genAt_of hs]
  omega
theorem tot_free (hs : t.L[i]? = some s) (ht : s.taken = true) : tot (t.free i) = tot t := by
  have h1 := sum_set ⟨t.genAt i + 1, 0, false⟩ hs
  rw [wgt_taken ht, wgt_f, genAt_of hs] at h1
  unfold tot Tab.free
  dsimp only
  rw [genAt_of hs]
  omega
theorem tot_make (h : t.WF) (a : Nat) : tot (t.make a) ≤ tot t + 2 := by
  unfold tot Tab.make
  split
  · rename_i i r hf
    obtain ⟨s, hs, ht⟩ := (h.mem i).1 (by rw [hf]; simp)
    have h1 := sum_set ⟨t.genAt i, a, true⟩ hs
    rw [wgt_free ht, wgt_t, genAt_of hs] at h1
    dsimp only
    rw [genAt_of hs]
    omega
  · simp [wgt]
theorem count_free (h : t.WF) (hs : t.L[i]? = some s) (ht : s.taken = true) : (t.free i).count + 1 = t.count := by
  have h1 := h.fr_len
  have hni : i ∉ t.fr := by rw [h.mem i]; rintro ⟨s', h2, h3⟩; rw [hs] at h2; cases h2; rw [ht] at h3; cases h3
  have := nodup_bound (n := t.L.length) (l := i :: t.fr) (List.nodup_cons.2 ⟨hni, h.nodup⟩) fun k hk => by
    rcases List.mem_cons.1 hk with rfl | hk
    · exact get_lt hs
    · exact h.mem_lt hk
  simp only [List.length_cons] at this
  unfold Tab.free Tab.count
  simp only [List.length_set, List.length_cons]
  omega
theorem count_move (t : Tab) (i a : Nat) : (t.move i a).count = t.count := by unfold Tab.move Tab.count; simp
end

/-! A unit of sliding. -/
variable {H : Hp} {o : Ob} {l : List Ob}
def Hp.opened (H : Hp) : Hp := { H with m := H.m.opened }
def Hp.shut (H : Hp) : Hp := { H with m := H.m.close }
def slK (H : Hp) (o : Ob) : Hp := { H with m := (H.m.keep).set (osz H.m.low) (o.marked false), t := H.t.move o.owner (osz H.m.low) }
def slS (H : Hp) (o : Ob) : Hp := { H with m := H.m.skip, t := H.t.free o.owner }
def sl1 (H : Hp) : Hp := match H.m.high with | [] => H | o :: _ => if o.mark = true then slK H o else slS H o
def mv1 (H : Hp) : Nat := match H.m.high with | [] => 0 | o :: _ => if o.mark = true ∧ H.m.hi ≠ osz H.m.low then 1 else 0
def slN : Nat → Hp × Nat → Hp × Nat
  | 0, s => s
  | n + 1, s => slN n (sl1 s.1, s.2 + mv1 s.1)

theorem head_find (h : H.WF) (hh : H.m.high = o :: l) : H.m.find H.m.hi = some o := by
  have hg := h.am.gap (Am.op_of h.am hh)
  unfold Am.find
  rw [findL_above (by omega), hh, findL_cons, if_pos rfl]
  rfl
theorem head_slot (h : H.WF) (hh : H.m.high = o :: l) : ∃ s, H.t.L[o.owner]? = some s ∧ s.taken = true ∧ s.at_ = H.m.hi := h.back _ _ (head_find h hh)
theorem keep_at (h : H.WF) (hh : H.m.high = o :: l) : H.m.keep.find (osz H.m.low) = some o := by rw [Am.find_keep h.am hh, if_pos rfl]
theorem slK_find (h : H.WF) (hh : H.m.high = o :: l) (x : Nat) : (slK H o).m.find x = if x = osz H.m.low then some (o.marked false) else if x = H.m.hi then none else H.m.find x := by
  have e : (slK H o).m = (H.m.keep).set (osz H.m.low) (o.marked false) := rfl
  rw [e, Am.find_set (o' := o.marked false) (Am.keep_wf h.am hh) (keep_at h hh) rfl, Am.find_keep h.am hh]
  by_cases e : x = osz H.m.low
  · rw [if_pos e, if_pos e]
  · rw [if_neg e, if_neg e, if_neg e]
theorem slS_find (h : H.WF) (hh : H.m.high = o :: l) (x : Nat) : (slS H o).m.find x = if x = H.m.hi then none else H.m.find x := Am.find_skip h.am hh x
theorem slK_m (h : H.WF) (hh : H.m.high = o :: l) : (slK H o).m = ⟨H.m.n, H.m.low ++ [o.marked false], l, H.m.hi + 1 + o.w.length, H.m.op⟩ := by
  have e : (slK H o).m = (H.m.keep).set (osz H.m.low) (o.marked false) := rfl
  have hg : (H.m.low ++ [o])[H.m.low.length]? = some o := by simp
  have h1 := findL_pos (k := 0) hg
  have h2 := setL_pos (k := 0) (o' := o.marked false) hg
  rw [List.take_left, Nat.zero_add] at h1 h2
  rw [e, Am.keep_eq hh]
  unfold Am.set
  dsimp only
  rw [h1, h2]
  simp
theorem slS_m (hh : H.m.high = o :: l) : (slS H o).m = ⟨H.m.n, H.m.low, l, H.m.hi + 1 + o.w.length, H.m.op⟩ := by
  have e : (slS H o).m = H.m.skip := rfl
  rw [e, Am.skip_eq hh]
/-- a place between low and high holds nothing but what is at the head of high. -/
theorem mid_none (h : H.WF) (hh : H.m.high = o :: l) (hne : osz H.m.low ≠ H.m.hi) : H.m.find (osz H.m.low) = none := by
  have hg := h.am.gap (Am.op_of h.am hh)
  unfold Am.find
  rw [findL_above (by omega), findL_low (by omega)]
  rfl
theorem slK_wf (h : H.WF) (hh : H.m.high = o :: l) : (slK H o).WF := by
  obtain ⟨s0, a1, a2, a3⟩ := head_slot h hh
  have hi := get_lt a1
  have hf := head_find h hh
  have hle := h.am.low_le
  have hto := h.am.top
  have hmo := h.am.most
  have htk : H.t.takenAt o.owner = true := by simp [Tab.takenAt, a1, a2]
  refine ⟨Am.set_wf (Am.keep_wf h.am hh) (keep_at h hh) rfl (Ob.marked_ok (h.am.find_ok hf) _), h.tab.move htk (by omega), h.rlen, h.r64, fun i s hs ht => ?_, fun k p hp => ?_⟩
  · have hs : (H.t.move o.owner (osz H.m.low)).L[i]? = some s := hs
    rw [move_get hi] at hs
    rw [slK_find h hh]
    split at hs
    · rename_i e
      cases hs
      exact ⟨o.marked false, if_pos rfl, e.symm⟩
    · rename_i e
      obtain ⟨p, b1, b2⟩ := h.link i s hs ht
      have n1 : s.at_ ≠ H.m.hi := fun e1 => by
        rw [e1, hf] at b1; cases b1; exact e b2.symm
      have n2 : s.at_ ≠ osz H.m.low := fun e1 => by
        rw [e1, mid_none h hh (fun e2 => n1 (e1.trans e2))] at b1; cases b1
      exact ⟨p, by rw [if_neg n2, if_neg n1]; exact b1, b2⟩
  · rw [slK_find h hh] at hp
    have e : ∀ j : Nat, (slK H o).t.L[j]? = (H.t.move o.owner (osz H.m.low)).L[j]? := fun _ => rfl
    rw [e, move_get hi]
    split at hp
    · rename_i e1
      cases hp
      exact ⟨_, if_pos rfl, rfl, e1.symm⟩
    · split at hp
      · cases hp
      · rename_i e1 e2
        obtain ⟨s, b1, b2, b3⟩ := h.back k p hp
        refine ⟨s, ?_, b2, b3⟩
        rw [if_neg (fun e3 => ?_)]
        · exact b1
        · rw [e3, a1] at b1; cases b1; exact e2 (b3.symm.trans a3)
theorem slS_wf (h : H.WF) (hh : H.m.high = o :: l) (hg : H.t.genAt o.owner + 1 < 4294967296) : (slS H o).WF := by
  obtain ⟨s0, a1, a2, a3⟩ := head_slot h hh
  have hi := get_lt a1
  have hf := head_find h hh
  have htk : H.t.takenAt o.owner = true := by simp [Tab.takenAt, a1, a2]
  refine ⟨Am.skip_wf h.am hh, h.tab.free htk hg, h.rlen, h.r64, fun i s hs ht => ?_, fun k p hp => ?_⟩
  · have hs : (H.t.free o.owner).L[i]? = some s := hs
    rw [free_get hi] at hs
    rw [slS_find h hh]
    split at hs
    · cases hs; cases ht
    · rename_i e
      obtain ⟨p, b1, b2⟩ := h.link i s hs ht
      have n1 : s.at_ ≠ H.m.hi := fun e1 => by
        rw [e1, hf] at b1; cases b1; exact e b2.symm
      exact ⟨p, by rw [if_neg n1]; exact b1, b2⟩
  · rw [slS_find h hh] at hp
    have e : ∀ j : Nat, (slS H o).t.L[j]? = (H.t.free o.owner).L[j]? := fun _ => rfl
    rw [e, free_get hi]
    split at hp
    · cases hp
    · rename_i e2
      obtain ⟨s, b1, b2, b3⟩ := h.back k p hp
      refine ⟨s, ?_, b2, b3⟩
      rw [if_neg (fun e3 => ?_)]
      · exact b1
      · rw [e3, a1] at b1; cases b1; exact e2 (b3.symm.trans a3)
theorem head_look (h : H.WF) (hh : H.m.high = o :: l) {x : Nat} (hx : H.t.find x = some o.owner) : H.look x = some o ∧ H.place x = H.m.hi := by
  obtain ⟨s0, a1, a2, a3⟩ := head_slot h hh
  have e := tfind_at hx a1
  refine ⟨?_, ?_⟩
  · unfold Hp.look
    rw [hx, Option.bind_some, e, a3, head_find h hh]
  · unfold Hp.place
    rw [hx]
    dsimp only
    rw [e, a3]
theorem slK_look (h : H.WF) (hh : H.m.high = o :: l) (x : Nat) : (slK H o).look x = if H.t.find x = some o.owner then some (o.marked false) else H.look x := by
  obtain ⟨s0, a1, a2, a3⟩ := head_slot h hh
  have hi := get_lt a1
  have e : (slK H o).look x = ((H.t.move o.owner (osz H.m.low)).find x).bind fun i => (slK H o).m.find ((H.t.move o.owner (osz H.m.low)).atOf i) := rfl
  rw [e, move_find a1 a2]
  by_cases hx : H.t.find x = some o.owner
  · rw [if_pos hx, hx, Option.bind_some, move_at hi, if_pos rfl, slK_find h hh, if_pos rfl]
  · rw [if_neg hx]
    cases hf : H.t.find x with
    | none => rw [(look_none h).2 hf]; rfl
    | some i =>
      have hne : i ≠ o.owner := fun e => hx (by rw [hf, e])
      obtain ⟨p, b1, b2, b3, b4⟩ := look_find h hf
      have n1 : H.t.atOf i ≠ H.m.hi := fun e1 => by
        rw [e1, head_find h hh] at b2; cases b2; exact hne b3.symm
      have n2 : H.t.atOf i ≠ osz H.m.low := fun e1 => by
        rw [e1, mid_none h hh (fun e2 => n1 (e1.trans e2))] at b2; cases b2
      rw [Option.bind_some, move_at hi, if_neg hne, slK_find h hh, if_neg n2, if_neg n1, b2, b1]
theorem slS_look (h : H.WF) (hh : H.m.high = o :: l) (x : Nat) : (slS H o).look x = if H.t.find x = some o.owner then none else H.look x := by
  obtain ⟨s0, a1, a2, a3⟩ := head_slot h hh
  have hi := get_lt a1
  have e : (slS H o).look x = ((H.t.free o.owner).find x).bind fun i => (slS H o).m.find ((H.t.free o.owner).atOf i) := rfl
  rw [e, free_find hi]
  by_cases hx : H.t.find x = some o.owner
  · rw [if_pos hx, if_pos hx]; rfl
  · rw [if_neg hx, if_neg hx]
    cases hf : H.t.find x with
    | none => rw [(look_none h).2 hf]; rfl
    | some i =>
      have hne : i ≠ o.owner := fun e => hx (by rw [hf, e])
      obtain ⟨p, b1, b2, b3, b4⟩ := look_find h hf
      have n1 : H.t.atOf i ≠ H.m.hi := fun e1 => by
        rw [e1, head_find h hh] at b2; cases b2; exact hne b3.symm
      rw [Option.bind_some, free_at hi hne, slS_find h hh, if_neg n1, b2, b1]
theorem slK_place (h : H.WF) (hh : H.m.high = o :: l) (x : Nat) : (slK H o).place x = if H.t.find x = some o.owner then osz H.m.low else H.place x := by
  obtain ⟨s0, a1, a2, a3⟩ := head_slot h hh
  have hi := get_lt a1
  have e : (slK H o).place x = match (H.t.move o.owner (osz H.m.low)).find x with | some i => (H.t.move o.owner (osz H.m.low)).atOf i | none => 0 := rfl
  rw [e, move_find a1 a2]
  by_cases hx : H.t.find x = some o.owner
  · rw [if_pos hx, hx]; dsimp only; rw [move_at hi, if_pos rfl]
  · rw [if_neg hx]
    unfold Hp.place
    cases hf : H.t.find x with
    | none => rfl
    | some i => dsimp only; rw [move_at hi, if_neg (fun e => hx (by rw [hf, e]))]
theorem slS_place (h : H.WF) (hh : H.m.high = o :: l) {x : Nat} (hx : H.t.find x ≠ some o.owner) : (slS H o).place x = H.place x := by
  obtain ⟨s0, a1, a2, a3⟩ := head_slot h hh
  have hi := get_lt a1
  have e : (slS H o).place x = match (H.t.free o.owner).find x with | some i => (H.t.free o.owner).atOf i | none => 0 := rfl
  rw [e, free_find hi, if_neg hx]
  unfold Hp.place
  cases hf : H.t.find x with
  | none => rfl
  | some i => dsimp only; rw [free_at hi (fun e => hx (by rw [hf, e]))]

/-! What survives: what was kept, and what is marked. -/
def sv (H : Hp) (x : Nat) : Prop := ∃ o, H.look x = some o ∧ (o.mark = true ∨ H.place x < osz H.m.low)
theorem sv_live {x : Nat} (h : sv H x) : (H.look x).isSome = true := by obtain ⟨o, ho, _⟩ := h; rw [ho]; rfl
theorem look_place (h : H.WF) {x : Nat} {p : Ob} (hp : H.look x = some p) (hh : H.m.high = o :: l) (hx : H.t.find x ≠ some o.owner) : H.place x < osz H.m.low ∨ H.m.hi + 1 + o.w.length ≤ H.place x := by
  obtain ⟨h1, h2⟩ := look_some h hp
  rcases h.am.find_cases h2 with ⟨_, h3⟩ | ⟨_, h3, h4, h5, _⟩
  · exact .inl (by omega)
  · right
    rw [hh, findL_cons] at h3
    split at h3
    · cases h3; exact absurd h1 hx
    · have := (findL_bound h3).1
      omega
theorem slK_sv (h : H.WF) (hh : H.m.high = o :: l) (hm : o.mark = true) (x : Nat) : sv (slK H o) x ↔ sv H x := by
  have hg := h.am.gap (Am.op_of h.am hh)
  have hlow : osz (slK H o).m.low = osz H.m.low + 1 + o.w.length := by rw [slK_m h hh]; dsimp only; rw [osz_app, osz_one]; simp [Ob.marked]; omega
  unfold sv
  rw [slK_look h hh, slK_place h hh, hlow]
  by_cases hx : H.t.find x = some o.owner
  · rw [if_pos hx, if_pos hx]
    obtain ⟨h1, h2⟩ := head_look h hh hx
    exact ⟨fun _ => ⟨o, h1, .inl hm⟩, fun _ => ⟨_, rfl, .inr (by omega)⟩⟩
  · rw [if_neg hx, if_neg hx]
    constructor
    · rintro ⟨p, hp, a⟩
      refine ⟨p, hp, a.imp id fun b => ?_⟩
      rcases look_place h hp hh hx with c | c
      · exact c
      · omega
    · rintro ⟨p, hp, a⟩
      exact ⟨p, hp, a.imp id fun b => by omega⟩
theorem slS_sv (h : H.WF) (hh : H.m.high = o :: l) (hm : o.mark = false) (x : Nat) : sv (slS H o) x ↔ sv H x := by
  have hg := h.am.gap (Am.op_of h.am hh)
  have hlow : (slS H o).m.low = H.m.low := by rw [slS_m hh]
  unfold sv
  rw [slS_look h hh, hlow]
  by_cases hx : H.t.find x = some o.owner
  · rw [if_pos hx]
    obtain ⟨h1, h2⟩ := head_look h hh hx
    refine ⟨fun ⟨p, hp, _⟩ => (by cases hp), fun ⟨p, hp, a⟩ => ?_⟩
    rw [h1] at hp
    cases hp
    rw [hm] at a
    rcases a with a | a
    · cases a
    · omega
  · rw [if_neg hx, slS_place h hh hx]
/-- what holds while objects slide. -/
structure Sl (H : Hp) : Prop where
  wf : H.WF
  op : H.m.op = true
  low : ∀ o ∈ H.m.low, o.mark = false
  roots : ∀ y ∈ H.roots, y = 0 ∨ sv H y
  refs : ∀ x, sv H x → ∀ y ∈ refsOf H x, y = 0 ∨ sv H y
theorem Sl.reach (h : Sl H) {x : Nat} (hr : Reach H x) : sv H x := by
  have z : ∀ {y : Nat}, y = 0 ∨ sv H y → (H.look y).isSome = true → sv H y := fun a b => by
    rcases a with rfl | a
    · rw [look_zero h.wf] at b; cases b
    · exact a
  induction hr with
  | root a b => exact z (h.roots _ a) b
  | step _ a b ih => exact z (h.refs _ ih _ a) b
theorem slK_refs (h : H.WF) (hh : H.m.high = o :: l) (x : Nat) : refsOf (slK H o) x = refsOf H x := by
  unfold refsOf
  rw [slK_look h hh]
  by_cases hx : H.t.find x = some o.owner
  · rw [if_pos hx, (head_look h hh hx).1]; rfl
  · rw [if_neg hx]
theorem slS_refs (h : H.WF) (hh : H.m.high = o :: l) {x : Nat} (hx : ((slS H o).look x).isSome = true) : refsOf (slS H o) x = refsOf H x := by
  unfold refsOf
  rw [slS_look h hh] at hx ⊢
  by_cases hx2 : H.t.find x = some o.owner
  · rw [if_pos hx2] at hx; cases hx
  · rw [if_neg hx2]
theorem Sl.keep (h : Sl H) (hh : H.m.high = o :: l) (hm : o.mark = true) : Sl (slK H o) := by
  refine ⟨slK_wf h.wf hh, by rw [slK_m h.wf hh]; exact h.op, fun p hp => ?_, fun y hy => ?_, fun x hx y hy => ?_⟩
  · rw [slK_m h.wf hh] at hp
    rcases List.mem_append.1 hp with a | a
    · exact h.low p a
    · simp only [List.mem_singleton] at a; subst a; rfl
  · rw [slK_sv h.wf hh hm]; exact h.roots y hy
  · rw [slK_sv h.wf hh hm] at hx ⊢
    rw [slK_refs h.wf hh] at hy
    exact h.refs x hx y hy
theorem Sl.skip (h : Sl H) (hh : H.m.high = o :: l) (hm : o.mark = false) (hg : H.t.genAt o.owner + 1 < 4294967296) : Sl (slS H o) := by
  refine ⟨slS_wf h.wf hh hg, by rw [slS_m hh]; exact h.op, fun p hp => ?_, fun y hy => ?_, fun x hx y hy => ?_⟩
  · rw [slS_m hh] at hp; exact h.low p hp
  · rw [slS_sv h.wf hh hm]; exact h.roots y hy
  · rw [slS_refs h.wf hh (sv_live hx)] at hy
    rw [slS_sv h.wf hh hm] at hx ⊢
    exact h.refs x hx y hy

/-! A heap that has lost objects that are not reached, and marks. -/
structure Less (H H' : Hp) : Prop where
  roots : H'.roots = H.roots
  n : H'.m.n = H.m.n
  tn : H'.t.n = H.t.n
  drop : ∀ x, H'.look x = none ∨ (H'.look x).map Ob.plain = (H.look x).map Ob.plain
  keep : ∀ x, Reach H x → (H'.look x).map Ob.plain = (H.look x).map Ob.plain
theorem Less.refl (H : Hp) : Less H H := ⟨rfl, rfl, rfl, fun _ => .inr rfl, fun _ _ => rfl⟩
theorem Sk.less {A B : Hp} (h : Sk A B) : Less A B := ⟨h.roots, h.n, by rw [h.t], fun x => .inr (h.look x), fun x _ => h.look x⟩
theorem map_some {a b : Option Ob} (h : a.map Ob.plain = b.map Ob.plain) : a.isSome = b.isSome := by
  cases a <;> cases b <;> first | rfl | cases h
theorem map_refs {A B : Hp} {x : Nat} (h : (B.look x).map Ob.plain = (A.look x).map Ob.plain) : refsOf B x = refsOf A x := by
  unfold refsOf
  cases ha : A.look x with
  | none => rw [ha] at h; cases hb : B.look x with
    | none => rfl
    | some p => rw [hb] at h; cases h
  | some o =>
    rw [ha] at h
    cases hb : B.look x with
    | none => rw [hb] at h; cases h
    | some p =>
      rw [hb] at h
      simp only [Option.map_some, Option.some.injEq] at h
      have h1 : p.plain.refs = o.plain.refs := by rw [h]
      have h2 : p.plain.w = o.plain.w := by rw [h]
      have h1 : p.refs = o.refs := h1
      have h2 : p.w = o.w := h2
      dsimp only
      rw [h1, h2]
section
variable {A B C : Hp}
theorem Less.isSome (h : Less A B) {x : Nat} (hr : Reach A x) : (B.look x).isSome = true := by rw [map_some (h.keep x hr)]; exact hr.live
theorem Less.live (h : Less A B) {x : Nat} (hx : (B.look x).isSome = true) : (A.look x).isSome = true := by
  rcases h.drop x with e | e
  · rw [e] at hx; cases hx
  · rw [← map_some e]; exact hx
theorem Less.reach (h : Less A B) (x : Nat) : Reach B x ↔ Reach A x := by
  constructor
  · intro hr
    induction hr with
    | root a b => rw [h.roots] at a; exact .root a (h.live b)
    | step _ a b ih => rw [map_refs (h.keep _ ih)] at a; exact .step ih a (h.live b)
  · intro hr
    induction hr with
    | root a b => exact .root (by rw [h.roots]; exact a) (h.isSome (.root a b))
    | step a b c ih => exact .step ih (by rw [map_refs (h.keep _ a)]; exact b) (h.isSome (.step a b c))
theorem Less.trans (h : Less A B) (g : Less B C) : Less A C := by
  refine ⟨g.roots.trans h.roots, g.n.trans h.n, g.tn.trans h.tn, fun x => ?_, fun x hx => (g.keep x ((h.reach x).2 hx)).trans (h.keep x hx)⟩
  rcases g.drop x with e | e
  · exact .inl e
  · rcases h.drop x with f | f
    · rw [f] at e
      cases hc : C.look x with
      | none => exact .inl rfl
      | some p => rw [hc] at e; cases e
    · exact .inr (e.trans f)
theorem Less.refs (h : Less A B) {x : Nat} (hr : Reach A x) : refsOf B x = refsOf A x := map_refs (h.keep x hr)
theorem Less.meets (h : Less A B) : ∀ (ys l : List Nat), (∀ y ∈ ys, (A.look y).isSome = true → Reach A y) → meets B l ys = meets A l ys
  | [], _, _ => rfl
  | y :: ys, l, hy => by
    have e : (B.look y).isSome = (A.look y).isSome := by
      cases ha : (A.look y).isSome with
      | true => exact h.isSome (hy y List.mem_cons_self ha)
      | false => cases hb : (B.look y).isSome with
        | true => rw [h.live hb] at ha; cases ha
        | false => rfl
    have e : meet B l y = meet A l y := by unfold meet; rw [e]
    have ih := h.meets ys (meet A l y) fun z hz => hy z (List.mem_cons_of_mem _ hz)
    unfold Hm.meets at ih ⊢
    rw [List.foldl_cons, List.foldl_cons, e, ih]
theorem Less.walk (h : Less A B) : ∀ m, walkTo B m = walkTo A m
  | 0 => by unfold walkTo; rw [h.roots]; exact h.meets _ _ fun y hy hl => .root hy hl
  | m + 1 => by
    unfold walkTo walkStep
    rw [h.walk m]
    split
    · rename_i x hx
      have hr := walk_reach m (List.mem_of_getElem? hx)
      rw [h.refs hr]
      exact h.meets _ _ fun y hy hl => .step hr hy hl
    · rfl
theorem Less.order (h : Less A B) : order B = order A := by unfold Hm.order; rw [h.tn]; exact h.walk _
theorem Less.some (h : Less A B) {x : Nat} (hr : Reach A x) {o : Ob} (ho : A.look x = some o) : ∃ p, B.look x = some p ∧ p.refs = o.refs ∧ p.w = o.w ∧ p.tag = o.tag := by
  have := h.keep x hr
  rw [ho] at this
  cases hb : B.look x with
  | none => rw [hb] at this; cases this
  | some p =>
    rw [hb] at this
    simp only [Option.map_some, Option.some.injEq] at this
    have h1 : p.plain.refs = o.plain.refs := by rw [this]
    have h2 : p.plain.w = o.plain.w := by rw [this]
    have h3 : p.plain.tag = o.plain.tag := by rw [this]
    exact ⟨p, rfl, h1, h2, h3⟩
theorem Less.graphR (h : Less A B) : graphR B = graphR A := by unfold Hm.graphR; rw [h.roots, h.order]
theorem Less.graphN (h : Less A B) : graphN B = graphN A := by
  unfold Hm.graphN
  rw [h.order]
  apply List.map_congr_left
  intro x hx
  obtain ⟨o, ho⟩ := order_look hx
  obtain ⟨p, hp, h1, h2, h3⟩ := h.some (walk_reach _ hx) ho
  unfold nodeOf
  rw [ho, hp]
  simp only [h1, h2, h3]
theorem Less.words (h : Less A B) : wordsOf B (Hm.order B) = wordsOf A (Hm.order A) := by
  unfold wordsOf
  rw [h.order]
  congr 1
  apply List.map_congr_left
  intro x hx
  obtain ⟨o, ho⟩ := order_look hx
  obtain ⟨p, hp, h1, h2, h3⟩ := h.some (walk_reach _ hx) ho
  unfold sz
  rw [ho, hp]
  simp only [h2]
theorem Less.rob (h : Less A B) {x : Nat} (hx : (B.look x).isSome = true) : rob B x = rob A x := by
  have e := (h.drop x).resolve_left fun e => by rw [e] at hx; cases hx
  unfold Hm.rob
  cases ha : A.look x with
  | none => rw [ha] at e; cases hb : B.look x with
    | none => rfl
    | some p => rw [hb] at e; cases e
  | some o =>
    rw [ha] at e
    cases hb : B.look x with
    | none => rw [hb] at e; cases e
    | some p =>
      rw [hb] at e
      simp only [Option.map_some, Option.some.injEq] at e
      have h1 : p.plain.refs = o.plain.refs := by rw [e]
      have h2 : p.plain.w = o.plain.w := by rw [e]
      have h3 : p.plain.tag = o.plain.tag := by rw [e]
      have h1 : p.refs = o.refs := h1
      have h2 : p.w = o.w := h2
      have h3 : p.tag = o.tag := h3
      dsimp only
      rw [h1, h2, h3]
end
theorem slK_less (h : H.WF) (hh : H.m.high = o :: l) : Less H (slK H o) := by
  have e : ∀ x, ((slK H o).look x).map Ob.plain = (H.look x).map Ob.plain := fun x => by
    rw [slK_look h hh]
    by_cases hx : H.t.find x = some o.owner
    · rw [if_pos hx, (head_look h hh hx).1]; rfl
    · rw [if_neg hx]
  exact ⟨rfl, by rw [slK_m h hh], rfl, fun x => .inr (e x), fun x _ => e x⟩
theorem slS_less (h : Sl H) (hh : H.m.high = o :: l) (hm : o.mark = false) : Less H (slS H o) := by
  refine ⟨rfl, by rw [slS_m hh], rfl, fun x => ?_, fun x hx => ?_⟩
  · rw [slS_look h.wf hh]
    by_cases hx : H.t.find x = some o.owner
    · exact .inl (if_pos hx)
    · rw [if_neg hx]; exact .inr rfl
  · have hv := (slS_sv h.wf hh hm x).2 (h.reach hx)
    obtain ⟨p, hp, _⟩ := hv
    rw [slS_look h.wf hh] at hp ⊢
    by_cases hx : H.t.find x = some o.owner
    · rw [if_pos hx] at hp; cases hp
    · rw [if_neg hx]

/-! A unit, and units. -/
structure Gd (B : Nat) (H : Hp) : Prop where
  cnt : H.t.count = H.m.low.length + H.m.high.length
  tot : tot H.t ≤ B
theorem Gd.mono {B B' : Nat} (h : Gd B H) (hb : B ≤ B') : Gd B' H := ⟨h.cnt, Nat.le_trans h.tot hb⟩
def rowH (H : Hp) : List Nat := ((H.m.low ++ H.m.high).map Ob.owner).map fun i => hnd (H.t.genAt i) i
/-- what a unit does, all of it. -/
structure One (B : Nat) (H H' : Hp) : Prop where
  sl : Sl H'
  gd : Gd B H'
  less : Less H H'
  sv : ∀ x, sv H' x ↔ sv H x
  high : H'.m.high = H.m.high.tail
  row : (rowH H').Sublist (rowH H)
theorem owners_ne (h : H.WF) (hh : H.m.high = o :: l) : ∀ p, p ∈ H.m.low ∨ p ∈ l → p.owner ≠ o.owner := by
  obtain ⟨s0, a1, a2, a3⟩ := head_slot h hh
  have hg := h.am.gap (Am.op_of h.am hh)
  intro p hp e
  have key : ∃ k, H.m.find k = some p ∧ k ≠ H.m.hi := by
    rcases hp with hp | hp
    · obtain ⟨j, hj⟩ := List.getElem?_of_mem hp
      have h1 := findL_pos (k := 0) hj
      have h2 := findL_bound h1
      exact ⟨_, by unfold Am.find; rw [h1]; rfl, by omega⟩
    · obtain ⟨j, hj⟩ := List.getElem?_of_mem hp
      have h1 := findL_pos (k := H.m.hi + 1 + o.w.length) hj
      have h2 := findL_bound h1
      refine ⟨H.m.hi + 1 + o.w.length + osz (l.take j), ?_, by omega⟩
      unfold Am.find
      rw [findL_above (by omega), hh, findL_cons, if_neg (by omega), h1]
      rfl
  obtain ⟨k, hk, hne⟩ := key
  obtain ⟨s, b1, b2, b3⟩ := h.back k p hk
  rw [e, a1] at b1
  cases b1
  exact hne (b3.symm.trans a3)
theorem one_of {B : Nat} (h : Sl H) (hg : Gd B H) (hB : B + 2 < 4294967296) (hh : H.m.high = o :: l) : One B H (sl1 H) := by
  obtain ⟨s0, a1, a2, a3⟩ := head_slot h.wf hh
  have hi := get_lt a1
  have hgen : H.t.genAt o.owner + 1 < 4294967296 := by have := gen_tot H.t o.owner; have := hg.tot; omega
  have hne := owners_ne h.wf hh
  unfold sl1
  rw [hh]
  dsimp only
  cases hm : o.mark with
  | true =>
    rw [if_pos rfl]
    have em := slK_m h.wf hh
    refine ⟨h.keep hh hm, ⟨?_, ?_⟩, slK_less h.wf hh, slK_sv h.wf hh hm, by rw [em, hh]; rfl, ?_⟩
    · have e : (slK H o).t.count = H.t.count := count_move _ _ _
      rw [e, em, hg.cnt, hh]
      simp only [List.length_append, List.length_cons, List.length_nil]
      omega
    · have e : tot (slK H o).t = tot H.t := tot_move a1 a2 _
      rw [e]; exact hg.tot
    · have e : rowH (slK H o) = rowH H := by
        unfold rowH
        rw [em, hh]
        dsimp only
        rw [List.append_assoc]
        simp only [List.map_append, List.map_cons, List.map_nil, List.singleton_append]
        have eg : ∀ i, (slK H o).t.genAt i = H.t.genAt i := fun i => move_gen hi _ i
        simp only [eg]
        rfl
      rw [e]
      exact List.Sublist.refl _
  | false =>
    rw [if_neg (by decide)]
    have em := slS_m hh
    refine ⟨h.skip hh hm hgen, ⟨?_, ?_⟩, slS_less h hh hm, slS_sv h.wf hh hm, by rw [em, hh]; rfl, ?_⟩
    · have e : (slS H o).t.count + 1 = H.t.count := count_free h.wf.tab a1 a2
      rw [hg.cnt, hh] at e
      rw [em]
      simp only [List.length_cons] at e
      dsimp only
      omega
    · have e : tot (slS H o).t = tot H.t := tot_free a1 a2
      rw [e]; exact hg.tot
    · unfold rowH
      rw [em, hh]
      dsimp only
      rw [List.map_map, List.map_map]
      have eg : (H.m.low ++ l).map ((fun i => hnd ((slS H o).t.genAt i) i) ∘ Ob.owner) = (H.m.low ++ l).map ((fun i => hnd (H.t.genAt i) i) ∘ Ob.owner) := by
        apply List.map_congr_left
        intro p hp
        have := hne p (List.mem_append.1 hp)
        simp only [Function.comp]
        have e : (slS H o).t.genAt p.owner = H.t.genAt p.owner := free_gen hi this
        rw [e]
      rw [eg]
      exact ((List.sublist_cons_self o l).append_left H.m.low).map _
theorem One.refl {B : Nat} (h : Sl H) (hg : Gd B H) (hh : H.m.high = []) : One B H H := ⟨h, hg, Less.refl H, fun _ => Iff.rfl, by rw [hh]; rfl, List.Sublist.refl _⟩
theorem sl1_nil (hh : H.m.high = []) : sl1 H = H := by unfold sl1; rw [hh]
theorem mv1_nil (hh : H.m.high = []) : mv1 H = 0 := by unfold mv1; rw [hh]
theorem one {B : Nat} (h : Sl H) (hg : Gd B H) (hB : B + 2 < 4294967296) : One B H (sl1 H) := by
  cases hh : H.m.high with
  | nil => rw [sl1_nil hh]; exact .refl h hg hh
  | cons o l => exact one_of h hg hB hh
/-- many units. -/
structure Many (B n : Nat) (H H' : Hp) : Prop where
  sl : Sl H'
  gd : Gd B H'
  less : Less H H'
  sv : ∀ x, sv H' x ↔ sv H x
  high : H'.m.high = H.m.high.drop n
  row : (rowH H').Sublist (rowH H)
theorem many {B : Nat} (hB : B + 2 < 4294967296) : ∀ (n : Nat) {H : Hp} (mv : Nat), Sl H → Gd B H → Many B n H (slN n (H, mv)).1
  | 0, H, mv, h, hg => ⟨h, hg, Less.refl H, fun _ => Iff.rfl, rfl, List.Sublist.refl _⟩
  | n + 1, H, mv, h, hg => by
    have h1 := one h hg hB
    have h2 := many hB n (mv + mv1 H) h1.sl h1.gd
    exact ⟨h2.sl, h2.gd, h1.less.trans h2.less, fun x => (h2.sv x).trans (h1.sv x), by rw [show (slN (n + 1) (H, mv)).1 = (slN n (sl1 H, mv + mv1 H)).1 from rfl, h2.high, h1.high, List.drop_tail], h2.row.trans h1.row⟩
theorem slN_add (n m : Nat) (s : Hp × Nat) : slN (n + m) s = slN m (slN n s) := by
  induction n generalizing s with
  | zero => rw [Nat.zero_add]; rfl
  | succ n ih => rw [show n + 1 + m = (n + m) + 1 by omega]; exact ih _
theorem slN_nil {s : Hp × Nat} (h : s.1.m.high = []) : ∀ n, slN n s = s
  | 0 => rfl
  | n + 1 => by
    have e : slN (n + 1) s = slN n (sl1 s.1, s.2 + mv1 s.1) := rfl
    rw [e, sl1_nil h, mv1_nil h]
    exact slN_nil h n
theorem mv1_le (H : Hp) : mv1 H ≤ 1 := by
  unfold mv1
  split
  · omega
  · split <;> omega
theorem slN_mv : ∀ (n : Nat) (s : Hp × Nat), (slN n s).2 ≤ s.2 + n
  | 0, s => Nat.le_refl _
  | n + 1, s => by
    have := slN_mv n (sl1 s.1, s.2 + mv1 s.1)
    have := mv1_le s.1
    have e : slN (n + 1) s = slN n (sl1 s.1, s.2 + mv1 s.1) := rfl
    rw [e]; dsimp only at *; omega
end Go.Hm
