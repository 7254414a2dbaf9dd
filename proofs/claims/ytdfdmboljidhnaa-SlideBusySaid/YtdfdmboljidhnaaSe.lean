
/- A collector as plain data: its phases, steps, ends; what a collection leaves. No program in sight. -/
import Derived.Test.YtdfdmboljidhnaaSd
import Derived.Test.YtdfdmboljidhnaaMw
set_option maxRecDepth 100000
namespace Go.Hm
open Go Go.Lw Go.Wd Go.Am Go.Tb Go.Proofs.Ytdfdmboljidhnaa
variable {H : Hp}

/-! Marking keeps the rows. -/
structure Rw (H H' : Hp) : Prop where
  t : H'.t = H.t
  low : H'.m.low.map Ob.owner = H.m.low.map Ob.owner
  high : H'.m.high.map Ob.owner = H.m.high.map Ob.owner
theorem Rw.refl (H : Hp) : Rw H H := ⟨rfl, rfl, rfl⟩
theorem Rw.trans {A B C : Hp} (h : Rw A B) (g : Rw B C) : Rw A C := ⟨g.t.trans h.t, g.low.trans h.low, g.high.trans h.high⟩
theorem Rw.lens {A B : Hp} (h : Rw A B) : B.m.low.length = A.m.low.length ∧ B.m.high.length = A.m.high.length := by
  have h1 := congrArg List.length h.low
  have h2 := congrArg List.length h.high
  simp only [List.length_map] at h1 h2
  exact ⟨h1, h2⟩
theorem Rw.gd {A B : Hp} (h : Rw A B) {b : Nat} (g : Gd b A) : Gd b B := by
  obtain ⟨h1, h2⟩ := h.lens
  exact ⟨by rw [h.t, h1, h2]; exact g.cnt, by rw [h.t]; exact g.tot⟩
theorem Rw.row {A B : Hp} (h : Rw A B) : rowH B = rowH A := by
  unfold rowH
  simp only [List.map_append, h.low, h.high, h.t]
theorem setL_owner : ∀ {l : List Ob} {k a : Nat} {o o' : Ob}, findL k l a = some o → o'.owner = o.owner → (setL k l a o').map Ob.owner = l.map Ob.owner
  | [], _, _, _, _, h, _ => by simp [findL] at h
  | p :: l, k, a, o, o', h, ho => by
    simp only [findL] at h
    simp only [setL]
    split at h
    · rename_i e; cases h; rw [if_pos e]; simp [ho]
    · rename_i e; rw [if_neg e]; simp only [List.map_cons, setL_owner h ho]
theorem rw_set (h : H.WF) {x : Nat} {o o' : Ob} (ho : H.look x = some o) (he : o'.owner = o.owner) : Rw H (H.set x o') := by
  obtain ⟨_, h2⟩ := look_some h ho
  unfold Hp.set
  rcases h.am.find_cases h2 with ⟨h1, _⟩ | ⟨h1, h3, _, _, _⟩
  · have e : H.m.set (H.place x) o' = { H.m with low := setL 0 H.m.low (H.place x) o' } := by unfold Am.set; simp [h1]
    rw [e]
    exact ⟨rfl, setL_owner h1 he, rfl⟩
  · have e : H.m.set (H.place x) o' = { H.m with high := setL H.m.hi H.m.high (H.place x) o' } := by unfold Am.set; simp [h1, findL_none_set h1]
    rw [e]
    exact ⟨rfl, rfl, setL_owner h3 he⟩
theorem paint_rw (h : H.WF) (x : Nat) (on : Bool) : Rw H (H.paint x on) := by
  unfold Hp.paint
  split
  · rename_i o ho; exact rw_set h ho rfl
  · exact .refl H
theorem lnk_rw {s : Ms} (h : s.1.WF) (x : Nat) : Rw s.1 (lnk s x).1 := by
  unfold lnk
  split
  · split
    · exact .refl _
    · exact paint_rw h x true
  · exact .refl _
theorem lnks_rw : ∀ (ys : List Nat) {s : Ms}, s.1.WF → Rw s.1 (ys.foldl lnk s).1
  | [], _, _ => .refl _
  | y :: ys, s, h => by rw [List.foldl_cons]; exact (lnk_rw h y).trans (lnks_rw ys (lnk_wf h y))
theorem unit_rw {s : Ms} (h : s.1.WF) : Rw s.1 (unit s).1 := by
  unfold unit
  split
  · exact .refl _
  · exact lnks_rw (s := (s.1, s.2.dropLast)) _ h
theorem units_rw : ∀ (n : Nat) {s : Ms}, s.1.WF → Rw s.1 (units n s).1
  | 0, _, _ => .refl _
  | n + 1, s, h => (unit_rw h).trans (units_rw n (unit_ok h).1)
theorem clear_rw (H : Hp) : Rw H H.clear := by
  refine ⟨rfl, ?_, ?_⟩ <;> (unfold Hp.clear; dsimp only; rw [List.map_map]; rfl)
theorem began_rw (h : H.WF) : Rw H (began H).1 := (clear_rw H).trans (lnks_rw (s := (H.clear, [])) _ (clear_wf h))

/-! The collector. -/
structure Cd where
  H : Hp
  st : List Nat
  ph : Nat
  ro : Nat
  mv : Nat
def startC (c : Cd) : Cd := ⟨(began c.H).1, (began c.H).2, 1, c.ro, c.mv⟩
def slC (n : Nat) (c : Cd) : Cd × Bool :=
  if n ≤ c.H.m.high.length then (⟨(slN n (c.H, c.mv)).1, [], 2, c.ro, (slN n (c.H, c.mv)).2⟩, false)
  else (⟨(slN c.H.m.high.length (c.H, c.mv)).1.shut, [], 0, c.ro + 1, (slN c.H.m.high.length (c.H, c.mv)).2⟩, true)
def openC (c : Cd) : Cd := if c.ph = 1 then ⟨c.H.opened, [], 2, c.ro, c.mv⟩ else c
def stepC (n : Nat) (c : Cd) : Cd × Bool :=
  if c.ph = 1 ∧ c.st ≠ [] then (⟨(units n (c.H, c.st)).1, (units n (c.H, c.st)).2, 1, c.ro, c.mv⟩, false) else slC n (openC c)
def markC (c : Cd) : Cd := if c.ph = 1 then ⟨(units (pot (c.H, c.st)) (c.H, c.st)).1, (units (pot (c.H, c.st)) (c.H, c.st)).2, 1, c.ro, c.mv⟩ else c
def endC (c : Cd) : Cd := if c.ph = 0 then c else (slC ((openC (markC c)).H.m.high.length + 1) (openC (markC c))).1
def fullC (c : Cd) : Cd := endC (startC (endC c))

structure Ci (B : Nat) (c : Cd) : Prop where
  wf : c.H.WF
  gd : Gd B c.H
  ph : (c.ph = 0 ∧ c.st = [] ∧ c.H.m.op = false ∧ c.H.Closed) ∨ (c.ph = 1 ∧ Inv (c.H, c.st) ∧ c.H.m.op = false ∧ c.H.Closed) ∨ (c.ph = 2 ∧ c.st = [] ∧ Sl c.H)
/-- what a deed of the collector's keeps. -/
structure Sp (B : Nat) (c c' : Cd) : Prop where
  ci : Ci B c'
  less : Less c.H c'.H
  row : (rowH c'.H).Sublist (rowH c.H)
theorem Sp.trans {B : Nat} {a b c : Cd} (h : Sp B a b) (g : Sp B b c) : Sp B a c := ⟨g.ci, h.less.trans g.less, g.row.trans h.row⟩
theorem Sp.refl {B : Nat} {a : Cd} (h : Ci B a) : Sp B a a := ⟨h, Less.refl _, List.Sublist.refl _⟩
section
variable {B : Nat} {c : Cd}
theorem Ci.ph0 (h : Ci B c) (hp : c.ph = 0) : c.st = [] ∧ c.H.m.op = false ∧ c.H.Closed := by
  rcases h.ph with a | a | a
  · exact a.2
  · have := a.1; omega
  · have := a.1; omega
theorem Ci.ph1 (h : Ci B c) (hp : c.ph = 1) : Inv (c.H, c.st) ∧ c.H.m.op = false ∧ c.H.Closed := by
  rcases h.ph with a | a | a
  · have := a.1; omega
  · exact a.2
  · have := a.1; omega
theorem Ci.ph2 (h : Ci B c) (h0 : c.ph ≠ 0) (hp : c.ph ≠ 1) : c.ph = 2 ∧ c.st = [] ∧ Sl c.H := by
  rcases h.ph with a | a | a
  · have := a.1; omega
  · have := a.1; omega
  · exact a
theorem start_ok (h : Ci B c) (hp : c.ph = 0) : Sp B c (startC c) := by
  obtain ⟨h1, h2, h3⟩ := h.ph0 hp
  obtain ⟨g1, g2, _⟩ := began_ok h.wf
  have hr := began_rw h.wf
  exact ⟨⟨g1, hr.gd h.gd, .inr (.inl ⟨rfl, Inv.began h.wf, g2.op.trans h2, g2.closed h3⟩)⟩, g2.less, by rw [show (startC c).H = (began c.H).1 from rfl, hr.row]; exact List.Sublist.refl _⟩
theorem may_or {H : Hp} {y : Nat} (h : H.may y = true) : y = 0 ∨ (H.look y).isSome = true := by
  unfold Hp.may at h
  simpa using h
theorem opened_look (h : H.WF) (ho : H.m.op = false) (x : Nat) : H.opened.look x = H.look x := by
  unfold Hp.look
  have e : ∀ k, H.opened.m.find k = H.m.find k := Am.find_opened h.am ho
  have e2 : H.opened.t = H.t := rfl
  rw [e2]
  cases H.t.find x with
  | none => rfl
  | some i => simp only [Option.bind_some, e]
theorem opened_wf2 (h : H.WF) (ho : H.m.op = false) : H.opened.WF := by
  have e : ∀ k, H.opened.m.find k = H.m.find k := Am.find_opened h.am ho
  refine ⟨Am.opened_wf h.am ho, h.tab, h.rlen, h.r64, fun i s hs ht => ?_, fun k o hk => ?_⟩
  · rw [e]; exact h.link i s hs ht
  · rw [e] at hk; exact h.back k o hk
theorem opened_sv (h : H.WF) (ho : H.m.op = false) (x : Nat) : sv H.opened x ↔ isM H x = true := by
  unfold sv isM
  rw [opened_look h ho]
  have e : osz H.opened.m.low = 0 := rfl
  rw [e]
  cases H.look x with
  | none => simp
  | some o => simp
theorem opened_less (h : H.WF) (ho : H.m.op = false) : Less H H.opened :=
  ⟨rfl, rfl, rfl, fun x => .inr (by rw [opened_look h ho]), fun x _ => by rw [opened_look h ho]⟩
theorem opened_row (ho : H.m.op = false) (h : H.WF) : rowH H.opened = rowH H := by
  have hh := (h.am.shut ho).2
  have e : H.opened.m.low ++ H.opened.m.high = H.m.low ++ H.m.high := by
    rw [hh, List.append_nil]; rfl
  unfold rowH
  rw [e]
  rfl
theorem opened_gd (ho : H.m.op = false) (h : H.WF) {B : Nat} (g : Gd B H) : Gd B H.opened := by
  have hh := (h.am.shut ho).2
  have h1 := g.cnt
  refine ⟨?_, g.tot⟩
  rw [hh] at h1
  have e : H.opened.t.count = H.t.count := rfl
  rw [e, h1]
  show H.m.low.length + 0 = 0 + H.m.low.length
  omega
theorem opened_sl {st : List Nat} (h : Inv (H, st)) (hst : st = []) (ho : H.m.op = false) (hc : H.Closed) : Sl H.opened := by
  subst hst
  have hw : H.WF := h.wf
  refine ⟨opened_wf2 hw ho, rfl, fun o hh => (by cases hh), fun y hy => ?_, fun x hx y hy => ?_⟩
  · rw [opened_sv hw ho]
    exact (may_or (hc.roots y hy)).imp id fun a => h.roots y hy a
  · rw [opened_sv hw ho] at hx ⊢
    have hy : y ∈ refsOf H x := by unfold refsOf at hy ⊢; rw [opened_look hw ho] at hy; exact hy
    exact (may_or (hc.refs x y hy)).imp id fun a => h.refs x hx (by simp) y hy a
theorem open_ok (h : Ci B c) (h0 : c.ph ≠ 0) (hst : c.ph = 1 → c.st = []) : Sp B c (openC c) ∧ (openC c).ph = 2 ∧ (openC c).st = [] ∧ Sl (openC c).H ∧ (openC c).ro = c.ro ∧ (openC c).mv = c.mv := by
  unfold openC
  by_cases hp : c.ph = 1
  · rw [if_pos hp]
    obtain ⟨h1, h2, h3⟩ := h.ph1 hp
    have hsl := opened_sl h1 (hst hp) h2 h3
    exact ⟨⟨⟨hsl.wf, opened_gd h2 h.wf h.gd, .inr (.inr ⟨rfl, rfl, hsl⟩)⟩, opened_less h.wf h2, by rw [opened_row h2 h.wf]; exact List.Sublist.refl _⟩, rfl, rfl, hsl, rfl, rfl⟩
  · rw [if_neg hp]
    obtain ⟨h1, h2, h3⟩ := h.ph2 h0 hp
    exact ⟨Sp.refl h, h1, h2, h3, rfl, rfl⟩
/-- with nothing left, all that is live survived. -/
theorem end_sv (h : Sl H) (hh : H.m.high = []) {x : Nat} (hx : (H.look x).isSome = true) : sv H x := by
  obtain ⟨o, ho⟩ := Option.isSome_iff_exists.1 hx
  obtain ⟨_, h2⟩ := look_some h.wf ho
  rcases h.wf.am.find_cases h2 with ⟨_, h3⟩ | ⟨_, h3, _⟩
  · exact ⟨o, ho, .inr (by omega)⟩
  · rw [hh] at h3; simp [findL] at h3
theorem shut_look (hh : H.m.high = []) (x : Nat) : H.shut.look x = H.look x := by
  unfold Hp.look
  have e : ∀ k, H.shut.m.find k = H.m.find k := Am.find_close hh
  have e2 : H.shut.t = H.t := rfl
  rw [e2]
  cases H.t.find x with
  | none => rfl
  | some i => simp only [Option.bind_some, e]
theorem shut_wf (h : Sl H) (hh : H.m.high = []) : H.shut.WF := by
  have e : ∀ k, H.shut.m.find k = H.m.find k := Am.find_close hh
  refine ⟨Am.close_wf h.wf.am h.op hh, h.wf.tab, h.wf.rlen, h.wf.r64, fun i s hs ht => ?_, fun k o hk => ?_⟩
  · rw [e]; exact h.wf.link i s hs ht
  · rw [e] at hk; exact h.wf.back k o hk
theorem shut_less (hh : H.m.high = []) : Less H H.shut := ⟨rfl, rfl, rfl, fun x => .inr (by rw [shut_look hh]), fun x _ => by rw [shut_look hh]⟩
theorem shut_row : rowH H.shut = rowH H := rfl
theorem shut_closed (h : Sl H) (hh : H.m.high = []) : H.shut.Closed := by
  have hm : ∀ {y : Nat}, y = 0 ∨ sv H y → H.shut.may y = true := fun a => by
    unfold Hp.may
    rcases a with rfl | a
    · rfl
    · rw [shut_look hh, sv_live a]; simp
  refine ⟨fun y hy => hm (h.roots y hy), fun x y hy => ?_⟩
  have hy : y ∈ refsOf H x := by unfold refsOf at hy ⊢; rw [shut_look hh] at hy; exact hy
  have hl : (H.look x).isSome = true := by
    unfold refsOf at hy
    cases hx : H.look x with
    | none => rw [hx] at hy; cases hy
    | some o => rfl
  exact hm (h.refs x (end_sv h hh hl) y hy)
theorem slC_ok (hB : B + 2 < 4294967296) (h : Sl c.H) (hg : Gd B c.H) (n : Nat) : Sp B c (slC n c).1 := by
  unfold slC
  split
  · have hm := many hB n c.mv h hg
    exact ⟨⟨hm.sl.wf, hm.gd, .inr (.inr ⟨rfl, rfl, hm.sl⟩)⟩, hm.less, hm.row⟩
  · have hm := many hB c.H.m.high.length c.mv h hg
    have hh : (slN c.H.m.high.length (c.H, c.mv)).1.m.high = [] := by rw [hm.high, List.drop_length]
    exact ⟨⟨shut_wf hm.sl hh, ⟨hm.gd.cnt, hm.gd.tot⟩, .inl ⟨rfl, rfl, rfl, shut_closed hm.sl hh⟩⟩, hm.less.trans (shut_less hh), by dsimp only; rw [shut_row]; exact hm.row⟩
theorem step_ok (hB : B + 2 < 4294967296) (h : Ci B c) (h0 : c.ph ≠ 0) (n : Nat) : Sp B c (stepC n c).1 := by
  unfold stepC
  split
  · rename_i hp
    obtain ⟨h1, h2, h3⟩ := h.ph1 hp.1
    obtain ⟨g1, g2, _⟩ := units_ok (s := (c.H, c.st)) h.wf n
    have hr := units_rw n (s := (c.H, c.st)) h.wf
    exact ⟨⟨g1, hr.gd h.gd, .inr (.inl ⟨rfl, h1.units n, g2.op.trans h2, g2.closed h3⟩)⟩, g2.less, by dsimp only; rw [hr.row]; exact List.Sublist.refl _⟩
  · rename_i hp
    obtain ⟨g1, g2, g3, g4, _⟩ := open_ok h h0 (fun e => Classical.byContradiction fun hh => hp ⟨e, hh⟩)
    exact g1.trans (slC_ok hB g4 g1.ci.gd n)
theorem pot_end {s : Ms} (h : s.1.WF) {n : Nat} (hn : pot s ≤ n) : (units n s).2 = [] := by
  obtain ⟨_, _, g3⟩ := units_ok (s := s) h n
  refine Classical.byContradiction fun hne => ?_
  have := g3 hne
  have h1 : 0 < (units n s).2.length := List.length_pos_iff.2 hne
  have h2 : (units n s).2.length ≤ pot (units n s) := Nat.le_add_right _ _
  omega
theorem units_fin {s : Ms} {a b : Nat} (ha : (units a s).2 = []) (hb : (units b s).2 = []) : units a s = units b s := by
  rw [← units_nil ha b, ← units_add, Nat.add_comm, units_add, units_nil hb]
theorem mark_ok (h : Ci B c) (h0 : c.ph ≠ 0) : Sp B c (markC c) ∧ (markC c).ph = c.ph ∧ (c.ph = 1 → (markC c).st = []) ∧ (markC c).ro = c.ro ∧ (markC c).mv = c.mv := by
  unfold markC
  split
  · rename_i hp
    obtain ⟨h1, h2, h3⟩ := h.ph1 hp
    obtain ⟨g1, g2, _⟩ := units_ok (s := (c.H, c.st)) h.wf (pot (c.H, c.st))
    have hr := units_rw (pot (c.H, c.st)) (s := (c.H, c.st)) h.wf
    exact ⟨⟨⟨g1, hr.gd h.gd, .inr (.inl ⟨rfl, h1.units _, g2.op.trans h2, g2.closed h3⟩)⟩, g2.less, by dsimp only; rw [hr.row]; exact List.Sublist.refl _⟩, hp.symm, fun _ => pot_end h.wf (Nat.le_refl _), rfl, rfl⟩
  · rename_i hp
    exact ⟨Sp.refl h, rfl, fun e => absurd e hp, rfl, rfl⟩
/-- what is still to be marked is bounded. -/
def Pk (c : Cd) : Prop := c.ph = 1 → pot (c.H, c.st) ≤ 1048576
theorem end_ok (hB : B + 2 < 4294967296) (h : Ci B c) : Sp B c (endC c) ∧ (endC c).ph = 0 := by
  unfold endC
  split
  · rename_i h0; exact ⟨Sp.refl h, h0⟩
  · rename_i h0
    obtain ⟨g1, g2, g3, _⟩ := mark_ok h h0
    obtain ⟨k1, k2, k3, k4, _⟩ := open_ok g1.ci (by rw [g2]; exact h0) (fun e => g3 (g2.symm.trans e))
    refine ⟨g1.trans (k1.trans (slC_ok hB k4 k1.ci.gd _)), ?_⟩
    unfold slC
    rw [if_neg (by omega)]
theorem pk_start (h : Ci B c) : Pk (startC c) := fun _ => by
  have h1 := (began_ok h.wf).2.2
  have h2 := objs_le h.wf
  show pot (began c.H) ≤ 1048576
  omega
theorem pk_step (h : Ci B c) (hk : Pk c) (n : Nat) : Pk (stepC n c).1 := by
  unfold stepC
  split
  · rename_i hp
    intro _
    have h1 := units_pot n (s := (c.H, c.st)) h.wf
    have h2 := hk hp.1
    have e : pot ((units n (c.H, c.st)).1, (units n (c.H, c.st)).2) = pot (units n (c.H, c.st)) := rfl
    dsimp only
    rw [e]; omega
  · intro e
    unfold slC at e
    split at e <;> cases e
theorem pk0 (h : c.ph ≠ 1) : Pk c := fun e => absurd e h
theorem slC_end {n : Nat} (hn : 1 ≤ n) (h2 : c.ph = 2) (hB : B + 2 < 4294967296) (h : Sl c.H) (hg : Gd B c.H) : endC (slC n c).1 = endC c := by
  have e0 : endC c = (slC (c.H.m.high.length + 1) c).1 := by
    unfold endC
    rw [if_neg (by omega)]
    have e1 : markC c = c := by unfold markC; rw [if_neg (by omega)]
    have e2 : openC c = c := by unfold openC; rw [if_neg (by omega)]
    rw [e1, e2]
  have e1 : (slC (c.H.m.high.length + 1) c).1 = ⟨(slN c.H.m.high.length (c.H, c.mv)).1.shut, [], 0, c.ro + 1, (slN c.H.m.high.length (c.H, c.mv)).2⟩ := by
    unfold slC; rw [if_neg (by omega)]
  rw [e0, e1]
  by_cases hle : n ≤ c.H.m.high.length
  · have e3 : (slC n c).1 = ⟨(slN n (c.H, c.mv)).1, [], 2, c.ro, (slN n (c.H, c.mv)).2⟩ := by unfold slC; rw [if_pos hle]
    have hm := many hB n c.mv h hg
    have hl : (slN n (c.H, c.mv)).1.m.high.length = c.H.m.high.length - n := by rw [hm.high, List.length_drop]
    have ha : slN c.H.m.high.length (c.H, c.mv) = slN (c.H.m.high.length - n) (slN n (c.H, c.mv)) := by rw [← slN_add]; congr 1; omega
    rw [e3]
    unfold endC
    rw [if_neg (by dsimp only; omega)]
    have e4 : ∀ d : Cd, d.ph = 2 → openC (markC d) = d := fun d hd => by
      have e1 : markC d = d := by unfold markC; rw [if_neg (by omega)]
      rw [e1]; unfold openC; rw [if_neg (by omega)]
    rw [e4 _ rfl]
    unfold slC
    rw [if_neg (by omega)]
    dsimp only
    rw [hl, ha]
  · have e3 : (slC n c).1 = ⟨(slN c.H.m.high.length (c.H, c.mv)).1.shut, [], 0, c.ro + 1, (slN c.H.m.high.length (c.H, c.mv)).2⟩ := by unfold slC; rw [if_neg hle]
    rw [e3]
    unfold endC
    rw [if_pos rfl]
theorem end_step {n : Nat} (hn : 1 ≤ n) (hB : B + 2 < 4294967296) (h : Ci B c) (h0 : c.ph ≠ 0) : endC (stepC n c).1 = endC c := by
  unfold stepC
  split
  · rename_i hp
    have hw := (units_ok (s := (c.H, c.st)) h.wf n).1
    have e : units (pot (units n (c.H, c.st))) (units n (c.H, c.st)) = units (pot (c.H, c.st)) (c.H, c.st) := by
      have a1 := pot_end hw (Nat.le_refl _)
      rw [← units_add] at a1 ⊢
      exact units_fin a1 (pot_end h.wf (Nat.le_refl _))
    unfold endC
    dsimp only
    rw [if_neg (by omega), if_neg h0]
    have e1 : markC ⟨(units n (c.H, c.st)).1, (units n (c.H, c.st)).2, 1, c.ro, c.mv⟩ = markC c := by
      unfold markC
      rw [if_pos rfl, if_pos hp.1]
      dsimp only
      have e2 : ((units n (c.H, c.st)).1, (units n (c.H, c.st)).2) = units n (c.H, c.st) := rfl
      rw [e2, e]
    rw [e1]
  · rename_i hp
    have hst : c.ph = 1 → c.st = [] := fun e => Classical.byContradiction fun hh => hp ⟨e, hh⟩
    obtain ⟨g1, g2, g3, g4, g5, g6⟩ := open_ok h h0 hst
    rw [slC_end hn g2 hB g4 g1.ci.gd]
    unfold endC
    rw [if_neg (by omega), if_neg h0]
    have e4 : ∀ d : Cd, d.ph = 2 → openC (markC d) = d := fun d hd => by
      have e1 : markC d = d := by unfold markC; rw [if_neg (by omega)]
      rw [e1]; unfold openC; rw [if_neg (by omega)]
    rw [e4 _ g2]
    have e5 : openC (markC c) = openC c := by
      by_cases e : c.ph = 1
      · unfold markC
        rw [if_pos e]
        unfold openC
        dsimp only
        rw [if_pos rfl, if_pos e, units_nil (hst e)]
      · unfold markC
        rw [if_neg e]
    rw [e5]
/-- how many steps are left at most. -/
def muC (c : Cd) : Nat := if c.ph = 0 then 0 else if c.ph = 1 then pot (c.H, c.st) + (c.H.m.low.length + c.H.m.high.length) + 2 else c.H.m.high.length + 1
theorem mu_slC {n : Nat} (hn : 1 ≤ n) (hB : B + 2 < 4294967296) (h : Sl c.H) (hg : Gd B c.H) : muC (slC n c).1 < c.H.m.high.length + 1 := by
  unfold slC
  split
  · rename_i hle
    have hm := many hB n c.mv h hg
    have hl : (slN n (c.H, c.mv)).1.m.high.length = c.H.m.high.length - n := by rw [hm.high, List.length_drop]
    unfold muC
    dsimp only
    rw [if_neg (by omega), if_neg (by omega), hl]
    omega
  · unfold muC
    rw [if_pos rfl]
    omega
theorem mu_step {n : Nat} (hn : 1 ≤ n) (hB : B + 2 < 4294967296) (h : Ci B c) (h0 : c.ph ≠ 0) : muC (stepC n c).1 < muC c := by
  unfold stepC
  split
  · rename_i hp
    have hr := units_rw n (s := (c.H, c.st)) h.wf
    obtain ⟨r1, r2⟩ := hr.lens
    have h1 := (unit_ok (s := (c.H, c.st)) h.wf).2.2 hp.2
    have h2 := units_pot (n - 1) (unit_ok (s := (c.H, c.st)) h.wf).1
    have e : units n (c.H, c.st) = units (n - 1) (unit (c.H, c.st)) := by
      obtain ⟨k, rfl⟩ := Nat.exists_eq_add_of_le hn
      rw [Nat.add_comm, Nat.add_sub_cancel]; rfl
    have e2 : pot ((units n (c.H, c.st)).1, (units n (c.H, c.st)).2) = pot (units n (c.H, c.st)) := rfl
    unfold muC
    dsimp only
    have h3 : pot (units n (c.H, c.st)) + 1 ≤ pot (c.H, c.st) := by rw [e]; omega
    rw [if_neg (by omega), if_pos rfl, if_neg h0, if_pos hp.1, r1, r2]
    dsimp only at e2 ⊢
    omega
  · rename_i hp
    have hst : c.ph = 1 → c.st = [] := fun e => Classical.byContradiction fun hh => hp ⟨e, hh⟩
    obtain ⟨g1, g2, g3, g4, g5, g6⟩ := open_ok h h0 hst
    have h1 := mu_slC hn hB g4 g1.ci.gd
    have h2 : (openC c).H.m.high.length + 1 ≤ muC c := by
      unfold muC openC
      rw [if_neg h0]
      by_cases e : c.ph = 1
      · rw [if_pos e, if_pos e]
        show c.H.m.low.length + 1 ≤ _
        omega
      · rw [if_neg e, if_neg e]
        exact Nat.le_refl _
    omega
theorem mu_zero (h : muC c = 0) : c.ph = 0 := by
  unfold muC at h
  split at h
  · assumption
  · split at h <;> omega

/-! What a collection leaves. -/
theorem full_live (hB : B + 2 < 4294967296) (h : Ci B c) (hp : c.ph = 0) (x : Nat) : ((endC (startC c)).H.look x).isSome = true ↔ Reach c.H x := by
  have hs := start_ok h hp
  have he := (end_ok hB hs.ci).1
  constructor
  · intro hl
    have e1 : (startC c).ph = 1 := rfl
    obtain ⟨g1, g2, g3, _⟩ := mark_ok hs.ci (by rw [e1]; decide)
    obtain ⟨k1, k2, k3, k4, _⟩ := open_ok g1.ci (by rw [g2, e1]; decide) (fun _ => g3 rfl)
    have e2 : endC (startC c) = (slC ((openC (markC (startC c))).H.m.high.length + 1) (openC (markC (startC c)))).1 := by
      unfold endC; rw [if_neg (by rw [e1]; decide)]
    have e3 : markC (startC c) = ⟨(units (pot (began c.H)) (began c.H)).1, (units (pot (began c.H)) (began c.H)).2, 1, c.ro, c.mv⟩ := by
      unfold markC; rw [if_pos e1]; rfl
    have honly := Only.units (s := began c.H) (Inv.began h.wf) (Only.began h.wf) (pot (began c.H))
    rw [e2] at hl
    unfold slC at hl
    rw [if_neg (by omega)] at hl
    have hm := many hB (openC (markC (startC c))).H.m.high.length (openC (markC (startC c))).mv k4 k1.ci.gd
    have hh : (slN (openC (markC (startC c))).H.m.high.length ((openC (markC (startC c))).H, (openC (markC (startC c))).mv)).1.m.high = [] := by rw [hm.high, List.drop_length]
    dsimp only at hl
    rw [shut_look hh] at hl
    have h1 := (hm.sv x).1 (end_sv hm.sl hh hl)
    have e4 : (openC (markC (startC c))).H = (markC (startC c)).H.opened := by
      unfold openC; rw [if_pos (g2.trans e1)]
    obtain ⟨_, m2, _⟩ := g1.ci.ph1 (g2.trans e1)
    rw [e4, opened_sv g1.ci.wf m2, e3] at h1
    have h2 := honly x h1
    have h3 : Less c.H (units (pot (began c.H)) (began c.H)).1 := by
      have := (hs.trans g1).less
      rw [e3] at this
      exact this
    exact (h3.reach x).1 h2
  · intro hr
    exact (hs.trans he).less.isSome hr
theorem fd_of (h : H.WF) {o : Ob} {s : Slot} (a1 : H.t.L[o.owner]? = some s) (a2 : s.taken = true) : H.t.find (hnd (H.t.genAt o.owner) o.owner) = some o.owner := by
  have h1 := get_lt a1
  have h2 := h.tab.len
  have h3 := h.tab.most
  exact find_of (by omega) a1 a2 (genAt_of a1).symm
theorem lp_of {x i : Nat} {o : Ob} {s : Slot} (hfd : H.t.find x = some i) (a1 : H.t.L[i]? = some s) (ho : H.m.find s.at_ = some o) : H.look x = some o ∧ H.place x = s.at_ := by
  have e := tfind_at hfd a1
  refine ⟨?_, ?_⟩
  · unfold Hp.look; rw [hfd, Option.bind_some, e, ho]
  · unfold Hp.place; rw [hfd]; exact e
theorem obj_look (h : H.WF) {o : Ob} {k : Nat} (ho : H.m.find k = some o) : H.look (hnd (H.t.genAt o.owner) o.owner) = some o ∧ H.place (hnd (H.t.genAt o.owner) o.owner) = k := by
  obtain ⟨s, a1, a2, a3⟩ := h.back k o ho
  have hfd := fd_of h a1 a2
  rw [← a3] at ho ⊢
  exact lp_of hfd a1 ho
theorem low_find {j : Nat} {o : Ob} (hj : H.m.low[j]? = some o) : H.m.find (osz (H.m.low.take j)) = some o := by
  have := findL_pos (k := 0) hj
  rw [Nat.zero_add] at this
  unfold Am.find
  rw [this]; rfl
theorem row_low (h : H.WF) (ho : H.m.op = false) : rowH H = H.m.low.map fun o => hnd (H.t.genAt o.owner) o.owner := by
  unfold rowH
  rw [(h.am.shut ho).2, List.append_nil, List.map_map]
  rfl
theorem mem_row (h : H.WF) (ho : H.m.op = false) (x : Nat) : x ∈ rowH H ↔ (H.look x).isSome = true := by
  rw [row_low h ho, List.mem_map]
  constructor
  · rintro ⟨o, hm, rfl⟩
    obtain ⟨j, hj⟩ := List.getElem?_of_mem hm
    rw [(obj_look h (low_find hj)).1]; rfl
  · intro hl
    obtain ⟨o, hox⟩ := Option.isSome_iff_exists.1 hl
    obtain ⟨h1, h2⟩ := look_some h hox
    rcases h.am.find_cases h2 with ⟨h3, _⟩ | ⟨_, h3, _⟩
    · refine ⟨o, findL_mem h3, ?_⟩
      obtain ⟨a, s, b, _, d⟩ := tfind_iff.1 h1
      rw [hnd_parts a, genAt_of b, d]
    · rw [(h.am.shut ho).2] at h3; simp [findL] at h3
theorem osz_take_lt : ∀ {l : List Ob} {i j : Nat}, i < j → j ≤ l.length → osz (l.take i) < osz (l.take j)
  | [], i, j, h, hj => by simp at hj; omega
  | o :: l, 0, j + 1, h, hj => by simp only [List.take_zero, List.take_succ_cons, osz]; omega
  | o :: l, i + 1, j + 1, h, hj => by
    have := osz_take_lt (l := l) (i := i) (j := j) (by omega) (by simpa using hj)
    simp only [List.take_succ_cons, osz]; omega
theorem row_nodup (h : H.WF) (ho : H.m.op = false) : (rowH H).Nodup := by
  rw [row_low h ho]
  unfold List.Nodup
  rw [List.pairwise_map, List.pairwise_iff_getElem]
  intro i j hi hj hij e
  have h1 := (obj_look h (low_find (List.getElem?_eq_getElem hi))).2
  have h2 := (obj_look h (low_find (List.getElem?_eq_getElem hj))).2
  rw [e, h2] at h1
  have := osz_take_lt hij (Nat.le_of_lt hj)
  omega
theorem sz_look {x : Nat} {o : Ob} (h : H.look x = some o) : sz H x = o.w.length + 1 := by unfold sz; rw [h]
theorem isM_look {x : Nat} {o : Ob} (h : H.look x = some o) : isM H x = o.mark := by unfold isM; rw [h]
theorem low_look (h : H.WF) {o : Ob} (hm : o ∈ H.m.low) : ∃ x, H.look x = some o := by
  obtain ⟨j, hj⟩ := List.getElem?_of_mem hm
  exact ⟨_, (obj_look h (low_find hj)).1⟩
theorem sum_map {f : Ob → Nat} {g : Nat → Nat} : ∀ {l : List Ob}, (∀ o ∈ l, g (f o) = o.w.length + 1) → ((l.map f).map g).sum = osz l
  | [], _ => rfl
  | o :: l, h => by
    have h1 := h o List.mem_cons_self
    have h2 := sum_map (l := l) fun p hp => h p (List.mem_cons_of_mem _ hp)
    simp only [List.map_cons, List.sum_cons, osz, h1, h2]
    omega
theorem sum_low (h : H.WF) (ho : H.m.op = false) : ((rowH H).map (sz H)).sum = osz H.m.low := by
  rw [row_low h ho]
  refine sum_map fun o hm => ?_
  obtain ⟨j, hj⟩ := List.getElem?_of_mem hm
  exact sz_look (obj_look h (low_find hj)).1
theorem words_sum (H : Hp) (l : List Nat) : wordsOf H l = (l.map (sz H)).sum := List.sum_eq_foldl_nat.symm
/-- where all that is live is reached, what is reached takes all words. -/
theorem top_words (h : H.WF) (ho : H.m.op = false) (hl : ∀ x, (H.look x).isSome = true → Reach H x) : H.m.top = wordsOf H (order H) := by
  have hp : (order H).Perm (rowH H) := (List.perm_ext_iff_of_nodup order_met.nd (row_nodup h ho)).2 fun x => by
    rw [order_iff h, mem_row h ho]
    exact ⟨fun hr => hr.live, hl x⟩
  rw [words_sum, (hp.map (sz H)).sum_nat, sum_low h ho]
  simp [Am.top, ho]
theorem end_eq (h : Ci B c) (hp : c.ph = 0) : endC (startC c) = ⟨(slN (units (pot (began c.H)) (began c.H)).1.m.low.length ((units (pot (began c.H)) (began c.H)).1.opened, c.mv)).1.shut, [], 0, c.ro + 1, (slN (units (pot (began c.H)) (began c.H)).1.m.low.length ((units (pot (began c.H)) (began c.H)).1.opened, c.mv)).2⟩ := by
  have e1 : (startC c).ph = 1 := rfl
  have e3 : markC (startC c) = ⟨(units (pot (began c.H)) (began c.H)).1, (units (pot (began c.H)) (began c.H)).2, 1, c.ro, c.mv⟩ := by
    unfold markC; rw [if_pos e1]; rfl
  have e4 : openC (markC (startC c)) = ⟨(units (pot (began c.H)) (began c.H)).1.opened, [], 2, c.ro, c.mv⟩ := by
    rw [e3]; unfold openC; rw [if_pos rfl]
  unfold endC
  rw [if_neg (by rw [e1]; decide), e4]
  unfold slC
  rw [if_neg (by omega)]
  rfl
theorem end_ro (h : Ci B c) (h0 : c.ph ≠ 0) : (endC c).ro = c.ro + 1 := by
  obtain ⟨g1, g2, g3, g4, _⟩ := mark_ok h h0
  obtain ⟨k1, k2, k3, k4, k5, _⟩ := open_ok g1.ci (by rw [g2]; exact h0) (fun e => g3 (g2.symm.trans e))
  unfold endC
  rw [if_neg h0]
  unfold slC
  rw [if_neg (by omega)]
  dsimp only
  rw [k5, g4]
theorem slN_quiet (hB : B + 2 < 4294967296) : ∀ (k : Nat) {H : Hp} (mv : Nat), Sl H → Gd B H → k = H.m.high.length → H.m.hi = osz H.m.low → (∀ p ∈ H.m.high, p.mark = true) →
    (slN k (H, mv)).2 = mv ∧ (slN k (H, mv)).1.m.hi = osz (slN k (H, mv)).1.m.low ∧ osz (slN k (H, mv)).1.m.low = osz H.m.low + osz H.m.high
  | 0, H, mv, h, hg, hk, hi, hm => by
    have hh : H.m.high = [] := List.eq_nil_of_length_eq_zero hk.symm
    refine ⟨rfl, hi, ?_⟩
    rw [hh]; rfl
  | k + 1, H, mv, h, hg, hk, hi, hm => by
    cases hh : H.m.high with
    | nil => rw [hh] at hk; cases hk
    | cons o l =>
      have h1 := one h hg hB
      have hmk : o.mark = true := hm o (by rw [hh]; exact List.mem_cons_self)
      have e1 : sl1 H = slK H o := by unfold sl1; rw [hh]; dsimp only; rw [if_pos hmk]
      have e2 : mv1 H = 0 := by unfold mv1; rw [hh]; dsimp only; rw [if_neg (fun a => a.2 hi)]
      have em := slK_m h.wf hh
      rw [e1] at h1
      have ih := slN_quiet hB k (H := slK H o) mv h1.sl h1.gd (by rw [em]; rw [hh] at hk; simpa using hk) (by rw [em]; dsimp only; rw [osz_app, osz_one, hi]; simp [Ob.marked]; omega) (fun p hp => hm p (by rw [em] at hp; rw [hh]; exact List.mem_cons_of_mem _ hp))
      have e : slN (k + 1) (H, mv) = slN k (slK H o, mv) := by
        show slN k (sl1 H, mv + mv1 H) = _
        rw [e1, e2, Nat.add_zero]
      rw [e]
      refine ⟨ih.1, ih.2.1, ?_⟩
      rw [ih.2.2, em]
      dsimp only
      rw [osz_app, osz_one]
      simp only [osz, Ob.marked]
      omega
/-- where all is reached, a collection moves nothing. -/
theorem full_quiet (hB : B + 2 < 4294967296) (h : Ci B c) (hp : c.ph = 0) (hl : ∀ x, (c.H.look x).isSome = true → Reach c.H x) : (endC (startC c)).mv = c.mv ∧ (endC (startC c)).H.m.top = c.H.m.top := by
  obtain ⟨h1, h2, h3⟩ := h.ph0 hp
  have hI := (Inv.began h.wf).units (pot (began c.H))
  have hst : (units (pot (began c.H)) (began c.H)).2 = [] := pot_end (began_ok h.wf).1 (Nat.le_refl _)
  obtain ⟨b1, b2, _⟩ := began_ok h.wf
  obtain ⟨u1, u2, _⟩ := units_ok (s := began c.H) b1 (pot (began c.H))
  have hsk := b2.trans u2
  have hop : (units (pot (began c.H)) (began c.H)).1.m.op = false := hsk.op.trans h2
  have hgd := (units_rw (pot (began c.H)) (s := began c.H) b1).gd ((began_rw h.wf).gd h.gd)
  have hcl := hsk.closed h3
  have hall : ∀ p ∈ (units (pot (began c.H)) (began c.H)).1.m.low, p.mark = true := fun p hpm => by
    obtain ⟨x, g1⟩ := low_look u1 hpm
    have hlv := hl x (by rw [← hsk.isSome, g1]; rfl)
    have := hI.all hst (hsk.reach hlv)
    rw [isM_look g1] at this
    exact this
  rw [end_eq h hp]
  have hI2 : Inv ((units (pot (began c.H)) (began c.H)).1, (units (pot (began c.H)) (began c.H)).2) := hI
  have htop := hsk.top
  generalize (units (pot (began c.H)) (began c.H)).1 = G at *
  have hsl := opened_sl hI2 hst hop hcl
  obtain ⟨q1, q2, q3⟩ := slN_quiet hB G.m.low.length (H := G.opened) c.mv hsl (opened_gd hop u1 hgd) rfl rfl hall
  refine ⟨q1, ?_⟩
  rw [← htop]
  show osz _ = _
  dsimp only
  have e : (slN G.m.low.length (G.opened, c.mv)).1.shut.m.low = (slN G.m.low.length (G.opened, c.mv)).1.m.low := rfl
  rw [e, q3]
  show 0 + osz G.m.low = G.m.top
  simp [Am.top, hop]
end
end Go.Hm
