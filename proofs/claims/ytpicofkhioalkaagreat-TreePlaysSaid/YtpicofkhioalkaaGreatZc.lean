
/- Links and made objects while a marking goes on, as data. -/
import Derived.Test.YtpicofkhioalkaaGreatZa
import Derived.Test.YtpicofkhioalkaaGreatZb
import Derived.Test.YtpicofkhioalkaaGreatEk
set_option maxRecDepth 100000
namespace Go.Proofs.YtpicofkhioalkaaGreat
open Go Go.Lw Go.Wd Go.Am Go.Tb Go.Hm
section
variable {H H1 : Hp} {st hs : List Nat}
theorem put_unm (h : H.WF) {x i y : Nat} {o : Ob} (ho : H.look x = some o) : unm (H.set x (o.put i y)) = unm H := by
 unfold unm
 obtain ⟨_, h2⟩ := look_some h ho
 unfold Hp.set
 have hp : (o.put i y).mark = o.mark := rfl
 rcases h.am.find_cases h2 with ⟨h1, _⟩ | ⟨h1, h2, _, _, _⟩
 ·have e : H.m.set (H.place x) (o.put i y) = { H.m with low := setL 0 H.m.low (H.place x) (o.put i y) } := by unfold Am.set; simp [h1]
  have := unmL_set (o' := o.put i y) h1
  rw [hp] at this
  simp only [e]
  omega
 ·have e : H.m.set (H.place x) (o.put i y) = { H.m with high := setL H.m.hi H.m.high (H.place x) (o.put i y) } := by unfold Am.set; simp [h1, findL_none_set h1]
  have := unmL_set (o' := o.put i y) h2
  rw [hp] at this
  simp only [e]
  omega
theorem made_unm (hop : H.m.op = false) (a b c : Nat) : unm (H.made a b c) = unm H + 1 := by
 have e : (H.made a b c).m = ⟨H.m.n, H.m.low ++ [Fresh a b c H.t.nextSlot], H.m.high, H.m.hi, false⟩ := by
  show H.m.alloc _ = _
  unfold Am.alloc
  cases hop2 : H.m.op with
  | true => rw [hop2] at hop; cases hop
  | false => rfl
 unfold unm
 rw [e]
 simp only [unmL_app, unmL, Fresh]
 simp
 omega
theorem isM_of {a b : Hp} {x : Nat} (h : a.look x = b.look x) : isM a x = isM b x := by unfold isM; rw [h]
structure Nr (H H1 : Hp) (y : Nat) : Prop where
 wf : H1.WF
 live : ∀ z, (H1.look z).isSome = (H.look z).isSome
 m : ∀ z, isM H1 z = isM H z
 roots : ∀ z ∈ H1.roots, z ∈ H.roots ∨ z = y
 refs : ∀ z u, u ∈ refsOf H1 z -> u ∈ refsOf H z ∨ u = y
 unm : unm H1 = unm H
theorem put_isM (hm : H.WF) {x i y : Nat} {o : Ob} (ho : H.look x = some o) (z : Nat) : isM (H.set x (o.put i y)) z = isM H z := by
 have hw : (o.put i y).w.length = o.w.length := by simp [Ob.put]
 unfold isM
 rw [set_look hm ho hw]
 by_cases e : z = x
 ·rw [if_pos e, e, ho]; rfl
 ·rw [if_neg e]
theorem nr_put (hm : H.WF) {x i y : Nat} {o : Ob} (ho : H.look x = some o) (hwf : (H.set x (o.put i y)).WF) : Nr H (H.set x (o.put i y)) y := by
 have hw : (o.put i y).w.length = o.w.length := by simp [Ob.put]
 refine ⟨hwf, set_isSome hm ho hw, put_isM hm ho, fun z hz => .inl hz, fun z u hu => ?_, put_unm hm ho⟩
 unfold refsOf at hu ⊢
 rw [set_look hm ho hw] at hu
 by_cases e : z = x
 ·rw [if_pos e] at hu
  have hu : u ∈ (o.w.set i y).take o.refs := hu
  rw [e, ho]
  rw [List.take_set] at hu
  exact List.mem_or_eq_of_mem_set hu
 ·rw [if_neg e] at hu
  exact .inl hu
theorem nr_word (hm : H.WF) {x i y : Nat} {o : Ob} (ho : H.look x = some o) (hwf : (H.set x (o.put (o.refs + i) y)).WF) : Nr H (H.set x (o.put (o.refs + i) y)) 0 := by
 have hw : (o.put (o.refs + i) y).w.length = o.w.length := by simp [Ob.put]
 refine ⟨hwf, set_isSome hm ho hw, put_isM hm ho, fun z hz => .inl hz, fun z u hu => ?_, put_unm hm ho⟩
 unfold refsOf at hu ⊢
 rw [set_look hm ho hw] at hu
 by_cases e : z = x
 ·rw [if_pos e] at hu
  have hu : u ∈ (o.w.set (o.refs + i) y).take o.refs := hu
  rw [e, ho]
  rw [List.take_set, List.set_eq_of_length_le (by rw [List.length_take]; omega)] at hu
  exact .inl hu
 ·rw [if_neg e] at hu
  exact .inl hu
def lkM (s : Ms) (y : Nat) : Ms := if y = 0 then s else lnk s y
theorem nr_lk {y : Nat} (hN : Nr H H1 y) (h : Inv (H, st)) : Inv (lkM (H1, st) y) /\ pot (lkM (H1, st) y) = pot (H, st) /\ (∀ z, isM H z = true -> isM (lkM (H1, st) y).1 z = true) := by
 have hp : pot (H1, st) = pot (H, st) := by unfold pot; dsimp only; rw [hN.unm]
 unfold lkM
 by_cases hy : y = 0
 ·rw [if_pos hy]
  refine ⟨⟨hN.wf, fun x hx => by dsimp only; rw [hN.m]; exact h.stack x hx, fun x hx hl => ?_, fun x hx hn u hu hl => ?_⟩, hp, fun z hz => by dsimp only; rw [hN.m]; exact hz⟩
  ·dsimp only at hx hl ⊢
   rw [hN.m]
   rcases hN.roots x hx with a | a
   ·exact h.roots x a (by rw [<- hN.live]; exact hl)
   ·rw [a, hy, look_zero hN.wf] at hl; cases hl
  ·dsimp only at hx hu hl ⊢
   rw [hN.m] at hx ⊢
   rcases hN.refs x u hu with a | a
   ·exact h.refs x hx hn u a (by rw [<- hN.live]; exact hl)
   ·rw [a, hy, look_zero hN.wf] at hl; cases hl
 ·rw [if_neg hy]
  have hk := lnk_sk (s := (H1, st)) hN.wf y
  have hM := lnk_isM (s := (H1, st)) hN.wf y
  have hS := lnk_stack (s := (H1, st)) y
  have mono : ∀ z, isM H z = true -> isM (lnk (H1, st) y).1 z = true := fun z hz => by
   rw [hM z, hN.m, hz]; rfl
  have yes : (H1.look y).isSome = true -> isM (lnk (H1, st) y).1 y = true := fun hl => by
   rw [hM y]; dsimp only; rw [hl]; simp
  refine ⟨⟨lnk_wf (s := (H1, st)) hN.wf y, fun x hx => ?_, fun x hx hl => ?_, fun x hx hn u hu hl => ?_⟩, (lnk_pot (s := (H1, st)) hN.wf y).trans hp, mono⟩
  ·rcases (hS x).1 hx with a | ⟨rfl, a, _⟩
   ·exact mono x (h.stack x a)
   ·exact yes a
  ·rw [hk.roots] at hx
   rw [hk.isSome] at hl
   dsimp only at hx hl
   rcases hN.roots x hx with a | a
   ·exact mono x (h.roots x a (by rw [<- hN.live]; exact hl))
   ·rw [a] at hl ⊢; exact yes hl
  ·rw [hk.refs] at hu
   rw [hk.isSome] at hl
   dsimp only at hu hl
   have hxm : isM H x = true /\ x ∉ st := by
    have h1 : x ∉ st := fun hh => hn ((hS x).2 (.inl hh))
    refine ⟨?_, h1⟩
    rw [hM x] at hx
    dsimp only at hx
    rw [<- hN.m]
    cases hxx : isM H1 x with
    | true => rfl
    | false =>
     rw [hxx] at hx
     simp only [Bool.false_or, Bool.and_eq_true, beq_iff_eq] at hx
     exact absurd ((hS x).2 (.inr ⟨hx.1, hx.2, by rw [<- hx.1]; exact hxx⟩)) hn
   rcases hN.refs x u hu with a | a
   ·exact mono u (h.refs x hxm.1 hxm.2 u a (by rw [<- hN.live]; exact hl))
   ·rw [a] at hl ⊢; exact yes hl
theorem made_lk (hm : H.WF) (hf : ¬ H.t.full) (hop : H.m.op = false) (h : Inv (H, st)) {a b c : Nat} (hwf : (H.made a b c).WF) :
  Inv ((H.made a b c).paint (nextH H.t) true, st) /\ pot ((H.made a b c).paint (nextH H.t) true, st) = pot (H, st) /\ (∀ z, isM H z = true -> isM ((H.made a b c).paint (nextH H.t) true) z = true) /\ isM ((H.made a b c).paint (nextH H.t) true) (nextH H.t) = true := by
 have hlk := made_look hm (tag := a) (refs := b) (size := c) hf
 have hnone := next_look hm hf
 have hru := made_unm hop a b c
 generalize nextH H.t = n at hlk hnone ⊢
 have hln : (H.made a b c).look n = some (Fresh a b c H.t.nextSlot) := by rw [hlk, if_pos rfl]
 have hlo : ∀ z, z ≠ n -> (H.made a b c).look z = H.look z := fun z hz => by rw [hlk, if_neg hz]
 have hun := paint_unm hwf hln rfl
 have hk := paint_sk hwf n true
 have hM := paint_isM hwf n
 have hroots : (H.made a b c).roots = H.roots := rfl
 generalize H.made a b c = H2 at *
 have hMo : ∀ z, z ≠ n -> isM (H2.paint n true) z = isM H z := fun z hz => by rw [hM z, if_neg hz]; exact isM_of (hlo z hz)
 have hMn : isM (H2.paint n true) n = true := by rw [hM n, if_pos rfl, hln]; rfl
 have mono : ∀ z, isM H z = true -> isM (H2.paint n true) z = true := fun z hz => by
  by_cases e : z = n
  ·rw [e]; exact hMn
  ·rw [hMo z e]; exact hz
 refine ⟨⟨paint_wf hwf n true, fun x hx => mono x (h.stack x hx), fun x hx hl => ?_, fun x hx hn u hu hl => ?_⟩, ?_, mono, hMn⟩
 ·dsimp only at hx hl ⊢
  rw [hk.roots, hroots] at hx
  rw [hk.isSome] at hl
  by_cases e : x = n
  ·rw [e]; exact hMn
  ·rw [hlo x e] at hl
   exact mono x (h.roots x hx hl)
 ·dsimp only at hx hn hu hl ⊢
  rw [hk.refs] at hu
  rw [hk.isSome] at hl
  by_cases e : u = n
  ·rw [e]; exact hMn
  by_cases ex : x = n
  ·unfold refsOf at hu
   rw [ex, hln] at hu
   have hu : u ∈ (List.replicate c 0).take b := hu
   have := List.eq_of_mem_replicate (List.mem_of_mem_take hu)
   rw [this, look_zero hwf] at hl
   cases hl
  ·rw [hMo x ex] at hx
   have hu2 : u ∈ refsOf H x := by unfold refsOf at hu ⊢; rw [hlo x ex] at hu; exact hu
   rw [hlo u e] at hl
   exact mono u (h.refs x hx hn u hu2 hl)
 ·unfold pot
  dsimp only
  omega
theorem mk_made_m (mb : Nat) (w : World) : (method (Tryz.prog.types.size + Made.depth) 98 (.pointer (some ⟨mb, 0, none⟩)) "Made").run Tryz.prog w = .ok (170, .pointer (some ⟨mb, 0, none⟩)) w := by kernel_rfl
theorem mk_linked_m (mb : Nat) (w : World) : (method (Tryz.prog.types.size + Made.depth) 98 (.pointer (some ⟨mb, 0, none⟩)) "Linked").run Tryz.prog w = .ok (115, .pointer (some ⟨mb, 0, none⟩)) w := by kernel_rfl
end
end Go.Proofs.YtpicofkhioalkaaGreat
/- A collector while others change the heap, as data; what it does when it is told. -/
set_option maxRecDepth 100000
namespace Go.Hm
open Go Go.Lw Go.Wd Go.Am Go.Tb Go.Proofs.YtpicofkhioalkaaGreat
variable {H : Hp}
theorem set_low_osz (h : H.WF) {x : Nat} {o o' : Ob} (hl : H.look x = some o) (hw : o'.w.length = o.w.length) : osz (H.set x o').m.low = osz H.m.low := by
 obtain ⟨_, h2⟩ := look_some h hl
 unfold Hp.set Am.set
 dsimp only
 rcases h.am.find_cases h2 with ⟨h1, _⟩ | ⟨h1, _⟩
 ·exact osz_setL h1 hw
 ·rw [findL_none_set h1]
theorem sv_set (h : H.WF) {x : Nat} {o o' : Ob} (hl : H.look x = some o) (hw : o'.w.length = o.w.length) (hm : o'.mark = o.mark) (z : Nat) : sv (H.set x o') z ↔ sv H z := by
 unfold sv
 rw [set_look h hl hw, set_low_osz h hl hw, set_place]
 by_cases e : z = x
 ·subst e
  rw [if_pos rfl, hl]
  constructor
  ·rintro ⟨p, hp, a⟩
   cases hp
   exact ⟨o, rfl, by rw [<- hm]; exact a⟩
  ·rintro ⟨p, hp, a⟩
   cases hp
   exact ⟨o', rfl, by rw [hm]; exact a⟩
 ·rw [if_neg e]
theorem Sl.set (h : Sl H) {x : Nat} {o o' : Ob} (hl : H.look x = some o) (hw : o'.w.length = o.w.length) (ho : o'.owner = o.owner) (hok : o'.Ok) (hm : o'.mark = o.mark) (hr : ∀ y ∈ o'.w.take o'.refs, y ∈ o.w.take o.refs ∨ y = 0 ∨ sv H y) : Sl (H.set x o') := by
 have hv := sv_set h.wf hl hw hm
 refine ⟨set_wf h.wf hl hw ho hok, h.op, fun p hp => ?_, fun y hy => (h.roots y hy).imp id (hv y).2, fun z hz y hy => ?_⟩
 ·obtain ⟨_, h2⟩ := look_some h.wf hl
  unfold Hp.set Am.set at hp
  dsimp only at hp
  rcases h.wf.am.find_cases h2 with ⟨h1, _⟩ | ⟨h1, _⟩
  ·rcases setL_mem hp with a | a
   ·rw [a, hm]; exact h.low o (findL_mem h1)
   ·exact h.low p a
  ·rw [findL_none_set h1] at hp
   exact h.low p hp
 ·have hz2 := (hv z).1 hz
  unfold refsOf at hy
  rw [set_look h.wf hl hw] at hy
  by_cases e : z = x
  ·rw [if_pos e] at hy
   rcases hr y hy with a | a | a
   ·refine (h.refs x (by rw [<- e]; exact hz2) y ?_).imp id (hv y).2
    unfold refsOf; rw [hl]; exact a
   ·exact .inl a
   ·exact .inr ((hv y).2 a)
  ·rw [if_neg e] at hy
   exact (h.refs z hz2 y hy).imp id (hv y).2
theorem made_place (h : H.WF) (hf : ¬ H.t.full) {z : Nat} {p : Ob} (hp : H.look z = some p) (hne : z ≠ nextH H.t) (a b c : Nat) : (H.made a b c).place z = H.place z := by
 obtain ⟨h1, _⟩ := look_some h hp
 have e : (H.made a b c).place z = match (H.t.make H.m.top).find z with | some i => (H.t.make H.m.top).atOf i | none => 0 := rfl
 rw [e, find_make h.tab hf, if_neg hne, h1]
 unfold Hp.place
 rw [h1]
 dsimp only
 rw [at_make h.tab, if_neg]
 intro e2
 obtain ⟨_, s, g1, g2, _⟩ := tfind_iff.1 h1
 rw [e2] at g1
 have := next_free h.tab g1
 rw [this] at g2; cases g2
theorem made_nplace (h : H.WF) (hf : ¬ H.t.full) (a b c : Nat) {x : Nat} (hx : x = nextH H.t) : (H.made a b c).place x = H.m.top := by
 have hfd : (H.made a b c).t.find x = some H.t.nextSlot := (find_make h.tab hf x).trans (if_pos hx)
 have ha : (H.made a b c).t.atOf H.t.nextSlot = H.m.top := (at_make h.tab H.t.nextSlot).trans (if_pos rfl)
 unfold Hp.place
 rw [hfd]
 exact ha
theorem made_m2 (hop : H.m.op = true) (a b c : Nat) : (H.made a b c).m = ⟨H.m.n, H.m.low, H.m.high ++ [Fresh a b c H.t.nextSlot], H.m.hi, true⟩ := by
 show H.m.alloc _ = _
 unfold Am.alloc
 cases hop2 : H.m.op with
 | false => rw [hop2] at hop; cases hop
 | true => rfl
theorem Sl.made (h : Sl H) {n : Nat} (hn : n = nextH H.t) (hf : ¬ H.t.full) {a b c : Nat} (hwf : (H.made a b c).WF) : Sl ((H.made a b c).paint n true) /\ (∀ z, sv H z -> sv ((H.made a b c).paint n true) z) /\ sv ((H.made a b c).paint n true) n := by
 have hlk : ∀ y, (H.made a b c).look y = if y = n then some (Fresh a b c H.t.nextSlot) else H.look y := fun y => by rw [hn]; exact made_look h.wf hf y
 have hnone : H.look n = none := by rw [hn]; exact next_look h.wf hf
 have hpl : ∀ {z : Nat} {p : Ob}, H.look z = some p -> z ≠ n -> (H.made a b c).place z = H.place z := fun {z} {p} hp hne => made_place h.wf hf hp (by rw [<- hn]; exact hne) a b c
 have hnp := made_nplace h.wf hf a b c hn
 have hm := made_m2 h.op a b c
 have hroots : (H.made a b c).roots = H.roots := rfl
 clear hn
 have hln : (H.made a b c).look n = some (Fresh a b c H.t.nextSlot) := by rw [hlk, if_pos rfl]
 have hlo : ∀ z, z ≠ n -> (H.made a b c).look z = H.look z := fun z hz => by rw [hlk, if_neg hz]
 have hlow : (H.made a b c).m.low = H.m.low := by rw [hm]
 have hop1 : (H.made a b c).m.op = true := by rw [hm]
 have htop := h.wf.am.low_le
 generalize H.made a b c = H1 at *
 have hpe : H1.paint n true = H1.set n ((Fresh a b c H.t.nextSlot).paint true) := by unfold Hp.paint; rw [hln]
 have hk := paint_sk hwf n true
 have hpw := paint_wf hwf n true
 have hplk := paint_look hwf n true
 have hlow2 : (H1.paint n true).m.low = H.m.low := by
  rw [hpe]
  unfold Hp.set Am.set
  dsimp only
  rw [findL_none_set (findL_above (by rw [hnp, hlow]; omega)), hlow]
 have hpp : ∀ z, (H1.paint n true).place z = H1.place z := fun z => by rw [hpe]; rfl
 have svn : sv (H1.paint n true) n := ⟨(Fresh a b c H.t.nextSlot).paint true, by rw [hplk, if_pos rfl, hln]; rfl, .inl rfl⟩
 have svo : ∀ z, sv H z -> sv (H1.paint n true) z := fun z hz => by
  obtain ⟨p, hp, q⟩ := hz
  have hne : z ≠ n := fun e => by rw [e, hnone] at hp; cases hp
  refine ⟨p, by rw [hplk, if_neg hne, hlo z hne]; exact hp, ?_⟩
  rw [hpp, hpl hp hne, hlow2]
  exact q
 have svb : ∀ z, sv (H1.paint n true) z -> z = n ∨ sv H z := fun z hz => by
  by_cases e : z = n
  ·exact .inl e
  ·obtain ⟨p, hp, q⟩ := hz
   rw [hplk, if_neg e, hlo z e] at hp
   rw [hpp, hpl hp e, hlow2] at q
   exact .inr ⟨p, hp, q⟩
 refine ⟨⟨hpw, hk.op.trans hop1, fun o ho => ?_, fun y hy => ?_, fun x hx y hy => ?_⟩, svo, svn⟩
 ·rw [hlow2] at ho; exact h.low o ho
 ·rw [hk.roots, hroots] at hy
  exact (h.roots y hy).imp id (svo y)
 ·rw [hk.refs] at hy
  rcases svb x hx with e | e
  ·unfold refsOf at hy
   rw [e, hln] at hy
   have hy : y ∈ (List.replicate c 0).take b := hy
   exact .inl (List.eq_of_mem_replicate (List.mem_of_mem_take hy))
  ·have hne : x ≠ n := fun e2 => by
    obtain ⟨p, hp, _⟩ := e
    rw [e2, hnone] at hp; cases hp
   have hy2 : y ∈ refsOf H x := by unfold refsOf at hy ⊢; rw [hlo x hne] at hy; exact hy
   exact (h.refs x e y hy2).imp id (svo y)
theorem gd_made2 {B : Nat} (hm : H.WF) (h : Gd B H) (a b c : Nat) : Gd (B + 2) (H.made a b c) := by
 have e : (H.made a b c).m.low.length + (H.made a b c).m.high.length = H.m.low.length + H.m.high.length + 1 := by
  show (H.m.alloc _).low.length + (H.m.alloc _).high.length = _
  unfold Am.alloc
  cases H.m.op with
  | true => simp only [cond_true, List.length_append, List.length_cons, List.length_nil]; omega
  | false => simp only [cond_false, List.length_append, List.length_cons, List.length_nil]; omega
 refine ⟨?_, ?_⟩
 ·show (H.t.make H.m.top).count = _
  rw [Hm.count_make hm.tab, e, h.cnt]
 ·have := tot_make hm.tab H.m.top
  have := h.tot
  show tot (H.t.make H.m.top) <= _
  omega
theorem mvB_rw {c c' : Cd} (hp : c'.ph = c.ph) (hm : c'.mv = c.mv) (h : Rw c.H c'.H) : mvB c' = mvB c := by
 obtain ⟨h1, h2⟩ := h.lens
 unfold mvB
 rw [hp, hm, h1, h2]
theorem mvB_made {c c' : Cd} (hp : c'.ph = c.ph) (hm : c'.mv = c.mv) (h : c'.H.m.low.length + c'.H.m.high.length <= c.H.m.low.length + c.H.m.high.length + 1) (h2 : c'.H.m.high.length <= c.H.m.high.length + 1) : mvB c' <= mvB c + 1 := by
 unfold mvB
 rw [hp, hm]
 split
 ·omega
 ·split <;> omega
theorem made_lens (a b c : Nat) : (H.made a b c).m.low.length + (H.made a b c).m.high.length <= H.m.low.length + H.m.high.length + 1 /\ (H.made a b c).m.high.length <= H.m.high.length + 1 := by
 show (H.m.alloc _).low.length + (H.m.alloc _).high.length <= _ /\ (H.m.alloc _).high.length <= _
 unfold Am.alloc
 cases H.m.op with
 | true => simp only [cond_true, List.length_append, List.length_cons, List.length_nil]; omega
 | false => simp only [cond_false, List.length_append, List.length_cons, List.length_nil]; omega
end Go.Hm
namespace Go.Proofs.YtpicofkhioalkaaGreat
open Go Go.Lw Go.Wd Go.Am Go.Tb Go.Hm
theorem co_made_m (cb : Nat) (w : World) : (method (Tryz.prog.types.size + Made.depth) 52 (.pointer (some ⟨cb, 0, none⟩)) "Made").run Tryz.prog w = .ok (169, .pointer (some ⟨cb, 0, none⟩)) w := by kernel_rfl
theorem co_linked_m (cb : Nat) (w : World) : (method (Tryz.prog.types.size + Made.depth) 52 (.pointer (some ⟨cb, 0, none⟩)) "Linked").run Tryz.prog w = .ok (168, .pointer (some ⟨cb, 0, none⟩)) w := by kernel_rfl
section
variable {H : Hp} {v : Value} {b cb mb ro mv : Nat} {F : List HP} {w : World}
theorem smade_c (hs : Sat (HeapH H v b :: star (CoR b cb mb 2 ro mv) (MkH b mb [] false) :: F) w) {x : Nat} (hx : x < 18446744073709551616) : Calls Tryz.prog 169 #[.pointer (some ⟨cb, 0, none⟩), .int .u64 (x : Int)] w
  (Ret (.tuple #[]) (Sat (HeapH (H.paint x true) v b :: star (CoR b cb mb 2 ro mv) (MkH b mb [] false) :: F))) := by
 refine S_slide_Collector_Made_ok _ _ _ _ ?_
 unfold S_slide_Collector_Made
 simp only [onSome_some]
 have h1 : Sat (CoR b cb mb 2 ro mv :: MkH b mb [] false :: HeapH H v b :: F) w := hs.p1.split
 refine LdP.of h1 0 rfl (off := 1) rfl (add_mk _ _ _) ?_
 have h2 : Sat (HeapH H v b :: MkH b mb [] false :: CoR b cb mb 2 ro mv :: F) w := (h1.pull 1 rfl).pull 2 rfl
 refine (mmade_c h2 hx).mono ?_
 rintro e w1 ⟨rfl, h3⟩
 refine ⟨rfl, rfl, ?_⟩
 exact Sat.p1 (Sat.join ((Sat.pull h3 1 rfl).pull 2 rfl))
theorem slinked_c (hs : Sat F w) {x : Int} : Calls Tryz.prog 168 #[.pointer (some ⟨cb, 0, none⟩), .int .u64 x] w (Ret (.tuple #[]) (Sat F)) := by
 refine S_slide_Collector_Linked_ok _ _ _ _ ?_
 unfold S_slide_Collector_Linked
 exact ⟨rfl, hs⟩
end
end Go.Proofs.YtpicofkhioalkaaGreat
/- A collection never lets a heap grow: the top, and how many objects there are. No program in sight. -/
set_option maxRecDepth 100000
namespace Go.Hm
open Go Go.Lw Go.Wd Go.Am Go.Tb Go.Proofs.YtpicofkhioalkaaGreat
theorem keep_top {m : Am} (hop : m.op = true) {o : Ob} {l : List Ob} (hh : m.high = o :: l) : m.keep.top = m.top := by
 unfold Am.keep
 rw [hh]
 simp only [Am.top, hop, cond_true, hh, osz]
 omega
theorem skip_top {m : Am} (hop : m.op = true) {o : Ob} {l : List Ob} (hh : m.high = o :: l) : m.skip.top = m.top := by
 unfold Am.skip
 rw [hh]
 simp only [Am.top, hop, cond_true, hh, osz]
 omega
theorem sl1_top {H : Hp} (h : H.WF) (hop : H.m.op = true) : (sl1 H).m.top = H.m.top := by
 unfold sl1
 cases hh : H.m.high with
 | nil => rfl
 | cons o l =>
  dsimp only
  split
  ·have hk : H.m.keep.top = H.m.top := keep_top hop hh
   have hkw := Am.keep_wf h.am hh
   have hf := keep_at h hh
   have hko : H.m.keep.op = true := by unfold Am.keep; rw [hh]; exact hop
   show ((H.m.keep).set (osz H.m.low) (o.marked false)).top = _
   rw [<- hk]
   unfold Am.set
   rcases hkw.find_cases hf with ⟨h1, _⟩ | ⟨h1, h2, _⟩
   ·simp only [Am.top, hko, cond_true, h1, Option.isSome_some, if_true]
   ·have e : osz (setL H.m.keep.hi H.m.keep.high (osz H.m.low) (o.marked false)) = osz H.m.keep.high := osz_setL h2 rfl
    simp only [Am.top, hko, cond_true, h1, Option.isSome_none, Bool.false_eq_true, if_false, e]
  ·show H.m.skip.top = _
   exact skip_top hop hh
theorem slN_top {B : Nat} (hB : B + 2 < 4294967296) : ∀ (n : Nat) {H : Hp} (mv : Nat), Sl H -> Gd B H -> (slN n (H, mv)).1.m.top = H.m.top
 | 0, H, mv, h, hg => rfl
 | n + 1, H, mv, h, hg => by
  have h1 := one h hg hB
  have h2 := slN_top hB n (mv + mv1 H) h1.sl h1.gd
  rw [show (slN (n + 1) (H, mv)).1 = (slN n (sl1 H, mv + mv1 H)).1 from rfl, h2, sl1_top h.wf h.op]
section
variable {B : Nat} {c : Cd}
theorem slC_top (hB : B + 2 < 4294967296) (h : Sl c.H) (hg : Gd B c.H) (n : Nat) : (slC n c).1.H.m.top <= c.H.m.top := by
 unfold slC
 split
 ·exact Nat.le_of_eq (slN_top hB n c.mv h hg)
 ·have e := slN_top hB c.H.m.high.length c.mv h hg
  have hm := many hB c.H.m.high.length c.mv h hg
  have h2 := hm.sl.wf.am.low_le
  show (slN c.H.m.high.length (c.H, c.mv)).1.m.close.top <= _
  have e3 : (slN c.H.m.high.length (c.H, c.mv)).1.m.close.top = osz (slN c.H.m.high.length (c.H, c.mv)).1.m.low := rfl
  rw [e3, <- e]
  exact h2
theorem open_top (h : Ci B c) : (openC c).H.m.top = c.H.m.top := by
 unfold openC
 split
 ·rename_i hp
  have hop : c.H.m.op = false := (h.ph1 hp).2.1
  show (c.H.m.opened).top = _
  unfold Am.opened Am.top
  rw [hop]
  simp
 ·rfl
theorem units_top (n : Nat) {s : Ms} (h : s.1.WF) : (units n s).1.m.top = s.1.m.top := (units_ok h n).2.1.top
theorem start_top (h : Ci B c) : (startC c).H.m.top = c.H.m.top := (began_ok h.wf).2.1.top
theorem step_top (hB : B + 2 < 4294967296) (h : Ci B c) (h0 : c.ph ≠ 0) (n : Nat) : (stepC n c).1.H.m.top <= c.H.m.top := by
 unfold stepC
 split
 ·exact Nat.le_of_eq (units_top n h.wf)
 ·rename_i hp
  obtain ⟨g1, g2, g3, g4, g5, g6⟩ := open_ok h h0 (fun e => Classical.byContradiction fun hh => hp ⟨e, hh⟩)
  exact Nat.le_trans (slC_top hB g4 g1.ci.gd n) (Nat.le_of_eq (open_top h))
theorem end_top (hB : B + 2 < 4294967296) (h : Ci B c) : (endC c).H.m.top <= c.H.m.top := by
 unfold endC
 by_cases h0 : c.ph = 0
 ·rw [if_pos h0]; exact Nat.le_refl _
 ·rw [if_neg h0]
  obtain ⟨g1, g2, g3, g4, g5⟩ := mark_ok h h0
  obtain ⟨k1, k2, k3, k4, k5, k6⟩ := open_ok g1.ci (by rw [g2]; exact h0) (fun e => g3 (g2.symm.trans e))
  refine Nat.le_trans (slC_top hB k4 k1.ci.gd _) ?_
  rw [open_top g1.ci]
  unfold markC
  split
  ·exact Nat.le_of_eq (units_top _ h.wf)
  ·exact Nat.le_refl _
theorem sp_count {c' : Cd} (h : Ci B c) (g : Sp B c c') : c'.H.t.count <= c.H.t.count := by
 have := g.row.length_le
 rw [h.gd.cnt, g.ci.gd.cnt]
 unfold rowH at this
 simpa using this
end
end Go.Hm
/- The engine of a heap that is collected meanwhile: nobody watches, a marker, or a collector that slides. -/
set_option maxRecDepth 100000
namespace Go.Hm
open Go Go.Lw Go.Wd Go.Am Go.Tb Go.Proofs.YtpicofkhioalkaaGreat
theorem sk_ov {A B : Hp} (h : Sk A B) : B.ov = A.ov := by
 funext x
 have := h.look x
 unfold Hp.ov
 cases ha : A.look x with
 | none => rw [ha] at this; cases hb : B.look x with
  | none => rfl
  | some p => rw [hb] at this; cases this
 | some o =>
  rw [ha] at this
  cases hb : B.look x with
  | none => rw [hb] at this; cases this
  | some p =>
   rw [hb] at this
   simp only [Option.map_some, Option.some.injEq] at this
   have h1 : p.plain.refs = o.plain.refs := by rw [this]
   have h2 : p.plain.w = o.plain.w := by rw [this]
   have h3 : p.plain.tag = o.plain.tag := by rw [this]
   have h1 : p.refs = o.refs := h1
   have h2 : p.w = o.w := h2
   have h3 : p.tag = o.tag := h3
   simp only [Option.map_some, h1, h2, h3]
def okC (p : Nat) (H : Hp) (y : Nat) : Prop := if p = 2 then sv H y else (H.look y).isSome = true
theorem okC_live {p : Nat} {H : Hp} {y : Nat} (h : okC p H y) : (H.look y).isSome = true := by
 unfold okC at h
 split at h
 ·exact sv_live h
 ·exact h
structure CxI (M p ro mv : Nat) (H : Hp) (st : List Nat) (c : Nat) : Prop where
 ci : Ci (2 * c) ⟨H, st, p, ro, mv⟩
 pk : Pk ⟨H, st, p, ro, mv⟩
 mvb : mvB ⟨H, st, p, ro, mv⟩ <= M + c
 le : p <= 2
theorem okC_reach {M p ro mv : Nat} {H : Hp} {st : List Nat} {c x : Nat} (h : CxI M p ro mv H st c) (hr : Hm.Reach H x) : okC p H x := by
 unfold okC
 split
 ·rename_i e
  rcases h.ci.ph with ⟨a, _⟩ | ⟨a, _⟩ | ⟨_, _, a⟩
  ·have a : p = 0 := a
   omega
  ·have a : p = 1 := a
   omega
  ·exact a.reach hr
 ·exact hr.live
section
variable {M p ro mv c : Nat} {H : Hp} {st : List Nat}
def mkS (p n : Nat) (H1 : Hp) : Hp := if p = 0 then H1 else H1.paint n true
theorem mkS_0 (n : Nat) (H1 : Hp) : mkS 0 n H1 = H1 := by unfold mkS; rw [if_pos rfl]
theorem mkS_1 (n : Nat) (H1 : Hp) : mkS 1 n H1 = H1.paint n true := by unfold mkS; rw [if_neg (by decide)]
theorem mkS_2 (n : Nat) (H1 : Hp) : mkS 2 n H1 = H1.paint n true := by unfold mkS; rw [if_neg (by decide)]
theorem mkS_sk {H1 : Hp} (hwf : H1.WF) (p n : Nat) : Sk H1 (mkS p n H1) := by
 unfold mkS
 split
 ·exact Sk.refl _
 ·exact paint_sk hwf _ true
theorem mkS_ok (h : CxI M p ro mv H st c) {tag refs size n : Nat} (hn : n = nextH H.t) (hf : ¬ H.t.full) (hwf : (H.made tag refs size).WF) :
  CxI M p ro mv (mkS p n (H.made tag refs size)) st (c + 1) /\ okC p (mkS p n (H.made tag refs size)) n /\ ∀ y, okC p H y -> okC p (mkS p n (H.made tag refs size)) y := by
 have hm := h.ci.wf
 have hm : H.WF := hm
 have hgd : Gd (2 * (c + 1)) (H.made tag refs size) := gd_made2 hm h.ci.gd tag refs size
 obtain ⟨e1, e2⟩ := made_lens (H := H) tag refs size
 have hlk := made_look hm (tag := tag) (refs := refs) (size := size) hf
 rw [<- hn] at hlk
 have hmv := h.mvb
 have live : p ≠ 2 -> ∀ A : Hp, Sk (H.made tag refs size) A -> okC p A n /\ ∀ y, okC p H y -> okC p A y := fun hp A hk => by
  have e1 : ∀ (B : Hp) y, okC p B y ↔ (B.look y).isSome = true := fun B y => by unfold okC; rw [if_neg hp]
  refine ⟨?_, fun y hy => ?_⟩
  ·rw [e1, hk.isSome, hlk, if_pos rfl]; rfl
  ·rw [e1] at hy
   rw [e1, hk.isSome, hlk]
   split
   ·rfl
   ·exact hy
 rcases h.ci.ph with ⟨a, q2, q3, q4⟩ | ⟨a, q2, q3, q4⟩ | ⟨a, q2, q3⟩
 ·have a : p = 0 := a
  have q2 : st = [] := q2
  have q3 : H.m.op = false := q3
  have q4 : H.Closed := q4
  subst a
  rw [mkS_0]
  have hop : (H.made tag refs size).m.op = false := by
   show (H.m.alloc _).op = false
   unfold Am.alloc
   rw [q3]; rfl
  have hcl := closed_made hm q4 hf (tag := tag) (refs := refs) (size := size)
  clear hn hlk
  generalize H.made tag refs size = H1 at *
  refine ⟨⟨⟨hwf, hgd, .inl ⟨rfl, q2, hop, hcl⟩⟩, pk0 (by show (0 : Nat) ≠ 1; decide), ?_, by omega⟩, live (by decide) _ (Sk.refl _)⟩
  exact Nat.le_trans (mvB_made (c := ⟨H, st, 0, ro, mv⟩) (c' := ⟨H1, st, 0, ro, mv⟩) rfl rfl e1 e2) (by omega)
 ·have a : p = 1 := a
  subst a
  rw [mkS_1]
  have q3 : H.m.op = false := q3
  have q4 : H.Closed := q4
  have q2 : Inv (H, st) := q2
  obtain ⟨h1, h2, h3, h4⟩ := made_lk hm hf q3 q2 hwf
  rw [<- hn] at h1 h2 h3 h4
  have hop : (H.made tag refs size).m.op = false := by
   show (H.m.alloc _).op = false
   unfold Am.alloc
   rw [q3]; rfl
  have hcl := closed_made hm q4 hf (tag := tag) (refs := refs) (size := size)
  have hk := paint_sk hwf n true
  have hr := paint_rw hwf n true
  obtain ⟨r1, r2⟩ := hr.lens
  have hpk := h.pk rfl
  clear hn hlk
  generalize H.made tag refs size = H1 at *
  refine ⟨⟨⟨h1.wf, hr.gd hgd, .inr (.inl ⟨rfl, h1, hk.op.trans hop, hk.closed hcl⟩)⟩, fun _ => ?_, ?_, by omega⟩, live (by decide) _ hk⟩
  ·dsimp only at hpk ⊢
   rw [h2]; exact hpk
  ·exact Nat.le_trans (mvB_made (c := ⟨H, st, 1, ro, mv⟩) (c' := ⟨H1.paint n true, st, 1, ro, mv⟩) rfl rfl (by dsimp only; rw [r1, r2]; exact e1) (by dsimp only; rw [r2]; exact e2)) (by omega)
 ·have a : p = 2 := a
  subst a
  rw [mkS_2]
  have q2 : st = [] := q2
  have q3 : Sl H := q3
  obtain ⟨h1, h3, h4⟩ := q3.made hn hf hwf
  have hr := paint_rw hwf n true
  obtain ⟨r1, r2⟩ := hr.lens
  clear hn hlk live
  generalize H.made tag refs size = H1 at *
  refine ⟨⟨⟨h1.wf, hr.gd hgd, .inr (.inr ⟨rfl, q2, h1⟩)⟩, pk0 (by show (2 : Nat) ≠ 1; decide), ?_, by omega⟩, ?_, fun y hy => ?_⟩
  ·exact Nat.le_trans (mvB_made (c := ⟨H, st, 2, ro, mv⟩) (c' := ⟨H1.paint n true, st, 2, ro, mv⟩) rfl rfl (by dsimp only; rw [r1, r2]; exact e1) (by dsimp only; rw [r2]; exact e2)) (by omega)
  ·unfold okC; rw [if_pos rfl]; exact h4
  ·unfold okC at hy ⊢
   rw [if_pos rfl] at hy ⊢
   exact h3 y hy
def lkS (p : Nat) (H1 : Hp) (st : List Nat) (y : Nat) : Hp × List Nat := if p = 1 then lkM (H1, st) y else (H1, st)
theorem lkS_sk {H1 : Hp} (hwf : H1.WF) (p : Nat) (y : Nat) : Sk H1 (lkS p H1 st y).1 := by
 unfold lkS
 split
 ·unfold lkM
  split
  ·exact Sk.refl _
  ·exact lnk_sk (s := (H1, st)) hwf y
 ·exact Sk.refl _
theorem setS_ok (h : CxI M p ro mv H st c) {x j y : Nat} {o : Ob} (ho : H.look x = some o) (hyu : y < 18446744073709551616) (hy : j < o.refs -> y = 0 ∨ okC p H y) {y' : Nat} (hy' : j < o.refs -> y' = y) (hy0 : ¬ j < o.refs -> y' = 0) :
  CxI M p ro mv (lkS p (H.set x (o.put j y)) st y').1 (lkS p (H.set x (o.put j y)) st y').2 c /\ ∀ z, okC p H z -> okC p (lkS p (H.set x (o.put j y)) st y').1 z := by
 have hm : H.WF := h.ci.wf
 have hwl : (o.put j y).w.length = o.w.length := by simp [Ob.put]
 have hwf : (H.set x (o.put j y)).WF := set_wf hm ho hwl rfl (Ob.put_ok (look_ok hm ho) _ hyu)
 have hr := rw_set (o' := o.put j y) hm ho rfl
 have hmay : j < o.refs -> H.may y = true := fun hj => by
  unfold Hp.may
  rcases hy hj with rfl | e
  ·simp
  ·rw [okC_live e]; simp
 have hmv := h.mvb
 have live : p ≠ 2 -> ∀ A : Hp, Sk (H.set x (o.put j y)) A -> ∀ z, okC p H z -> okC p A z := fun hp A hk z hz => by
  unfold okC at hz ⊢
  rw [if_neg hp] at hz ⊢
  rw [hk.isSome, set_isSome hm ho hwl]; exact hz
 rcases h.ci.ph with ⟨a, q2, q3, q4⟩ | ⟨a, q2, q3, q4⟩ | ⟨a, q2, q3⟩
 ·have a : p = 0 := a
  subst a
  have e : lkS 0 (H.set x (o.put j y)) st y' = (H.set x (o.put j y), st) := rfl
  rw [e]
  refine ⟨⟨⟨hwf, hr.gd h.ci.gd, .inl ⟨rfl, q2, q3, closed_put hm q4 ho hmay⟩⟩, pk0 (by show (0 : Nat) ≠ 1; decide), ?_, by omega⟩, live (by decide) _ (Sk.refl _)⟩
  exact Nat.le_trans (Nat.le_of_eq (mvB_rw (c := ⟨H, st, 0, ro, mv⟩) rfl rfl hr)) hmv
 ·have a : p = 1 := a
  subst a
  have e : lkS 1 (H.set x (o.put j y)) st y' = lkM (H.set x (o.put j y), st) y' := rfl
  have hN : Nr H (H.set x (o.put j y)) y' := by
   by_cases hj : j < o.refs
   ·rw [hy' hj]; exact nr_put hm ho hwf
   ·rw [hy0 hj]
    have := nr_word (i := j - o.refs) (y := y) hm ho (by rw [Nat.add_sub_cancel' (by omega)]; exact hwf)
    rwa [Nat.add_sub_cancel' (by omega)] at this
  obtain ⟨h1, h2, h3⟩ := nr_lk hN q2
  have hk := lkS_sk (st := st) hwf 1 y'
  have hr2 : Rw (H.set x (o.put j y)) (lkM (H.set x (o.put j y), st) y').1 := by
   unfold lkM
   split
   ·exact .refl _
   ·exact lnk_rw (s := (H.set x (o.put j y), st)) hwf y'
  rw [e] at hk ⊢
  refine ⟨⟨⟨h1.wf, (hr.trans hr2).gd h.ci.gd, .inr (.inl ⟨rfl, h1, hk.op.trans q3, hk.closed (closed_put hm q4 ho hmay)⟩)⟩, fun _ => ?_, ?_, by omega⟩, live (by decide) _ hk⟩
  ·have := h.pk rfl
   have e : pot ((lkM (H.set x (o.put j y), st) y').1, (lkM (H.set x (o.put j y), st) y').2) = pot (lkM (H.set x (o.put j y), st) y') := rfl
   dsimp only at this ⊢
   rw [e, h2]; exact this
  ·exact Nat.le_trans (Nat.le_of_eq (mvB_rw (c := ⟨H, st, 1, ro, mv⟩) rfl rfl (hr.trans hr2))) hmv
 ·have a : p = 2 := a
  subst a
  have e : lkS 2 (H.set x (o.put j y)) st y' = (H.set x (o.put j y), st) := rfl
  rw [e]
  have q3 : Sl H := q3
  have hS : Sl (H.set x (o.put j y)) := by
   refine q3.set ho hwl rfl (Ob.put_ok (look_ok hm ho) _ hyu) rfl fun z hz => ?_
   have hz : z ∈ (o.w.set j y).take o.refs := hz
   rw [List.take_set] at hz
   by_cases hj : j < o.refs
   ·rcases List.mem_or_eq_of_mem_set hz with a | a
    ·exact .inl a
    ·rw [a]
     rcases hy hj with e | e
     ·exact .inr (.inl e)
     ·unfold okC at e
      rw [if_pos rfl] at e
      exact .inr (.inr e)
   ·rw [List.set_eq_of_length_le (by rw [List.length_take]; omega)] at hz
    exact .inl hz
  refine ⟨⟨⟨hwf, hr.gd h.ci.gd, .inr (.inr ⟨rfl, q2, hS⟩)⟩, pk0 (by show (2 : Nat) ≠ 1; decide), ?_, by omega⟩, fun z hz => ?_⟩
  ·exact Nat.le_trans (Nat.le_of_eq (mvB_rw (c := ⟨H, st, 2, ro, mv⟩) rfl rfl hr)) hmv
  ·unfold okC at hz ⊢
   rw [if_pos rfl] at hz ⊢
   exact (sv_set hm ho hwl rfl z).2 hz
end
end Go.Hm
namespace Go.Proofs.YtpicofkhioalkaaGreat
open Go Go.Lw Go.Wd Go.Am Go.Tb Go.Hm Go.Kd Go.Td
section
variable {M p ro mv c b cb mb : Nat} {H : Hp} {st : List Nat} {F : List HP} {w : World}
theorem mk_tell (h : CxI M p ro mv H st c) {H1 : Hp} {n : Nat} (hu : n < 18446744073709551616) (hs : Sat (HeapH H1 (wvC p mb cb) b :: star (CoR b cb mb p ro mv) (MkH b mb st (p == 1)) :: F) w) :
  Tell (wvC p mb cb) "Made" n w (Sat (HeapH (mkS p n H1) (wvC p mb cb) b :: star (CoR b cb mb p ro mv) (MkH b mb st (p == 1)) :: F)) := by
 rcases h.ci.ph with ⟨a, _⟩ | ⟨a, _⟩ | ⟨a, q2, _⟩
 ·have a : p = 0 := a
  subst a
  rw [mkS_0]
  exact Tell.none hs
 ·have a : p = 1 := a
  subst a
  rw [mkS_1]
  have h1 : Sat (CoR b cb mb 1 ro mv :: MkH b mb st true :: HeapH (H1) (mkW mb) b :: F) w := hs.p1.split
  have h2 : Sat (HeapH H1 (mkW mb) b :: MkH b mb st true :: CoR b cb mb 1 ro mv :: F) w := (h1.pull 1 rfl).pull 2 rfl
  refine ⟨false, rfl, _, _, _, _, rfl, mk_made_m mb, by kernel_rfl, (mmade_c h2 hu).mono ?_⟩
  rintro e w1 ⟨he, h3⟩
  exact ⟨he, Sat.p1 (Sat.join ((Sat.pull h3 1 rfl).pull 2 rfl))⟩
 ·have a : p = 2 := a
  have q2 : st = [] := q2
  subst a q2
  rw [mkS_2]
  exact ⟨false, rfl, _, _, _, _, rfl, co_made_m cb, by kernel_rfl, smade_c hs hu⟩
theorem lk_tell (h : CxI M p ro mv H st c) {H1 : Hp} {y : Nat} (hst : st.length <= 1048576) (hyu : y < 18446744073709551616) (hs : Sat (HeapH H1 (wvC p mb cb) b :: star (CoR b cb mb p ro mv) (MkH b mb st (p == 1)) :: F) w) :
  if y = 0 then Sat (HeapH (lkS p H1 st y).1 (wvC p mb cb) b :: star (CoR b cb mb p ro mv) (MkH b mb (lkS p H1 st y).2 (p == 1)) :: F) w
  else Tell (wvC p mb cb) "Linked" y w (Sat (HeapH (lkS p H1 st y).1 (wvC p mb cb) b :: star (CoR b cb mb p ro mv) (MkH b mb (lkS p H1 st y).2 (p == 1)) :: F)) := by
 rcases h.ci.ph with ⟨a, _⟩ | ⟨a, _⟩ | ⟨a, q2, _⟩
 ·have a : p = 0 := a
  subst a
  split
  ·exact hs
  ·exact Tell.none hs
 ·have a : p = 1 := a
  subst a
  by_cases hy : y = 0
  ·rw [if_pos hy]
   have e : lkS 1 H1 st y = (H1, st) := by unfold lkS lkM; rw [if_pos rfl, if_pos hy]
   rw [e]; exact hs
  ·rw [if_neg hy]
   have e : lkS 1 H1 st y = lnk (H1, st) y := by unfold lkS lkM; rw [if_pos rfl, if_neg hy]
   rw [e]
   have h1 : Sat (CoR b cb mb 1 ro mv :: MkH b mb st true :: HeapH H1 (mkW mb) b :: F) w := hs.p1.split
   have h2 : Sat (HeapH H1 (mkW mb) b :: MkH b mb st true :: CoR b cb mb 1 ro mv :: F) w := (h1.pull 1 rfl).pull 2 rfl
   refine ⟨false, rfl, _, _, _, _, rfl, mk_linked_m mb, by kernel_rfl, (mlinked_c h2 hst hyu).mono ?_⟩
   rintro e w1 ⟨he, h3⟩
   exact ⟨he, Sat.p1 (Sat.join ((Sat.pull h3 1 rfl).pull 2 rfl))⟩
 ·have a : p = 2 := a
  subst a
  split
  ·exact hs
  ·exact ⟨false, rfl, _, _, _, _, rfl, co_linked_m cb, by kernel_rfl, slinked_c hs⟩
theorem st_len (h : CxI M p ro mv H st c) : st.length <= 1048576 := by
 rcases h.ci.ph with ⟨_, q2, _⟩ | ⟨a, _⟩ | ⟨_, q2, _⟩
 ·have q2 : st = [] := q2
  rw [q2]; simp
 ·have := h.pk a
  unfold pot at this
  dsimp only at this
  omega
 ·have q2 : st = [] := q2
  rw [q2]; simp
end
def engC (M p ro mv b cb mb : Nat) : Eng (wvC p mb cb) b where
 σ := Hp × List Nat × Nat
 H := fun s => s.1
 rest := fun s => star (CoR b cb mb p ro mv) (MkH b mb s.2.1 (p == 1))
 inv := fun s => CxI M p ro mv s.1 s.2.1 s.2.2
 ok := fun s y => okC p s.1 y
 cost := fun s => s.2.2
 live := fun _ h => okC_live h
 mkF := by
  rintro ⟨H, st, c⟩ tag refs size hi hm h1 h2 h3 h4 h5
  have hi : CxI M p ro mv H st c := hi
  have hm : H.WF := hm
  have hn := not_full hm h5
  have hwf := made_wf hm h1 h2 h3 hn h4
  have hnp := next_pos H.t
  have hnu := next_u64 hm hn
  have hnl := next_look hm hn
  have hov := ov_made hm hn (tag := tag) (refs := refs) (size := size)
  have hmk : ∀ (F : List HP) (w : World) (Q : World -> Prop), Sat (HeapH H (wvC p mb cb) b :: star (CoR b cb mb p ro mv) (MkH b mb st (p == 1)) :: F) w ->
    (∀ w', Sat (HeapH (H.made tag refs size) (wvC p mb cb) b :: star (CoR b cb mb p ro mv) (MkH b mb st (p == 1)) :: F) w' → Tell (wvC p mb cb) "Made" (nextH H.t) w' Q) →
    Calls Tryz.prog 37 #[.pointer (some ⟨b, 0, none⟩), .int .i64 (tag : Int), .int .i64 (refs : Int), .int .i64 (size : Int)] w (Ret (.tuple #[.int .u64 (nextH H.t : Nat), .int .i64 0]) Q) :=
   fun F w Q hs hQ => make_yes hs (makeE_of h1 h3 h2 h4 h5) hQ
  have hok : ∀ n, n = nextH H.t -> CxI M p ro mv (mkS p n (H.made tag refs size)) st (c + 1) /\ okC p (mkS p n (H.made tag refs size)) n /\ ∀ y, okC p H y -> okC p (mkS p n (H.made tag refs size)) y := fun n e => mkS_ok hi e hn hwf
  have e1 : (H.made tag refs size).m.top = H.m.top + 1 + size := by rw [made_top hm]
  have e2 : (H.made tag refs size).m.n = H.m.n := by show (H.m.alloc _).n = _; unfold Am.alloc; cases H.m.op <;> rfl
  have e3 : (H.made tag refs size).t.n = H.t.n := make_n _ _
  have e4 : (H.made tag refs size).t.count = H.t.count + 1 := Hm.count_make hm.tab
  have e5 : (H.made tag refs size).roots = H.roots := rfl
  generalize nextH H.t = x at *
  obtain ⟨g1, g2, g3⟩ := hok x rfl
  clear hok
  generalize H.made tag refs size = H1 at *
  have hk := mkS_sk hwf p x
  refine ⟨(mkS p x H1, st, c + 1), x, hnp, hnu, ?_, g1, g2, g3, rfl, hk.top.trans e1, hk.n.trans e2, ?_, ?_, hk.roots.trans e5, ?_, ?_⟩
  ·unfold Hp.ov; rw [hnl]; rfl
  ·show (mkS p x H1).t.n = _
   rw [hk.t]; exact e3
  ·show (mkS p x H1).t.count = _
   rw [hk.t]; exact e4
  ·show (mkS p x H1).ov = _
   rw [sk_ov hk]; exact hov
  ·intro F w hs
   exact hmk F w _ hs fun w' h' => mk_tell hi hnu h'
 sr := by
  rintro ⟨H, st, c⟩ x i y o hi hm ho hx hio hy hyl
  have hi : CxI M p ro mv H st c := hi
  have hm : H.WF := hm
  have ho : H.ov x = some o := ho
  obtain ⟨q, hl, g1, g2, g3⟩ := ov_some ho
  have hok := look_ok hm hl
  have hil : i < q.w.length := by have := hok.refs; omega
  have hiq : i < q.refs := by omega
  obtain ⟨e1, e2⟩ := setS_ok hi hl hyl (fun _ => hy) (y' := y) (fun _ => rfl) (fun hh => absurd hiq hh)
  have hwf : (H.set x (q.put i y)).WF := set_wf hm hl (by simp [Ob.put]) rfl (Ob.put_ok hok i hyl)
  have hk := lkS_sk (st := st) hwf p y
  have hmay : H.may y = true := by
   unfold Hp.may
   rcases hy with rfl | hy
   ·simp
   ·rw [okC_live hy]; simp
  refine ⟨((lkS p (H.set x (q.put i y)) st y).1, (lkS p (H.set x (q.put i y)) st y).2, c), e1, e2, rfl, by rw [hk.top]; exact set_top hm hl (by simp [Ob.put]), by rw [hk.n]; rfl, by rw [hk.t]; rfl, by rw [hk.roots]; rfl, ?_, ?_⟩
  ·rw [sk_ov hk, ov_set hm hl (by simp [Ob.put])]
   simp only [Ob.put, g1, g2, g3]
  ·intro F w hs
   have hE : Hp.refE H x (i : Int) y = 0 := by simp only [Hp.refE, hl]; rw [if_pos (by omega), if_pos hmay]
   refine (setref_c hs (look_lt hm hl) i hyl (Q := Sat (HeapH (lkS p (H.set x (q.put i y)) st y).1 (wvC p mb cb) b :: star (CoR b cb mb p ro mv) (MkH b mb (lkS p (H.set x (q.put i y)) st y).2 (p == 1)) :: F)) fun _ w' h' => ?_).mono fun e w' ⟨he, h'⟩ => ⟨he.trans (by rw [hE]; rfl), ?_⟩
   ·have e : Hp.setRef H x (i : Int) y = H.set x (q.put i y) := by simp only [Hp.setRef, hl, Int.toNat_natCast]
    rw [e] at h'
    exact lk_tell hi (st_len hi) hyl h'
   ·unfold Post at h'
    rw [if_pos hE] at h'
    exact h'
 sw := by
  rintro ⟨H, st, c⟩ x i y o hi hm ho hx hio hyl
  have hi : CxI M p ro mv H st c := hi
  have hm : H.WF := hm
  have ho : H.ov x = some o := ho
  obtain ⟨q, hl, g1, g2, g3⟩ := ov_some ho
  have hok := look_ok hm hl
  have hil : q.refs + i < q.w.length := by rw [g2, g3]; exact hio
  obtain ⟨e1, e2⟩ := setS_ok hi hl (j := q.refs + i) hyl (fun hh => by omega) (y' := 0) (fun hh => by omega) (fun _ => rfl)
  have e0 : lkS p (H.set x (q.put (q.refs + i) y)) st 0 = (H.set x (q.put (q.refs + i) y), st) := by
   unfold lkS lkM
   split <;> simp
  rw [e0] at e1 e2
  refine ⟨(H.set x (q.put (q.refs + i) y), st, c), e1, e2, rfl, set_top hm hl (by simp [Ob.put]), rfl, rfl, rfl, ?_, ?_⟩
  ·show (H.set x (q.put (q.refs + i) y)).ov = _
   rw [ov_set hm hl (by simp [Ob.put])]
   simp only [Ob.put, g1, g2, g3]
  ·intro F w hs
   have hE : Hp.wordE H x (i : Int) = 0 := by simp only [Hp.wordE, hl]; rw [if_pos (by omega)]
   refine (setword_c hs (look_lt hm hl) i hyl).mono fun e w' ⟨he, h⟩ => ⟨he.trans (by rw [hE]; rfl), ?_⟩
   rw [if_pos hE] at h
   simpa only [Hp.setWord, hl, Int.toNat_natCast] using h
end Go.Proofs.YtpicofkhioalkaaGreat
