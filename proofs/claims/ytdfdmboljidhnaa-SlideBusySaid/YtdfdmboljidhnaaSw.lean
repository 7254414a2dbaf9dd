
/- A collector while others change the heap: what is kept, as data; the collector as a watcher; law11's pick and linked. -/
import Derived.Test.YtdfdmboljidhnaaCg
set_option maxRecDepth 100000
namespace Go.Hm
open Go Go.Lw Go.Wd Go.Am Go.Tb Go.Proofs.Ytdfdmboljidhnaa
variable {H : Hp}
theorem ne10 : (1 : Nat) ≠ 0 := by decide
theorem ne20 : (2 : Nat) ≠ 0 := by decide
theorem ne21 : (2 : Nat) ≠ 1 := by decide
/-- what this collection leaves. -/
def svC (d : Cd) (x : Nat) : Prop := if d.ph = 1 then isM d.H x = true else sv d.H x
theorem svC_step {B n : Nat} {d : Cd} (hB : B + 2 < 4294967296) (h : Ci B d) (h0 : d.ph ≠ 0) {x : Nat} (hx : svC d x) (hp : (stepC n d).1.ph ≠ 0) : svC (stepC n d).1 x := by
  unfold stepC at hp ⊢
  by_cases hc : d.ph = 1 ∧ d.st ≠ []
  · rw [if_pos hc] at hp ⊢
    unfold svC at hx ⊢
    rw [if_pos hc.1] at hx
    rw [if_pos rfl]
    exact units_mono n (s := (d.H, d.st)) h.wf hx
  · rw [if_neg hc] at hp ⊢
    obtain ⟨g1, g2, g3, g4, g5, g6⟩ := open_ok h h0 (fun e => Classical.byContradiction fun hh => hc ⟨e, hh⟩)
    have h1 : sv (openC d).H x := by
      unfold svC at hx
      by_cases e : d.ph = 1
      · rw [if_pos e] at hx
        unfold openC
        rw [if_pos e]
        exact (opened_sv h.wf (h.ph1 e).2.1 x).2 hx
      · rw [if_neg e] at hx
        unfold openC
        rw [if_neg e]
        exact hx
    unfold slC at hp ⊢
    split at hp
    · rename_i hle
      rw [if_pos hle]
      unfold svC
      rw [if_neg ne21]
      exact ((many hB n (openC d).mv g4 g1.ci.gd).sv x).2 h1
    · exact absurd rfl hp
theorem set_low_osz (h : H.WF) {x : Nat} {o o' : Ob} (hl : H.look x = some o) (hw : o'.w.length = o.w.length) : osz (H.set x o').m.low = osz H.m.low := by
  obtain ⟨_, h2⟩ := look_some h hl
  unfold Hp.set Am.set
  dsimp only
  rcases h.am.find_cases h2 with ⟨h1, _⟩ | ⟨h1, _⟩
  · exact osz_setL h1 hw
  · rw [findL_none_set h1]
theorem sv_set (h : H.WF) {x : Nat} {o o' : Ob} (hl : H.look x = some o) (hw : o'.w.length = o.w.length) (hm : o'.mark = o.mark) (z : Nat) : sv (H.set x o') z ↔ sv H z := by
  unfold sv
  rw [set_look h hl hw, set_low_osz h hl hw, set_place]
  by_cases e : z = x
  · subst e
    rw [if_pos rfl, hl]
    constructor
    · rintro ⟨p, hp, a⟩
      cases hp
      exact ⟨o, rfl, by rw [← hm]; exact a⟩
    · rintro ⟨p, hp, a⟩
      cases hp
      exact ⟨o', rfl, by rw [hm]; exact a⟩
  · rw [if_neg e]
theorem Sl.set (h : Sl H) {x : Nat} {o o' : Ob} (hl : H.look x = some o) (hw : o'.w.length = o.w.length) (ho : o'.owner = o.owner) (hok : o'.Ok) (hm : o'.mark = o.mark) (hr : ∀ y ∈ o'.w.take o'.refs, y ∈ o.w.take o.refs ∨ y = 0 ∨ sv H y) : Sl (H.set x o') := by
  have hv := sv_set h.wf hl hw hm
  refine ⟨set_wf h.wf hl hw ho hok, h.op, fun p hp => ?_, fun y hy => (h.roots y hy).imp id (hv y).2, fun z hz y hy => ?_⟩
  · obtain ⟨_, h2⟩ := look_some h.wf hl
    unfold Hp.set Am.set at hp
    dsimp only at hp
    rcases h.wf.am.find_cases h2 with ⟨h1, _⟩ | ⟨h1, _⟩
    · rcases setL_mem hp with a | a
      · rw [a, hm]; exact h.low o (findL_mem h1)
      · exact h.low p a
    · rw [findL_none_set h1] at hp
      exact h.low p hp
  · have hz2 := (hv z).1 hz
    unfold refsOf at hy
    rw [set_look h.wf hl hw] at hy
    by_cases e : z = x
    · rw [if_pos e] at hy
      rcases hr y hy with a | a | a
      · refine (h.refs x (by rw [← e]; exact hz2) y ?_).imp id (hv y).2
        unfold refsOf; rw [hl]; exact a
      · exact .inl a
      · exact .inr ((hv y).2 a)
    · rw [if_neg e] at hy
      exact (h.refs z hz2 y hy).imp id (hv y).2
theorem Sl.rooted (h : Sl H) {i y : Nat} (hy : y = 0 ∨ sv H y) (hu : y < 18446744073709551616) : Sl (H.rooted i y) := by
  refine ⟨rooted_wf h.wf hu, h.op, h.low, fun z hz => ?_, h.refs⟩
  rcases List.mem_or_eq_of_mem_set hz with a | a
  · exact h.roots z a
  · rw [a]; exact hy
theorem made_place (h : H.WF) (hf : ¬ H.t.full) {z : Nat} {p : Ob} (hp : H.look z = some p) (hne : z ≠ nextH H.t) (a b c : Nat) : (H.made a b c).place z = H.place z := by
  obtain ⟨h1, _⟩ := look_some h hp
  have e : (H.made a b c).place z = match (H.t.make H.m.top).find z with | some i => (H.t.make H.m.top).atOf i | none => 0 := rfl
  rw [e, find_make h.tab hf, if_neg hne, h1]
  unfold Hp.place
  rw [h1]
  dsimp only
  rw [at_make h.tab, if_neg]
  intro e2
  obtain ⟨_, s, g1, g2, _⟩ := tfind_iff.1 h1
  rw [e2] at g1
  have := next_free h.tab g1
  rw [this] at g2; cases g2
theorem made_nplace (h : H.WF) (hf : ¬ H.t.full) (a b c : Nat) {x : Nat} (hx : x = nextH H.t) : (H.made a b c).place x = H.m.top := by
  have hfd : (H.made a b c).t.find x = some H.t.nextSlot := (find_make h.tab hf x).trans (if_pos hx)
  have ha : (H.made a b c).t.atOf H.t.nextSlot = H.m.top := (at_make h.tab H.t.nextSlot).trans (if_pos rfl)
  unfold Hp.place
  rw [hfd]
  exact ha
theorem made_m2 (hop : H.m.op = true) (a b c : Nat) : (H.made a b c).m = ⟨H.m.n, H.m.low, H.m.high ++ [Fresh a b c H.t.nextSlot], H.m.hi, true⟩ := by
  show H.m.alloc _ = _
  unfold Am.alloc
  cases hop2 : H.m.op with
  | false => rw [hop2] at hop; cases hop
  | true => rfl
theorem Sl.made (h : Sl H) {n : Nat} (hn : n = nextH H.t) (hf : ¬ H.t.full) {a b c : Nat} (hwf : (H.made a b c).WF) : Sl ((H.made a b c).paint n true) ∧ (∀ z, sv H z → sv ((H.made a b c).paint n true) z) ∧ sv ((H.made a b c).paint n true) n := by
  have hlk : ∀ y, (H.made a b c).look y = if y = n then some (Fresh a b c H.t.nextSlot) else H.look y := fun y => by rw [hn]; exact made_look h.wf hf y
  have hnone : H.look n = none := by rw [hn]; exact next_look h.wf hf
  have hpl : ∀ {z : Nat} {p : Ob}, H.look z = some p → z ≠ n → (H.made a b c).place z = H.place z := fun {z} {p} hp hne => made_place h.wf hf hp (by rw [← hn]; exact hne) a b c
  have hnp := made_nplace h.wf hf a b c hn
  have hm := made_m2 h.op a b c
  have hroots : (H.made a b c).roots = H.roots := rfl
  clear hn
  have hln : (H.made a b c).look n = some (Fresh a b c H.t.nextSlot) := by rw [hlk, if_pos rfl]
  have hlo : ∀ z, z ≠ n → (H.made a b c).look z = H.look z := fun z hz => by rw [hlk, if_neg hz]
  have hlow : (H.made a b c).m.low = H.m.low := by rw [hm]
  have hop1 : (H.made a b c).m.op = true := by rw [hm]
  have htop := h.wf.am.low_le
  generalize H.made a b c = H1 at *
  have hpe : H1.paint n true = H1.set n ((Fresh a b c H.t.nextSlot).paint true) := by unfold Hp.paint; rw [hln]
  have hk := paint_sk hwf n true
  have hpw := paint_wf hwf n true
  have hplk := paint_look hwf n true
  have hlow2 : (H1.paint n true).m.low = H.m.low := by
    rw [hpe]
    unfold Hp.set Am.set
    dsimp only
    rw [findL_none_set (findL_above (by rw [hnp, hlow]; omega)), hlow]
  have hpp : ∀ z, (H1.paint n true).place z = H1.place z := fun z => by rw [hpe]; rfl
  have svn : sv (H1.paint n true) n := ⟨(Fresh a b c H.t.nextSlot).paint true, by rw [hplk, if_pos rfl, hln]; rfl, .inl rfl⟩
  have svo : ∀ z, sv H z → sv (H1.paint n true) z := fun z hz => by
    obtain ⟨p, hp, q⟩ := hz
    have hne : z ≠ n := fun e => by rw [e, hnone] at hp; cases hp
    refine ⟨p, by rw [hplk, if_neg hne, hlo z hne]; exact hp, ?_⟩
    rw [hpp, hpl hp hne, hlow2]
    exact q
  have svb : ∀ z, sv (H1.paint n true) z → z = n ∨ sv H z := fun z hz => by
    by_cases e : z = n
    · exact .inl e
    · obtain ⟨p, hp, q⟩ := hz
      rw [hplk, if_neg e, hlo z e] at hp
      rw [hpp, hpl hp e, hlow2] at q
      exact .inr ⟨p, hp, q⟩
  refine ⟨⟨hpw, hk.op.trans hop1, fun o ho => ?_, fun y hy => ?_, fun x hx y hy => ?_⟩, svo, svn⟩
  · rw [hlow2] at ho; exact h.low o ho
  · rw [hk.roots, hroots] at hy
    exact (h.roots y hy).imp id (svo y)
  · rw [hk.refs] at hy
    rcases svb x hx with e | e
    · unfold refsOf at hy
      rw [e, hln] at hy
      have hy : y ∈ (List.replicate c 0).take b := hy
      exact .inl (List.eq_of_mem_replicate (List.mem_of_mem_take hy))
    · have hne : x ≠ n := fun e2 => by
        obtain ⟨p, hp, _⟩ := e
        rw [e2, hnone] at hp; cases hp
      have hy2 : y ∈ refsOf H x := by unfold refsOf at hy ⊢; rw [hlo x hne] at hy; exact hy
      exact (h.refs x e y hy2).imp id (svo y)
theorem gd_made2 {B : Nat} (hm : H.WF) (h : Gd B H) (a b c : Nat) : Gd (B + 2) (H.made a b c) := by
  have e : (H.made a b c).m.low.length + (H.made a b c).m.high.length = H.m.low.length + H.m.high.length + 1 := by
    show (H.m.alloc _).low.length + (H.m.alloc _).high.length = _
    unfold Am.alloc
    cases H.m.op with
    | true => simp only [cond_true, List.length_append, List.length_cons, List.length_nil]; omega
    | false => simp only [cond_false, List.length_append, List.length_cons, List.length_nil]; omega
  refine ⟨?_, ?_⟩
  · rw [made_count hm.tab, e, h.cnt]
  · have := tot_make hm.tab H.m.top
    have := h.tot
    show tot (H.t.make H.m.top) ≤ _
    omega
/-- what is kept while others change the heap. -/
structure Dz (B A : Nat) (d : Cd) (hs : List Nat) : Prop where
  ci : Ci B d
  pk : Pk d
  ne : d.ph ≠ 0
  new : ∀ j x, A ≤ j → hs[j]? = some x → svC d x
theorem ci_mono {B B' : Nat} {d : Cd} (h : Ci B d) (hb : B ≤ B') : Ci B' d := ⟨h.wf, h.gd.mono hb, h.ph⟩
theorem fit_of {H : Hp} {d : Dd} (hE : Hp.makeE H d.i d.j d.y = 0) (hm : H.WF) : (1 ≤ d.i.toNat ∧ d.i.toNat ≤ 255) ∧ d.j.toNat ≤ d.y.toNat ∧ d.y.toNat ≤ 4096 ∧ ¬ H.t.full ∧ H.m.top + 1 + d.y.toNat ≤ H.m.n := by
  unfold Hp.makeE at hE
  have hfit : 1 ≤ d.i ∧ d.i ≤ 255 ∧ 0 ≤ d.y ∧ d.y ≤ 4096 ∧ 0 ≤ d.j ∧ d.j ≤ d.y := by
    by_cases hh : 1 ≤ d.i ∧ d.i ≤ 255 ∧ 0 ≤ d.y ∧ d.y ≤ 4096 ∧ 0 ≤ d.j ∧ d.j ≤ d.y
    · exact hh
    · rw [if_neg hh] at hE; cases hE
  rw [if_pos hfit] at hE
  have hroom : ¬ ((H.m.n : Int) < H.m.top + 1 + d.y ∨ H.t.count = H.t.n) := fun hh => by rw [if_pos hh] at hE; cases hE
  have hcl := count_le hm.tab
  have hc1 : H.t.count ≠ H.t.n := fun hh => hroom (.inr hh)
  have h1 : ¬ ((H.m.n : Int) < H.m.top + 1 + d.y) := fun hh => hroom (.inl hh)
  exact ⟨by omega, by omega, by omega, not_full hm (by omega), by omega⟩
/-- what holds behind a deed. -/
structure Dy (B A : Nat) (d d' : Cd) (hs hs' : List Nat) : Prop where
  dz : Dz (B + 2) A d' hs'
  mv : mvB d' ≤ mvB d + 1
  ro : roB d' = roB d
  len : hs'.length ≤ hs.length + 1
theorem mvB_rw {c c' : Cd} (hp : c'.ph = c.ph) (hm : c'.mv = c.mv) (h : Rw c.H c'.H) : mvB c' = mvB c := by
  obtain ⟨h1, h2⟩ := h.lens
  unfold mvB
  rw [hp, hm, h1, h2]
theorem mvB_made {c c' : Cd} (hp : c'.ph = c.ph) (hm : c'.mv = c.mv) (h : c'.H.m.low.length + c'.H.m.high.length ≤ c.H.m.low.length + c.H.m.high.length + 1) (h2 : c'.H.m.high.length ≤ c.H.m.high.length + 1) : mvB c' ≤ mvB c + 1 := by
  unfold mvB
  rw [hp, hm]
  split
  · omega
  · split <;> omega
theorem made_lens (a b c : Nat) : (H.made a b c).m.low.length + (H.made a b c).m.high.length ≤ H.m.low.length + H.m.high.length + 1 ∧ (H.made a b c).m.high.length ≤ H.m.high.length + 1 := by
  show (H.m.alloc _).low.length + (H.m.alloc _).high.length ≤ _ ∧ (H.m.alloc _).high.length ≤ _
  unfold Am.alloc
  cases H.m.op with
  | true => simp only [cond_true, List.length_append, List.length_cons, List.length_nil]; omega
  | false => simp only [cond_false, List.length_append, List.length_cons, List.length_nil]; omega
section
variable {B A : Nat} {d : Cd} {hs : List Nat} {dd : Dd}
theorem Dy.same (h : Dz B A d hs) : Dy B A d d hs hs := ⟨⟨ci_mono h.ci (by omega), h.pk, h.ne, h.new⟩, Nat.le_succ _, rfl, Nat.le_succ _⟩
theorem new_app {n : Nat} {d' : Cd} (h : ∀ j x, A ≤ j → hs[j]? = some x → svC d x) (hm : ∀ x, svC d x → svC d' x) (hn : svC d' n) : ∀ j x, A ≤ j → (hs ++ [n])[j]? = some x → svC d' x := by
  intro j x hj hx
  rcases Nat.lt_trichotomy j hs.length with g | g | g
  · rw [List.getElem?_append_left g] at hx
    exact hm x (h j x hj hx)
  · subst g
    rw [List.getElem?_append_right (Nat.le_refl _), Nat.sub_self] at hx
    cases hx
    exact hn
  · rw [List.getElem?_append_right (by omega)] at hx
    have : j - hs.length = (j - hs.length - 1) + 1 := by omega
    rw [this] at hx
    simp at hx
/-- a link of any kind while marking. -/
theorem dz_nr (h : Dz B A d hs) (hp : d.ph = 1) {H1 : Hp} {y : Nat} (hN : Nr d.H H1 y) (hr : Rw d.H H1) (ho : H1.m.op = false) (hc : H1.Closed) : Dy B A d ⟨(lkM (H1, d.st) y).1, (lkM (H1, d.st) y).2, 1, d.ro, d.mv⟩ hs hs := by
  obtain ⟨q1, q2, q3⟩ := h.ci.ph1 hp
  obtain ⟨h1, h2, h3⟩ := nr_lk hN q1
  have hr2 : Rw H1 (lkM (H1, d.st) y).1 := by
    unfold lkM
    split
    · exact .refl _
    · exact lnk_rw (s := (H1, d.st)) hN.wf y
  have hk : Sk H1 (lkM (H1, d.st) y).1 := by
    unfold lkM
    split
    · exact Sk.refl _
    · exact lnk_sk (s := (H1, d.st)) hN.wf y
  refine ⟨⟨⟨h1.wf, ((hr.trans hr2).gd h.ci.gd).mono (by omega), .inr (.inl ⟨rfl, h1, hk.op.trans ho, hk.closed hc⟩)⟩, fun _ => ?_, ne10, fun j x hj hx => ?_⟩, ?_, ?_, Nat.le_succ _⟩
  · have := h.pk hp
    have e : pot ((lkM (H1, d.st) y).1, (lkM (H1, d.st) y).2) = pot (lkM (H1, d.st) y) := rfl
    show pot ((lkM (H1, d.st) y).1, (lkM (H1, d.st) y).2) ≤ 1048576
    omega
  · have := h.new j x hj hx
    unfold svC at this ⊢
    rw [if_pos hp] at this
    rw [if_pos rfl]
    exact h3 x this
  · exact Nat.le_trans (Nat.le_of_eq (mvB_rw hp.symm rfl (hr.trans hr2))) (Nat.le_succ _)
  · unfold roB
    dsimp only
    rw [hp]
/-- a link of any kind while sliding. -/
theorem dz_sl (h : Dz B A d hs) (hp : d.ph = 2) {H1 : Hp} (hS : Sl H1) (hr : Rw d.H H1) (hv : ∀ z, sv d.H z → sv H1 z) : Dy B A d ⟨H1, [], 2, d.ro, d.mv⟩ hs hs := by
  refine ⟨⟨⟨hS.wf, (hr.gd h.ci.gd).mono (by omega), .inr (.inr ⟨rfl, rfl, hS⟩)⟩, pk0 ne21, ne20, fun j x hj hx => ?_⟩, ?_, ?_, Nat.le_succ _⟩
  · have := h.new j x hj hx
    unfold svC at this ⊢
    rw [if_neg (by omega)] at this
    rw [if_neg ne21]
    exact hv x this
  · exact Nat.le_trans (Nat.le_of_eq (mvB_rw hp.symm rfl hr)) (Nat.le_succ _)
  · unfold roB
    dsimp only
    rw [hp]
theorem dz_play1 {mb b : Nat} (h : Dz B A d hs) (hp : d.ph = 1) (hlive : ∀ x, x ∈ hs → (d.H.look x).isSome = true) (hw : dd.w < 18446744073709551616) :
    Dy B A d ⟨(playF (Wt.mark mb b) d.H d.st hs dd).1, (playF (Wt.mark mb b) d.H d.st hs dd).2.1, 1, d.ro, d.mv⟩ hs (playF (Wt.mark mb b) d.H d.st hs dd).2.2 := by
  obtain ⟨q1, q2, q3⟩ := h.ci.ph1 hp
  have hm := h.ci.wf
  have same : Dy B A d ⟨d.H, d.st, 1, d.ro, d.mv⟩ hs hs := by
    have := Dy.same h
    obtain ⟨H, st, ph, ro, mv⟩ := d
    have hp : ph = 1 := hp
    subst hp
    exact this
  have hlk : ∀ H' y, (Wt.mark mb b).lk H' d.st y = lkM (H', d.st) y := fun H' y => by unfold Wt.lk lkM; split <;> rfl
  have hyl : pickN hs dd.y = 0 ∨ (d.H.look (pickN hs dd.y)).isSome = true := by
    by_cases e : pickN hs dd.y = 0
    · exact .inl e
    · exact .inr (hlive _ (pickN_mem e))
  have hyu : pickN hs dd.y < 18446744073709551616 := by
    rcases hyl with e | e
    · rw [e]; omega
    · obtain ⟨o, ho⟩ := Option.isSome_iff_exists.1 e; exact look_lt hm ho
  have hmy : d.H.may (pickN hs dd.y) = true := by
    unfold Hp.may
    rcases hyl with e | e
    · simp [e]
    · simp [e]
  unfold playF
  split
  · split
    · rename_i _ hE
      obtain ⟨f1, f2, f3, f4, f5⟩ := fit_of hE hm
      have hwf := made_wf hm (tag := dd.i.toNat) (refs := dd.j.toNat) (size := dd.y.toNat) f1 f2 f3 f4 f5
      obtain ⟨h1, h2, h3, h4⟩ := made_lk hm f4 q2 q1 hwf
      have hgd := gd_made2 hm h.ci.gd dd.i.toNat dd.j.toNat dd.y.toNat
      have hcl := closed_made hm q3 f4 (tag := dd.i.toNat) (refs := dd.j.toNat) (size := dd.y.toNat)
      have hop : (d.H.made dd.i.toNat dd.j.toNat dd.y.toNat).m.op = false := by
        show (d.H.m.alloc _).op = false
        unfold Am.alloc
        rw [q2]
        rfl
      obtain ⟨e1, e2⟩ := made_lens (H := d.H) dd.i.toNat dd.j.toNat dd.y.toNat
      have hk := paint_sk hwf (nextH d.H.t) true
      have hr := paint_rw hwf (nextH d.H.t) true
      obtain ⟨r1, r2⟩ := hr.lens
      show Dy B A d ⟨(d.H.made dd.i.toNat dd.j.toNat dd.y.toNat).paint (nextH d.H.t) true, d.st, 1, d.ro, d.mv⟩ hs (hs ++ [nextH d.H.t])
      refine ⟨⟨⟨h1.wf, hr.gd hgd, .inr (.inl ⟨rfl, h1, hk.op.trans hop, hk.closed hcl⟩)⟩, fun _ => by dsimp only; rw [h2]; exact h.pk hp, ne10, new_app h.new (fun x hx => ?_) ?_⟩, mvB_made hp.symm rfl ?_ ?_, ?_, by simp⟩
      · unfold svC at hx ⊢
        rw [if_pos hp] at hx
        rw [if_pos rfl]
        exact h3 x hx
      · unfold svC
        rw [if_pos rfl]
        exact h4
      · dsimp only; rw [r1, r2]; exact e1
      · dsimp only; rw [r2]; exact e2
      · unfold roB
        dsimp only
        rw [hp]
    · exact same
  · split
    · split
      · rename_i hE
        show Dy B A d ⟨((Wt.mark mb b).lk _ d.st _).1, ((Wt.mark mb b).lk _ d.st _).2, 1, d.ro, d.mv⟩ hs hs
        rw [hlk]
        unfold Hp.refE at hE
        unfold Hp.setRef
        split at hE
        · cases hE
        · rename_i o ho
          rw [ho]
          have hwf : (d.H.set (pickN hs dd.x) (o.put dd.i.toNat (pickN hs dd.y))).WF := set_wf hm ho (by simp [Ob.put]) rfl (Ob.put_ok (look_ok hm ho) _ hyu)
          exact dz_nr h hp (nr_put hm ho hwf) (rw_set (o' := o.put dd.i.toNat (pickN hs dd.y)) hm ho rfl) q2 (closed_put hm q3 ho fun _ => hmy)
      · exact same
    · split
      · split
        · unfold Hp.setWord
          split
          · rename_i o ho
            have hwf : (d.H.set (pickN hs dd.x) (o.put (o.refs + dd.i.toNat) dd.w)).WF := set_wf hm ho (by simp [Ob.put]) rfl (Ob.put_ok (look_ok hm ho) _ hw)
            exact dz_nr h hp (nr_word hm ho hwf) (rw_set (o' := o.put (o.refs + dd.i.toNat) dd.w) hm ho rfl) q2 (closed_put hm q3 ho fun e => by omega)
          · exact same
        · exact same
      · split
        · split
          · show Dy B A d ⟨((Wt.mark mb b).lk _ d.st _).1, ((Wt.mark mb b).lk _ d.st _).2, 1, d.ro, d.mv⟩ hs hs
            rw [hlk]
            exact dz_nr h hp (nr_root (rooted_wf hm hyu)) ⟨rfl, rfl, rfl⟩ q2 (closed_rooted q3 hmy)
          · exact same
        · exact same
end
end Go.Hm
namespace Go.Proofs.Ytdfdmboljidhnaa
open Go Go.Lw Go.Wd Go.Am Go.Tb Go.Hm
theorem co_made_m (cb : Nat) (w : World) : (method (Try.prog.types.size + Made.depth) 27 (.pointer (some ⟨cb, 0, none⟩)) "Made").run Try.prog w = .ok (125, .pointer (some ⟨cb, 0, none⟩)) w := by kernel_rfl
theorem co_linked_m (cb : Nat) (w : World) : (method (Try.prog.types.size + Made.depth) 27 (.pointer (some ⟨cb, 0, none⟩)) "Linked").run Try.prog w = .ok (124, .pointer (some ⟨cb, 0, none⟩)) w := by kernel_rfl
section
variable {H : Hp} {v : Value} {b cb mb ro mv : Nat} {F : List HP} {w : World}
theorem smade_c (hs : Sat (HeapH H v b :: star (CoR b cb mb 2 ro mv) (MkH b mb [] false) :: F) w) {x : Nat} (hx : x < 18446744073709551616) : Calls Try.prog 125 #[.pointer (some ⟨cb, 0, none⟩), .int .u64 (x : Int)] w
    (Ret (.tuple #[]) (Sat (HeapH (H.paint x true) v b :: star (CoR b cb mb 2 ro mv) (MkH b mb [] false) :: F))) := by
  refine S_slide_Collector_Made_ok _ _ _ _ ?_
  unfold S_slide_Collector_Made
  simp only [onSome_some]
  have h1 : Sat (CoR b cb mb 2 ro mv :: MkH b mb [] false :: HeapH H v b :: F) w := hs.p1.split
  refine LdP.of h1 0 rfl (off := 1) rfl (add_mk _ _ _) ?_
  have h2 : Sat (HeapH H v b :: MkH b mb [] false :: CoR b cb mb 2 ro mv :: F) w := (h1.pull 1 rfl).pull 2 rfl
  refine (mmade_c h2 hx).mono ?_
  rintro e w1 ⟨rfl, h3⟩
  refine ⟨rfl, rfl, ?_⟩
  exact Sat.p1 (Sat.join ((Sat.pull h3 1 rfl).pull 2 rfl))
theorem slinked_c (hs : Sat F w) {x : Int} : Calls Try.prog 124 #[.pointer (some ⟨cb, 0, none⟩), .int .u64 x] w (Ret (.tuple #[]) (Sat F)) := by
  refine S_slide_Collector_Linked_ok _ _ _ _ ?_
  unfold S_slide_Collector_Linked
  exact ⟨rfl, hs⟩
end
/-- a collector that watches. -/
def Wt.slide (ro mv cb mb b : Nat) : Wt (coW cb) b Unit where
  at_ := fun _ => star (CoR b cb mb 2 ro mv) (MkH b mb [] false)
  inv := fun _ _ => True
  fin := fun _ _ => True
  inv_fin := fun _ => trivial
  made := fun H s x => (H.paint x true, s)
  link := fun H s _ => (H, s)
  inv_set := fun h _ _ => h
  inv_root := fun h => h
  made_ok := fun {H s tag refs size} hi hm hf hwf => ⟨sk_sm (paint_sk hwf _ true), trivial, fun F w h => ⟨false, rfl, _, _, _, _, rfl, co_made_m cb, by kernel_rfl, smade_c h (next_u64 hm hf)⟩⟩
  link_ok := fun {H s y} hi hm hl => ⟨Sm.refl _, trivial, fun F w h => ⟨false, rfl, _, _, _, _, rfl, co_linked_m cb, by kernel_rfl, slinked_c h⟩⟩
section
variable {B A : Nat} {d : Cd} {hs : List Nat} {dd : Dd}
theorem dz_play2 {ro mv cb mb b : Nat} (h : Dz B A d hs) (hp : d.ph = 2) (hlive : ∀ x, x ∈ hs → (d.H.look x).isSome = true) (hw : dd.w < 18446744073709551616)
    (hlk : 3 ≤ dd.d → dd.d ≤ 7 → dd.d ≠ 5 → pickN hs dd.y = 0 ∨ sv d.H (pickN hs dd.y)) :
    Dy B A d ⟨(playF (Wt.slide ro mv cb mb b) d.H () hs dd).1, [], 2, d.ro, d.mv⟩ hs (playF (Wt.slide ro mv cb mb b) d.H () hs dd).2.2 := by
  obtain ⟨q1, q2, q3⟩ := h.ci.ph2 h.ne (by omega)
  have hm := h.ci.wf
  have same : Dy B A d ⟨d.H, [], 2, d.ro, d.mv⟩ hs hs := by
    have := Dy.same h
    obtain ⟨H, st, ph, ro, mv⟩ := d
    have hp : ph = 2 := hp
    have q2 : st = [] := q2
    subst hp q2
    exact this
  have hlk2 : ∀ H' y, (Wt.slide ro mv cb mb b).lk H' () y = (H', ()) := fun H' y => by unfold Wt.lk; split <;> rfl
  have hyl : pickN hs dd.y = 0 ∨ (d.H.look (pickN hs dd.y)).isSome = true := by
    by_cases e : pickN hs dd.y = 0
    · exact .inl e
    · exact .inr (hlive _ (pickN_mem e))
  have hyu : pickN hs dd.y < 18446744073709551616 := by
    rcases hyl with e | e
    · rw [e]; omega
    · obtain ⟨o, ho⟩ := Option.isSome_iff_exists.1 e; exact look_lt hm ho
  unfold playF
  by_cases d2 : dd.d ≤ 2
  · rw [if_pos d2]
    by_cases hE : Hp.makeE d.H dd.i dd.j dd.y = 0
    · rw [if_pos hE]
      obtain ⟨f1, f2, f3, f4, f5⟩ := fit_of hE hm
      have hwf := made_wf hm (tag := dd.i.toNat) (refs := dd.j.toNat) (size := dd.y.toNat) f1 f2 f3 f4 f5
      obtain ⟨h1, h3, h4⟩ := q3.made (n := nextH d.H.t) rfl f4 hwf
      have hgd := gd_made2 hm h.ci.gd dd.i.toNat dd.j.toNat dd.y.toNat
      obtain ⟨e1, e2⟩ := made_lens (H := d.H) dd.i.toNat dd.j.toNat dd.y.toNat
      have hr := paint_rw hwf (nextH d.H.t) true
      obtain ⟨r1, r2⟩ := hr.lens
      show Dy B A d ⟨(d.H.made dd.i.toNat dd.j.toNat dd.y.toNat).paint (nextH d.H.t) true, [], 2, d.ro, d.mv⟩ hs (hs ++ [nextH d.H.t])
      refine ⟨⟨⟨h1.wf, hr.gd hgd, .inr (.inr ⟨rfl, rfl, h1⟩)⟩, pk0 ne21, ne20, new_app h.new (fun x hx => ?_) ?_⟩, mvB_made hp.symm rfl ?_ ?_, ?_, by simp⟩
      · unfold svC at hx ⊢
        rw [if_neg (by omega)] at hx
        rw [if_neg ne21]
        exact h3 x hx
      · unfold svC
        rw [if_neg ne21]
        exact h4
      · dsimp only; rw [r1, r2]; exact e1
      · dsimp only; rw [r2]; exact e2
      · unfold roB
        dsimp only
        rw [hp]
    · rw [if_neg hE]; exact same
  rw [if_neg d2]
  by_cases d4 : dd.d ≤ 4
  · rw [if_pos d4]
    by_cases hE : Hp.refE d.H (pickN hs dd.x) dd.i (pickN hs dd.y) = 0
    · rw [if_pos hE]
      have hy := hlk (by omega) (by omega) (by omega)
      show Dy B A d ⟨((Wt.slide ro mv cb mb b).lk _ () _).1, [], 2, d.ro, d.mv⟩ hs hs
      rw [hlk2]
      unfold Hp.refE at hE
      unfold Hp.setRef
      split at hE
      · cases hE
      · rename_i o ho
        rw [ho]
        have hwl : (o.put dd.i.toNat (pickN hs dd.y)).w.length = o.w.length := by simp [Ob.put]
        refine dz_sl h hp (q3.set ho hwl rfl (Ob.put_ok (look_ok hm ho) _ hyu) rfl fun y hy2 => ?_) (rw_set (o' := o.put dd.i.toNat (pickN hs dd.y)) hm ho rfl) fun z => (sv_set hm ho hwl rfl z).2
        have hy2 : y ∈ (o.w.set dd.i.toNat (pickN hs dd.y)).take o.refs := hy2
        rw [List.take_set] at hy2
        rcases List.mem_or_eq_of_mem_set hy2 with a | a
        · exact .inl a
        · rw [a]; exact .inr hy
    · rw [if_neg hE]; exact same
  rw [if_neg d4]
  by_cases d5 : dd.d = 5
  · rw [if_pos d5]
    by_cases hE : Hp.wordE d.H (pickN hs dd.x) dd.i = 0
    · rw [if_pos hE]
      show Dy B A d ⟨Hp.setWord d.H (pickN hs dd.x) dd.i dd.w, [], 2, d.ro, d.mv⟩ hs hs
      unfold Hp.setWord
      split
      · rename_i o ho
        have hwl : (o.put (o.refs + dd.i.toNat) dd.w).w.length = o.w.length := by simp [Ob.put]
        refine dz_sl h hp (q3.set ho hwl rfl (Ob.put_ok (look_ok hm ho) _ hw) rfl fun y hy2 => ?_) (rw_set (o' := o.put (o.refs + dd.i.toNat) dd.w) hm ho rfl) fun z => (sv_set hm ho hwl rfl z).2
        have hy2 : y ∈ (o.w.set (o.refs + dd.i.toNat) dd.w).take o.refs := hy2
        rw [List.take_set, List.set_eq_of_length_le (by rw [List.length_take]; omega)] at hy2
        exact .inl hy2
      · exact same
    · rw [if_neg hE]; exact same
  rw [if_neg d5]
  by_cases d7 : dd.d ≤ 7
  · rw [if_pos d7]
    by_cases hE : Hp.rootE d.H dd.i (pickN hs dd.y) = 0
    · rw [if_pos hE]
      have hy := hlk (by omega) d7 d5
      show Dy B A d ⟨((Wt.slide ro mv cb mb b).lk _ () _).1, [], 2, d.ro, d.mv⟩ hs hs
      rw [hlk2]
      exact dz_sl h hp (q3.rooted hy hyu) ⟨rfl, rfl, rfl⟩ fun _ a => a
    · rw [if_neg hE]; exact same
  · rw [if_neg d7]; exact same
end
end Go.Proofs.Ytdfdmboljidhnaa
