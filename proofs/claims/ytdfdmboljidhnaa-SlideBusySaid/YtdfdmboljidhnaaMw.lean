
/- A marker that watches: what it does to a heap when it is told; the marking's law behind a deed. -/
import Derived.Test.YtdfdmboljidhnaaMa
set_option maxRecDepth 100000
namespace Go.Proofs.Ytdfdmboljidhnaa
open Go Go.Lw Go.Wd Go.Am Go.Tb Go.Hm
section
variable {H H1 : Hp} {st hs : List Nat}
theorem put_unm (h : H.WF) {x i y : Nat} {o : Ob} (ho : H.look x = some o) : unm (H.set x (o.put i y)) = unm H := by
  unfold unm
  obtain ⟨_, h2⟩ := look_some h ho
  unfold Hp.set
  have hp : (o.put i y).mark = o.mark := rfl
  rcases h.am.find_cases h2 with ⟨h1, _⟩ | ⟨h1, h2, _, _, _⟩
  · have e : H.m.set (H.place x) (o.put i y) = { H.m with low := setL 0 H.m.low (H.place x) (o.put i y) } := by unfold Am.set; simp [h1]
    have := unmL_set (o' := o.put i y) h1
    rw [hp] at this
    simp only [e]
    omega
  · have e : H.m.set (H.place x) (o.put i y) = { H.m with high := setL H.m.hi H.m.high (H.place x) (o.put i y) } := by unfold Am.set; simp [h1, findL_none_set h1]
    have := unmL_set (o' := o.put i y) h2
    rw [hp] at this
    simp only [e]
    omega
theorem made_unm (hop : H.m.op = false) (a b c : Nat) : unm (H.made a b c) = unm H + 1 := by
  have e : (H.made a b c).m = ⟨H.m.n, H.m.low ++ [Fresh a b c H.t.nextSlot], H.m.high, H.m.hi, false⟩ := by
    show H.m.alloc _ = _
    unfold Am.alloc
    cases hop2 : H.m.op with
    | true => rw [hop2] at hop; cases hop
    | false => rfl
  unfold unm
  rw [e]
  simp only [unmL_app, unmL, Fresh]
  simp
  omega
theorem isM_of {a b : Hp} {x : Nat} (h : a.look x = b.look x) : isM a x = isM b x := by unfold isM; rw [h]
/-- 'H1' is 'H' with links to 'y' at most. -/
structure Nr (H H1 : Hp) (y : Nat) : Prop where
  wf : H1.WF
  live : ∀ z, (H1.look z).isSome = (H.look z).isSome
  m : ∀ z, isM H1 z = isM H z
  roots : ∀ z ∈ H1.roots, z ∈ H.roots ∨ z = y
  refs : ∀ z u, u ∈ refsOf H1 z → u ∈ refsOf H z ∨ u = y
  unm : unm H1 = unm H
theorem put_isM (hm : H.WF) {x i y : Nat} {o : Ob} (ho : H.look x = some o) (z : Nat) : isM (H.set x (o.put i y)) z = isM H z := by
  have hw : (o.put i y).w.length = o.w.length := by simp [Ob.put]
  unfold isM
  rw [set_look hm ho hw]
  by_cases e : z = x
  · rw [if_pos e, e, ho]; rfl
  · rw [if_neg e]
theorem nr_put (hm : H.WF) {x i y : Nat} {o : Ob} (ho : H.look x = some o) (hwf : (H.set x (o.put i y)).WF) : Nr H (H.set x (o.put i y)) y := by
  have hw : (o.put i y).w.length = o.w.length := by simp [Ob.put]
  refine ⟨hwf, set_isSome hm ho hw, put_isM hm ho, fun z hz => .inl hz, fun z u hu => ?_, put_unm hm ho⟩
  unfold refsOf at hu ⊢
  rw [set_look hm ho hw] at hu
  by_cases e : z = x
  · rw [if_pos e] at hu
    have hu : u ∈ (o.w.set i y).take o.refs := hu
    rw [e, ho]
    rw [List.take_set] at hu
    exact List.mem_or_eq_of_mem_set hu
  · rw [if_neg e] at hu
    exact .inl hu
theorem nr_word (hm : H.WF) {x i y : Nat} {o : Ob} (ho : H.look x = some o) (hwf : (H.set x (o.put (o.refs + i) y)).WF) : Nr H (H.set x (o.put (o.refs + i) y)) 0 := by
  have hw : (o.put (o.refs + i) y).w.length = o.w.length := by simp [Ob.put]
  refine ⟨hwf, set_isSome hm ho hw, put_isM hm ho, fun z hz => .inl hz, fun z u hu => ?_, put_unm hm ho⟩
  unfold refsOf at hu ⊢
  rw [set_look hm ho hw] at hu
  by_cases e : z = x
  · rw [if_pos e] at hu
    have hu : u ∈ (o.w.set (o.refs + i) y).take o.refs := hu
    rw [e, ho]
    rw [List.take_set, List.set_eq_of_length_le (by rw [List.length_take]; omega)] at hu
    exact .inl hu
  · rw [if_neg e] at hu
    exact .inl hu
theorem nr_root {i y : Nat} (hwf : (H.rooted i y).WF) : Nr H (H.rooted i y) y :=
  ⟨hwf, fun _ => rfl, fun _ => rfl, fun _ hz => List.mem_or_eq_of_mem_set hz, fun _ _ hu => .inl hu, rfl⟩
/-- what is linked is told to the marker. -/
def lkM (s : Ms) (y : Nat) : Ms := if y = 0 then s else lnk s y
theorem nr_lk {y : Nat} (hN : Nr H H1 y) (h : Inv (H, st)) : Inv (lkM (H1, st) y) ∧ pot (lkM (H1, st) y) = pot (H, st) ∧ (∀ z, isM H z = true → isM (lkM (H1, st) y).1 z = true) := by
  have hp : pot (H1, st) = pot (H, st) := by unfold pot; dsimp only; rw [hN.unm]
  unfold lkM
  by_cases hy : y = 0
  · rw [if_pos hy]
    refine ⟨⟨hN.wf, fun x hx => by dsimp only; rw [hN.m]; exact h.stack x hx, fun x hx hl => ?_, fun x hx hn u hu hl => ?_⟩, hp, fun z hz => by dsimp only; rw [hN.m]; exact hz⟩
    · dsimp only at hx hl ⊢
      rw [hN.m]
      rcases hN.roots x hx with a | a
      · exact h.roots x a (by rw [← hN.live]; exact hl)
      · rw [a, hy, look_zero hN.wf] at hl; cases hl
    · dsimp only at hx hu hl ⊢
      rw [hN.m] at hx ⊢
      rcases hN.refs x u hu with a | a
      · exact h.refs x hx hn u a (by rw [← hN.live]; exact hl)
      · rw [a, hy, look_zero hN.wf] at hl; cases hl
  · rw [if_neg hy]
    have hk := lnk_sk (s := (H1, st)) hN.wf y
    have hM := lnk_isM (s := (H1, st)) hN.wf y
    have hS := lnk_stack (s := (H1, st)) y
    have mono : ∀ z, isM H z = true → isM (lnk (H1, st) y).1 z = true := fun z hz => by
      rw [hM z, hN.m, hz]; rfl
    have yes : (H1.look y).isSome = true → isM (lnk (H1, st) y).1 y = true := fun hl => by
      rw [hM y]; dsimp only; rw [hl]; simp
    refine ⟨⟨lnk_wf (s := (H1, st)) hN.wf y, fun x hx => ?_, fun x hx hl => ?_, fun x hx hn u hu hl => ?_⟩, (lnk_pot (s := (H1, st)) hN.wf y).trans hp, mono⟩
    · rcases (hS x).1 hx with a | ⟨rfl, a, _⟩
      · exact mono x (h.stack x a)
      · exact yes a
    · rw [hk.roots] at hx
      rw [hk.isSome] at hl
      dsimp only at hx hl
      rcases hN.roots x hx with a | a
      · exact mono x (h.roots x a (by rw [← hN.live]; exact hl))
      · rw [a] at hl ⊢; exact yes hl
    · rw [hk.refs] at hu
      rw [hk.isSome] at hl
      dsimp only at hu hl
      have hxm : isM H x = true ∧ x ∉ st := by
        have h1 : x ∉ st := fun hh => hn ((hS x).2 (.inl hh))
        refine ⟨?_, h1⟩
        rw [hM x] at hx
        dsimp only at hx
        rw [← hN.m]
        cases hxx : isM H1 x with
        | true => rfl
        | false =>
          rw [hxx] at hx
          simp only [Bool.false_or, Bool.and_eq_true, beq_iff_eq] at hx
          exact absurd ((hS x).2 (.inr ⟨hx.1, hx.2, by rw [← hx.1]; exact hxx⟩)) hn
      rcases hN.refs x u hu with a | a
      · exact mono u (h.refs x hxm.1 hxm.2 u a (by rw [← hN.live]; exact hl))
      · rw [a] at hl ⊢; exact yes hl
theorem made_lk (hm : H.WF) (hf : ¬ H.t.full) (hop : H.m.op = false) (h : Inv (H, st)) {a b c : Nat} (hwf : (H.made a b c).WF) :
    Inv ((H.made a b c).paint (nextH H.t) true, st) ∧ pot ((H.made a b c).paint (nextH H.t) true, st) = pot (H, st) ∧ (∀ z, isM H z = true → isM ((H.made a b c).paint (nextH H.t) true) z = true) ∧ isM ((H.made a b c).paint (nextH H.t) true) (nextH H.t) = true := by
  have hlk := made_look hm (tag := a) (refs := b) (size := c) hf
  have hnone := next_look hm hf
  have hru := made_unm hop a b c
  generalize nextH H.t = n at hlk hnone ⊢
  have hln : (H.made a b c).look n = some (Fresh a b c H.t.nextSlot) := by rw [hlk, if_pos rfl]
  have hlo : ∀ z, z ≠ n → (H.made a b c).look z = H.look z := fun z hz => by rw [hlk, if_neg hz]
  have hun := paint_unm hwf hln rfl
  have hk := paint_sk hwf n true
  have hM := paint_isM hwf n
  have hroots : (H.made a b c).roots = H.roots := rfl
  generalize H.made a b c = H2 at *
  have hMo : ∀ z, z ≠ n → isM (H2.paint n true) z = isM H z := fun z hz => by rw [hM z, if_neg hz]; exact isM_of (hlo z hz)
  have hMn : isM (H2.paint n true) n = true := by rw [hM n, if_pos rfl, hln]; rfl
  have mono : ∀ z, isM H z = true → isM (H2.paint n true) z = true := fun z hz => by
    by_cases e : z = n
    · rw [e]; exact hMn
    · rw [hMo z e]; exact hz
  refine ⟨⟨paint_wf hwf n true, fun x hx => mono x (h.stack x hx), fun x hx hl => ?_, fun x hx hn u hu hl => ?_⟩, ?_, mono, hMn⟩
  · dsimp only at hx hl ⊢
    rw [hk.roots, hroots] at hx
    rw [hk.isSome] at hl
    by_cases e : x = n
    · rw [e]; exact hMn
    · rw [hlo x e] at hl
      exact mono x (h.roots x hx hl)
  · dsimp only at hx hn hu hl ⊢
    rw [hk.refs] at hu
    rw [hk.isSome] at hl
    by_cases e : u = n
    · rw [e]; exact hMn
    by_cases ex : x = n
    · unfold refsOf at hu
      rw [ex, hln] at hu
      have hu : u ∈ (List.replicate c 0).take b := hu
      have := List.eq_of_mem_replicate (List.mem_of_mem_take hu)
      rw [this, look_zero hwf] at hl
      cases hl
    · rw [hMo x ex] at hx
      have hu2 : u ∈ refsOf H x := by unfold refsOf at hu ⊢; rw [hlo x ex] at hu; exact hu
      rw [hlo u e] at hl
      exact mono u (h.refs x hx hn u hu2 hl)
  · unfold pot
    dsimp only
    omega
theorem sk_sm {A B : Hp} (h : Sk A B) : Sm A B := ⟨h.roots, h.t, h.n, h.top, h.op, h.look⟩
theorem mk_made_m (mb : Nat) (w : World) : (method (Try.prog.types.size + Made.depth) 80 (.pointer (some ⟨mb, 0, none⟩)) "Made").run Try.prog w = .ok (126, .pointer (some ⟨mb, 0, none⟩)) w := by kernel_rfl
theorem mk_linked_m (mb : Nat) (w : World) : (method (Try.prog.types.size + Made.depth) 80 (.pointer (some ⟨mb, 0, none⟩)) "Linked").run Try.prog w = .ok (93, .pointer (some ⟨mb, 0, none⟩)) w := by kernel_rfl
/-- a marker that watches. -/
def Wt.mark (mb b : Nat) : Wt (mkW mb) b (List Nat) where
  at_ := fun st => MkH b mb st true
  inv := fun _ st => st.length ≤ 1048576
  fin := fun _ _ => True
  inv_fin := fun _ => trivial
  made := fun H st x => (H.paint x true, st)
  link := fun H st x => lnk (H, st) x
  inv_set := fun h _ _ => h
  inv_root := fun h => h
  made_ok := fun {H s tag refs size} hi hm hf hwf => ⟨sk_sm (paint_sk hwf _ true), trivial, fun F w h => ⟨false, rfl, _, _, _, _, rfl, mk_made_m mb, by kernel_rfl, mmade_c h (next_u64 hm hf)⟩⟩
  link_ok := fun {H s y} hi hm hl => ⟨sk_sm (lnk_sk (s := (H, s)) hm y), trivial, fun F w h => ⟨false, rfl, _, _, _, _, rfl, mk_linked_m mb, by kernel_rfl, mlinked_c h hi (by obtain ⟨o, ho⟩ := Option.isSome_iff_exists.1 hl; exact look_lt hm ho)⟩⟩
/-- what is kept while others change the heap. -/
structure Bz (n k at_ : Nat) (H : Hp) (st hs : List Nat) : Prop where
  inv : Inv (H, st)
  pot : pot (H, st) ≤ 300
  pl : Pl n k H hs
  new : ∀ j x, at_ ≤ j → hs[j]? = some x → isM H x = true
theorem unit_pot {s : Ms} (h : s.1.WF) : pot (unit s) ≤ pot s := by
  by_cases he : s.2 = []
  · rw [unit_nil he]; exact Nat.le_refl _
  · have := (unit_ok h).2.2 he; omega
theorem units_pot : ∀ (m : Nat) {s : Ms}, s.1.WF → pot (units m s) ≤ pot s
  | 0, _, _ => Nat.le_refl _
  | m + 1, s, h => Nat.le_trans (units_pot m (unit_ok h).1) (unit_pot h)
theorem unit_mono {s : Ms} (h : s.1.WF) {x : Nat} (hx : isM s.1 x = true) : isM (unit s).1 x = true := by
  unfold Hm.unit
  split
  · exact hx
  · exact (lnks_isM (s := (s.1, s.2.dropLast)) h x).2 (.inl hx)
theorem units_mono : ∀ (m : Nat) {s : Ms}, s.1.WF → ∀ {x : Nat}, isM s.1 x = true → isM (units m s).1 x = true
  | 0, _, _, _, hx => hx
  | m + 1, s, h, x, hx => units_mono m (unit_ok h).1 (unit_mono h hx)
theorem bz_units {n k at_ : Nat} (h : Bz n k at_ H st hs) (m : Nat) : Bz n k at_ (units m (H, st)).1 (units m (H, st)).2 hs :=
  ⟨h.inv.units m, Nat.le_trans (units_pot m h.inv.wf) h.pot, Pl.units (s := (H, st)) m h.pl, fun j x hj hx => units_mono m h.inv.wf (h.new j x hj hx)⟩
theorem bz_nr {n k at_ : Nat} {y : Nat} (h : Bz n k at_ H st hs) (hN : Nr H H1 y) (hp : Pl n k H1 hs) : Bz n k at_ (lkM (H1, st) y).1 (lkM (H1, st) y).2 hs := by
  obtain ⟨h1, h2, h3⟩ := nr_lk hN h.inv
  refine ⟨h1, by have := h.pot; have e : pot ((lkM (H1, st) y).1, (lkM (H1, st) y).2) = pot (lkM (H1, st) y) := rfl; omega, ?_, fun j x hj hx => h3 x (h.new j x hj hx)⟩
  unfold lkM
  split
  · exact hp
  · exact Pl.lnk (s := (H1, st)) hp y
theorem bz_play {n k at_ mb b : Nat} {d : Dd} (h : Bz n k at_ H st hs) (hat : at_ ≤ hs.length) (hlive : ∀ x, x ∈ hs → (H.look x).isSome = true) (hw : d.w < 18446744073709551616) :
    Bz n k at_ (playF (Wt.mark mb b) H st hs d).1 (playF (Wt.mark mb b) H st hs d).2.1 (playF (Wt.mark mb b) H st hs d).2.2 ∧ ((playF (Wt.mark mb b) H st hs d).2.2 = hs ∨ ∃ x, (playF (Wt.mark mb b) H st hs d).2.2 = hs ++ [x]) := by
  have hm := h.inv.wf
  dsimp only at hm
  have hlk : ∀ H' y, (Wt.mark mb b).lk H' st y = lkM (H', st) y := fun H' y => by unfold Wt.lk lkM; split <;> rfl
  have hyu : pickN hs d.y < 18446744073709551616 := by
    by_cases e : pickN hs d.y = 0
    · rw [e]; omega
    · obtain ⟨o, ho⟩ := Option.isSome_iff_exists.1 (hlive _ (pickN_mem e)); exact look_lt hm ho
  unfold playF
  split
  · split
    · rename_i _ hE
      have hcn := h.pl.cnt
      have hE1 := hE
      unfold Hp.makeE at hE1
      have hfit : 1 ≤ d.i ∧ d.i ≤ 255 ∧ 0 ≤ d.y ∧ d.y ≤ 4096 ∧ 0 ≤ d.j ∧ d.j ≤ d.y := by
        by_cases hh : 1 ≤ d.i ∧ d.i ≤ 255 ∧ 0 ≤ d.y ∧ d.y ≤ 4096 ∧ 0 ≤ d.j ∧ d.j ≤ d.y
        · exact hh
        · rw [if_neg hh] at hE1; cases hE1
      rw [if_pos hfit] at hE1
      have hroom : ¬ ((H.m.n : Int) < H.m.top + 1 + d.y ∨ H.t.count = H.t.n) := fun hh => by rw [if_pos hh] at hE1; cases hE1
      have hcl := count_le hm.tab
      have hc1 : H.t.count ≠ H.t.n := fun hh => hroom (.inr hh)
      have hnf := not_full hm (by omega)
      have hwf := made_wf hm (tag := d.i.toNat) (refs := d.j.toNat) (size := d.y.toNat) (by omega) (by omega) (by omega) hnf (by have : ¬ ((H.m.n : Int) < H.m.top + 1 + d.y) := fun hh => hroom (.inl hh); omega)
      obtain ⟨h1, h2, h3, h4⟩ := made_lk hm hnf h.pl.op h.inv hwf
      refine ⟨⟨h1, ?_, (h.pl.made hm.tab _ _ _ _).paint _ _, fun j x hj hx => ?_⟩, .inr ⟨_, rfl⟩⟩
      · exact Nat.le_trans (Nat.le_of_eq h2) h.pot
      · show isM ((H.made d.i.toNat d.j.toNat d.y.toNat).paint (nextH H.t) true) x = true
        rcases Nat.lt_trichotomy j hs.length with g | g | g
        · rw [List.getElem?_append_left g] at hx
          exact h3 x (h.new j x hj hx)
        · subst g
          rw [List.getElem?_append_right (Nat.le_refl _), Nat.sub_self] at hx
          cases hx
          exact h4
        · rw [List.getElem?_append_right (by omega)] at hx
          have : j - hs.length = (j - hs.length - 1) + 1 := by omega
          rw [this] at hx
          simp at hx
    · exact ⟨h, .inl rfl⟩
  · split
    · split
      · rename_i hE
        refine ⟨?_, .inl rfl⟩
        show Bz n k at_ ((Wt.mark mb b).lk _ st _).1 ((Wt.mark mb b).lk _ st _).2 hs
        rw [hlk]
        unfold Hp.refE at hE
        unfold Hp.setRef
        split at hE
        · cases hE
        · rename_i o ho
          rw [ho]
          have hwf : (H.set (pickN hs d.x) (o.put d.i.toNat (pickN hs d.y))).WF := set_wf hm ho (by simp [Ob.put]) rfl (Ob.put_ok (look_ok hm ho) _ hyu)
          exact bz_nr h (nr_put hm ho hwf) (h.pl.set _ _)
      · exact ⟨h, .inl rfl⟩
    · split
      · split
        · refine ⟨?_, .inl rfl⟩
          unfold Hp.setWord
          split
          · rename_i o ho
            have hwf : (H.set (pickN hs d.x) (o.put (o.refs + d.i.toNat) d.w)).WF := set_wf hm ho (by simp [Ob.put]) rfl (Ob.put_ok (look_ok hm ho) _ hw)
            have := bz_nr h (nr_word hm ho hwf) (h.pl.set _ _)
            exact this
          · exact h
        · exact ⟨h, .inl rfl⟩
      · split
        · split
          · refine ⟨?_, .inl rfl⟩
            show Bz n k at_ ((Wt.mark mb b).lk _ st _).1 ((Wt.mark mb b).lk _ st _).2 hs
            rw [hlk]
            exact bz_nr h (nr_root (rooted_wf hm hyu)) (h.pl.rooted _ _)
          · exact ⟨h, .inl rfl⟩
        · exact ⟨h, .inl rfl⟩
end
end Go.Proofs.Ytdfdmboljidhnaa
