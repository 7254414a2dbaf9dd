
/- Deeds done to a heap that may be watched: data. -/
import Derived.Test.YtdfdmboljidhnaaH9d
set_option maxRecDepth 100000
namespace Go.Hm
open Go Go.Lw Go.Wd Go.Am Go.Tb

/-! Two heaps that differ in marks alone. -/
structure Sm (H H' : Hp) : Prop where
  roots : H'.roots = H.roots
  t : H'.t = H.t
  n : H'.m.n = H.m.n
  top : H'.m.top = H.m.top
  op : H'.m.op = H.m.op
  look : ∀ x, (H'.look x).map (fun o => ({ o with mark := false } : Ob)) = (H.look x).map (fun o => ({ o with mark := false } : Ob))
theorem Sm.refl (H : Hp) : Sm H H := ⟨rfl, rfl, rfl, rfl, rfl, fun _ => rfl⟩
theorem Sm.trans {A B C : Hp} (h : Sm A B) (g : Sm B C) : Sm A C := ⟨g.roots.trans h.roots, g.t.trans h.t, g.n.trans h.n, g.top.trans h.top, g.op.trans h.op, fun x => (g.look x).trans (h.look x)⟩
theorem Sm.some {A B : Hp} (h : Sm A B) {x : Nat} {o : Ob} (ho : A.look x = some o) : ∃ p, B.look x = some p ∧ p.refs = o.refs ∧ p.w = o.w ∧ p.tag = o.tag := by
  have := h.look x
  rw [ho] at this
  cases hb : B.look x with
  | none => rw [hb] at this; cases this
  | some p =>
    rw [hb] at this
    simp only [Option.map_some, Option.some.injEq, Ob.mk.injEq, true_and] at this
    exact ⟨p, rfl, this.2.1, this.2.2.2, this.1⟩
theorem Sm.none {A B : Hp} (h : Sm A B) {x : Nat} (ho : A.look x = none) : B.look x = none := by
  have := h.look x
  rw [ho] at this
  cases hb : B.look x with
  | none => rfl
  | some p => rw [hb] at this; cases this
theorem Sm.isSome {A B : Hp} (h : Sm A B) (x : Nat) : (B.look x).isSome = (A.look x).isSome := by
  cases ha : A.look x with
  | none => rw [h.none ha]
  | some o => obtain ⟨p, hp, _⟩ := h.some ha; rw [hp]; rfl
theorem Sm.rob {A B : Hp} (h : Sm A B) (x : Nat) : rob B x = rob A x := by
  unfold Hm.rob
  cases ha : A.look x with
  | none => rw [h.none ha]
  | some o => obtain ⟨p, hp, h1, h2, h3⟩ := h.some ha; rw [hp]; simp only [h1, h2, h3]

/-! The document's heap, behind each change. -/
section
variable {S S' : Mem} {H H' : Hp} {hs : List Nat} {r : Rh} {om om' : List (R9 × Gq)}
theorem Mir.same (h : Mir S H hs r om) (hr : H'.roots = H.roots) (hl : ∀ x, (H'.look x).isSome = (H.look x).isSome) (ho : ∀ x ∈ hs, rob H' x = rob H x) : Mir S H' hs r om := by
  refine ⟨h.nd, fun x hx => by rw [hl]; exact h.live x hx, fun y hy hh => ?_, by rw [hr]; exact h.roots, ?_⟩
  · rw [hl] at hy
    rw [hr] at hh
    rcases hh with a | ⟨x, hx, a⟩
    · exact h.cls y hy (.inl a)
    · rw [← rob_refs, ho x hx, rob_refs] at a
      exact h.cls y hy (.inr ⟨x, hx, a⟩)
  rw [List.map_congr_left ho]
  exact h.objs
theorem Mir.sm (h : Mir S H hs r om) (hk : Sm H H') : Mir S H' hs r om := h.same hk.roots hk.isSome fun x _ => hk.rob x
theorem Mir.one (h : Mir S H hs r om) (hr : H'.roots = H.roots) (hl : ∀ x, (H'.look x).isSome = (H.look x).isSome) {q x : Nat} (hq : hs[q]? = some x) (ho : ∀ z, z ≠ x → rob H' z = rob H z) (hrx : ∀ y ∈ refsOf H' x, y ∈ refsOf H x ∨ y = 0 ∨ y ∈ hs) (h0 : H.look 0 = Option.none) {p : Option Addr} {l c : Nat}
    (hR : R9s S' ((hs.map (rob H)).set q (rob H' x)) om' p l c) : Mir S' H' hs (r.withL p l c) om' := by
  refine ⟨h.nd, fun z hz => by rw [hl]; exact h.live z hz, fun y hy hh => ?_, by rw [hr]; exact h.roots, ?_⟩
  · rw [hl] at hy
    rw [hr] at hh
    rcases hh with a | ⟨z, hz, a⟩
    · exact h.cls y hy (.inl a)
    · by_cases e : z = x
      · subst e
        rcases hrx y a with b | b | b
        · exact h.cls y hy (.inr ⟨z, hz, b⟩)
        · rw [b, h0] at hy; cases hy
        · exact b
      · rw [← rob_refs, ho z e, rob_refs] at a
        exact h.cls y hy (.inr ⟨z, hz, a⟩)
  have e : hs.map (rob H') = (hs.map (rob H)).set q (rob H' x) := by
    apply List.ext_getElem?
    intro j
    rw [List.getElem?_set]
    by_cases hj : q = j
    · subst hj
      have := get_lt hq
      rw [List.getElem?_map, hq, if_pos rfl, if_pos (by simpa using this)]
      rfl
    · rw [if_neg hj, List.getElem?_map, List.getElem?_map]
      cases hz : hs[j]? with
      | none => rfl
      | some z =>
        have hne : z ≠ x := fun e => by
          subst e
          have h1 := get_lt hq
          have h2 := get_lt hz
          have := (List.getElem?_inj h1 h.nd).1 (hq.trans hz.symm)
          exact hj this
        simp only [Option.map_some, ho z hne]
  show R9s S' (hs.map (rob H')) om' p l c
  rw [e]
  exact hR
theorem Mir.more (h : Mir S H hs r om) (hr : H'.roots = H.roots) {n : Nat} (hn : n ∉ hs) (hl : ∀ x, (H'.look x).isSome = true ↔ ((H.look x).isSome = true ∨ x = n)) (ho : ∀ z ∈ hs, rob H' z = rob H z) (hrn : ∀ y ∈ refsOf H' n, y = 0) (h0 : H'.look 0 = Option.none) {p : Option Addr} {l c : Nat}
    (hR : R9s S' (hs.map (rob H) ++ [rob H' n]) om' p l c) : Mir S' H' (hs ++ [n]) (r.withL p l c) om' := by
  refine ⟨List.nodup_append.2 ⟨h.nd, by simp, fun a ha b hb => ?_⟩, fun z => ?_, fun z => ?_, by rw [hr]; exact h.roots, ?_⟩
  · simp only [List.mem_singleton] at hb
    subst hb
    exact fun e => hn (e ▸ ha)
  · intro hz
    rw [hl]
    rcases List.mem_append.1 hz with a | a
    · exact .inl (h.live z a)
    · exact .inr (by simpa using a)
  · intro hy hh
    rw [hr] at hh
    by_cases e : z = n
    · rw [e]; exact List.mem_append_right _ List.mem_cons_self
    · refine List.mem_append_left _ ?_
      have hy2 := ((hl z).1 hy).resolve_right e
      rcases hh with a | ⟨x, hx, a⟩
      · exact h.cls z hy2 (.inl a)
      · rcases List.mem_append.1 hx with b | b
        · rw [← rob_refs, ho x b, rob_refs] at a
          exact h.cls z hy2 (.inr ⟨x, b, a⟩)
        · have b : x = n := by simpa using b
          subst b
          rw [hrn z a, h0] at hy; cases hy
  · show R9s S' ((hs ++ [n]).map (rob H')) om' p l c
    rw [List.map_append, List.map_congr_left ho]
    exact hR
theorem Mir.rooted (h : Mir S H hs r om) {i x : Nat} (hi : i < 16) (hx : (H.look x).isSome = true → x ∈ hs) : Mir S (H.rooted i x) hs (r.root i x) om := by
  obtain ⟨h1, h2, h3, h4⟩ := r.root_rs (x := x) hi
  refine ⟨h.nd, h.live, fun y hy hh => ?_, by rw [h1, h.roots]; rfl, ?_⟩
  · rcases hh with a | a
    · rcases List.mem_or_eq_of_mem_set a with b | b
      · exact h.cls y hy (.inl b)
      · subst b; exact hx hy
    · exact h.cls y hy (.inr a)
  rw [h2, h3, h4]
  exact h.objs
theorem cells_root (r : Rh) {i x : Nat} (hi : i < 16) : r.cells.set (1 + i) (.int .u64 (x : Int)) = (r.root i x).cells := by
  obtain ⟨h1, h2, h3, h4⟩ := r.root_rs (x := x) hi
  unfold Rh.cells
  rw [h1, h2, h3, h4, Nat.add_comm, List.set_cons_succ]
  congr 1
  simp [words, List.map_set]
theorem rob_set_ne (hm : H.WF) {x z : Nat} {o o' : Ob} (hl : H.look x = some o) (hw : o'.w.length = o.w.length) (hne : z ≠ x) : rob (H.set x o') z = rob H z := by
  unfold rob; rw [set_look hm hl hw, if_neg hne]
theorem rob_set (hm : H.WF) {x : Nat} {o o' : Ob} (hl : H.look x = some o) (hw : o'.w.length = o.w.length) : rob (H.set x o') x = ⟨x, o'.tag, o'.w.take o'.refs, o'.w.drop o'.refs⟩ := by
  unfold rob; rw [set_look hm hl hw, if_pos rfl]
theorem set_isSome (hm : H.WF) {x : Nat} {o o' : Ob} (hl : H.look x = some o) (hw : o'.w.length = o.w.length) (z : Nat) : ((H.set x o').look z).isSome = (H.look z).isSome := by
  rw [set_look hm hl hw]
  by_cases e : z = x
  · rw [if_pos e, e, hl]; rfl
  · rw [if_neg e]
end

/-! Deeds. -/
structure Dd where
  d : Int
  x : Int
  y : Int
  i : Int
  j : Int
  w : Nat
def Dd.cells (d : Dd) : List Value := [.int .i64 d.d, .int .i64 d.x, .int .i64 d.y, .int .i64 d.i, .int .i64 d.j, .int .u64 (d.w : Int)]
def Dd.agg (d : Dd) : Value := .agg #[.int .i64 d.d, .int .i64 d.x, .int .i64 d.y, .int .i64 d.i, .int .i64 d.j, .int .u64 (d.w : Int)]
def pickN (hs : List Nat) (i : Int) : Nat := if i < 0 then 0 else hs.getD (i.toNat % hs.length) 0
theorem pickN_mem {hs : List Nat} {i : Int} (h : pickN hs i ≠ 0) : pickN hs i ∈ hs := by
  unfold pickN at h ⊢
  split
  · rename_i c; rw [if_pos c] at h; exact absurd rfl h
  · rename_i c
    rw [if_neg c] at h
    rw [List.getD_eq_getElem?_getD] at h ⊢
    cases hg : hs[i.toNat % hs.length]? with
    | none => rw [hg] at h; exact absurd rfl h
    | some y => exact List.mem_of_getElem? hg
end Go.Hm
namespace Go.Proofs.Ytdfdmboljidhnaa
open Go Go.Lw Go.Wd Go.Am Go.Tb Go.Hm
/-- A watcher: what it holds, what it does when it is told. -/
structure Wt (v : Value) (b : Nat) (σ : Type) where
  at_ : σ → HP
  inv : Hp → σ → Prop
  fin : Hp → σ → Prop
  inv_fin : ∀ {H : Hp} {s : σ}, inv H s → fin H s
  made : Hp → σ → Nat → Hp × σ
  link : Hp → σ → Nat → Hp × σ
  inv_set : ∀ {H : Hp} {s : σ} {x i y : Nat} {o : Ob}, inv H s → H.WF → H.look x = some o → inv (H.set x (o.put i y)) s
  inv_root : ∀ {H : Hp} {s : σ} {i x : Nat}, inv H s → inv (H.rooted i x) s
  made_ok : ∀ {H : Hp} {s : σ} {tag refs size : Nat}, inv H s → H.WF → ¬ H.t.full → (H.made tag refs size).WF →
    Sm (H.made tag refs size) (made (H.made tag refs size) s (nextH H.t)).1 ∧ fin (made (H.made tag refs size) s (nextH H.t)).1 (made (H.made tag refs size) s (nextH H.t)).2 ∧
    ∀ (F : List HP) (w : World), Sat (HeapH (H.made tag refs size) v b :: at_ s :: F) w → Tell v "Made" (nextH H.t) w (Sat (HeapH (made (H.made tag refs size) s (nextH H.t)).1 v b :: at_ (made (H.made tag refs size) s (nextH H.t)).2 :: F))
  link_ok : ∀ {H : Hp} {s : σ} {y : Nat}, inv H s → H.WF → (H.look y).isSome = true →
    Sm H (link H s y).1 ∧ fin (link H s y).1 (link H s y).2 ∧
    ∀ (F : List HP) (w : World), Sat (HeapH H v b :: at_ s :: F) w → Tell v "Linked" y w (Sat (HeapH (link H s y).1 v b :: at_ (link H s y).2 :: F))
/-- nobody watches. -/
def Wt.none (b : Nat) : Wt .nilIface b Unit where
  at_ := fun _ => hemp
  inv := fun _ _ => True
  fin := fun _ _ => True
  inv_fin := fun _ => trivial
  made := fun H s _ => (H, s)
  link := fun H s _ => (H, s)
  inv_set := fun h _ _ => h
  inv_root := fun h => h
  made_ok := fun _ _ _ _ => ⟨Sm.refl _, trivial, fun _ _ h => Tell.none h⟩
  link_ok := fun _ _ _ => ⟨Sm.refl _, trivial, fun _ _ h => Tell.none h⟩

section
variable {v : Value} {b : Nat} {σ : Type}
/-- what is linked is told. -/
def Wt.lk (T : Wt v b σ) (H : Hp) (s : σ) (y : Nat) : Hp × σ := if y = 0 then (H, s) else T.link H s y
/-- what a deed does. -/
def playF (T : Wt v b σ) (H : Hp) (s : σ) (hs : List Nat) (d : Dd) : Hp × σ × List Nat :=
  if d.d ≤ 2 then
    if Hp.makeE H d.i d.j d.y = 0 then ((T.made (H.made d.i.toNat d.j.toNat d.y.toNat) s (nextH H.t)).1, (T.made (H.made d.i.toNat d.j.toNat d.y.toNat) s (nextH H.t)).2, hs ++ [nextH H.t]) else (H, s, hs)
  else if d.d ≤ 4 then
    if Hp.refE H (pickN hs d.x) d.i (pickN hs d.y) = 0 then ((T.lk (Hp.setRef H (pickN hs d.x) d.i (pickN hs d.y)) s (pickN hs d.y)).1, (T.lk (Hp.setRef H (pickN hs d.x) d.i (pickN hs d.y)) s (pickN hs d.y)).2, hs) else (H, s, hs)
  else if d.d = 5 then
    if Hp.wordE H (pickN hs d.x) d.i = 0 then (Hp.setWord H (pickN hs d.x) d.i d.w, s, hs) else (H, s, hs)
  else if d.d ≤ 7 then
    if Hp.rootE H d.i (pickN hs d.y) = 0 then ((T.lk (H.rooted d.i.toNat (pickN hs d.y)) s (pickN hs d.y)).1, (T.lk (H.rooted d.i.toNat (pickN hs d.y)) s (pickN hs d.y)).2, hs) else (H, s, hs)
  else (H, s, hs)
/-- what holds behind a deed: the document's heap says what the heap is. -/
def PlayPost (T : Wt v b σ) (P : Hp × σ × List Nat) (W : World) (S : Mem) (F : List HP) (e : Ending) (w' : World) : Prop :=
  ∃ (S' : Mem) (r' : Rh) (om' : List (R9 × Gq)) (tp : Option Addr) (tc : Nat), e = .returned (.tuple #[r'.agg, .slice tp P.2.2.length tc, .bool true]) ∧ Ext S S' ∧ Mir S' P.1 P.2.2 r' om' ∧ CRs S' 1 (words P.2.2) tp P.2.2.length tc ∧ T.fin P.1 P.2.1 ∧
    Sat (HeapH P.1 v b :: T.at_ P.2.1 :: Ro W S' :: F) w'
/-- what is held while a deed is done. -/
def PlS (T : Wt v b σ) (H : Hp) (s : σ) (r : Rh) (d : Dd) (b0 b1 b2 : Nat) (W : World) (S : Mem) (F : List HP) : List HP :=
  HeapH H v b :: T.at_ s :: Row b2 Rh.zero.cells 44 :: Row b1 d.cells 68 :: Row b0 r.cells 44 :: Ro W S :: F
theorem wt_link (T : Wt v b σ) {H : Hp} {s : σ} {y : Nat} (hi : T.inv H s) (hm : H.WF) (hy : y = 0 ∨ (H.look y).isSome = true) : Sm H (T.lk H s y).1 ∧ T.fin (T.lk H s y).1 (T.lk H s y).2 ∧
    ∀ (F : List HP) (w : World), Sat (HeapH H v b :: T.at_ s :: F) w → if y = 0 then Sat (HeapH (T.lk H s y).1 v b :: T.at_ (T.lk H s y).2 :: F) w else Tell v "Linked" y w (Sat (HeapH (T.lk H s y).1 v b :: T.at_ (T.lk H s y).2 :: F)) := by
  unfold Wt.lk
  by_cases h0 : y = 0
  · simp only [if_pos h0]
    exact ⟨Sm.refl _, T.inv_fin hi, fun _ _ h => h⟩
  · simp only [if_neg h0]
    exact T.link_ok hi hm (hy.resolve_left h0)
theorem hemp_drop {F : List HP} {A : HP} {w : World} (h : Sat (A :: hemp :: F) w) : Sat (A :: F) w := (Sat.p1 h).drop
theorem hemp_add {F : List HP} {A : HP} {w : World} (h : Sat (A :: F) w) : Sat (A :: hemp :: F) w := by
  refine Sat.p1 ?_
  obtain ⟨g, hw, x⟩ := h
  exact ⟨g, hw, fun _ => Option.none, g, fun _ => .inl rfl, fun b => by dsimp only; cases g b <;> rfl, fun _ => rfl, x⟩

theorem pick_c {hs : List Nat} {L : List HP} {w W : World} {S : Mem} (hS : Sat L w) (k : Nat) (hk : L[k]? = some (Ro W S)) {tp : Option Addr} {tc : Nat} (hT : CRs S 1 (words hs) tp hs.length tc) (i : Int) :
    Calls Try.prog 80 #[.slice tp hs.length tc, .int .i64 i] w fun e w' => e = .returned (.int .u64 (pickN hs i : Nat)) ∧ w = w' := by
  refine S_law9_pick_ok _ _ _ _ _ _ ?_
  unfold S_law9_pick pickN
  by_cases h0 : i < 0
  · exact cond_t (by simpa using h0) ⟨by rw [if_pos h0]; rfl, rfl⟩
  refine cond_f (by simpa using h0) ?_
  rw [if_neg h0]
  by_cases hl : hs.length = 0
  · have : hs = [] := List.eq_nil_of_length_eq_zero hl
    subst this
    exact cond_t (by rfl) ⟨by simp, rfl⟩
  refine cond_f (by simpa using hl) ⟨by omega, ?_⟩
  obtain ⟨j, rfl⟩ := Int.eq_ofNat_of_zero_le (Int.not_lt.1 h0)
  rw [tmod_nat, Int.toNat_natCast]
  have hlt : j % hs.length < hs.length := Nat.mod_lt _ (by omega)
  have hx : hs[j % hs.length]? = some (hs.getD (j % hs.length) 0) := by rw [List.getD_eq_getElem?_getD, List.getElem?_eq_getElem hlt]; rfl
  exact rd_word hT (hS.has k hk) hx rfl ⟨rfl, rfl⟩
end
end Go.Proofs.Ytdfdmboljidhnaa
