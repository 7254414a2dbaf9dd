
/- Trees, reached and counted: what a tree's handles lead to, how many words they take. No program in sight. -/
import Derived.Test.YtpicofkhioalkaaGreatEk
import Derived.Test.YtpicofkhioalkaaGreatZb
import Derived.Test.YtpicofkhioalkaaGreatZd
set_option maxRecDepth 100000
namespace Go.Td
open Go Go.Hm Go.Kd
/-- how many words an object takes. -/
def osz (ov : Lk) (x : Nat) : Nat := match ov x with | some o => o.w.length + 1 | none => 1
def wsum (ov : Lk) (l : List Nat) : Nat := (l.map (osz ov)).sum
def bytesE (es : List Ent) : Nat := (es.map fun e => e.key.length).sum
theorem wsum_append (ov : Lk) (a b : List Nat) : wsum ov (a ++ b) = wsum ov a + wsum ov b := by simp [wsum]
theorem wsum_cons (ov : Lk) (a : Nat) (b : List Nat) : wsum ov (a :: b) = osz ov a + wsum ov b := by simp [wsum]
theorem bytesE_append (a b : List Ent) : bytesE (a ++ b) = bytesE a + bytesE b := by simp [bytesE]
theorem osz_some {ov : Lk} {x : Nat} {o : Ov} (h : ov x = some o) : osz ov x = o.w.length + 1 := by unfold osz; rw [h]
theorem wordsL {ov : Lk} : ∀ {l : List Kid}, (∀ a ∈ l, 8 * wsum ov a.hs + 48 ≤ 72 * a.es.length + bytesE a.es) → 8 * wsum ov (hsOf l) + 48 * l.length ≤ 72 * (esOf l).length + bytesE (esOf l)
  | [], _ => by simp [wsum]
  | a :: l, h => by
    have h1 := h a List.mem_cons_self
    have h2 := wordsL fun b hb => h b (List.mem_cons_of_mem _ hb)
    rw [hsOf_cons, esOf_cons, wsum_append, bytesE_append, List.length_append, List.length_cons]
    omega
theorem Rep.words {ov : Lk} : ∀ {d : Nat} {c : Kid}, Rep ov d 6 c → 8 * wsum ov c.hs + 48 ≤ 72 * c.es.length + bytesE c.es
  | 0, c, ⟨e, h1, h2, h3, h4, h5⟩ => by
    rw [h3, h1, wsum_cons, osz_some h4]
    have := packW_len e.key
    have hk : (keyO e.key).w.length = 1 + nWords e.key := this
    rw [hk]
    unfold nWords
    simp only [wsum, bytesE, List.map_nil, List.sum_nil, List.map_cons, List.sum_cons, List.length_cons, List.length_nil]
    omega
  | d + 1, c, ⟨l, h1, h2, h3, h4, h5, h6⟩ => by
    have h7 := wordsL fun a ha => (h6 a ha).words
    rw [h3, h2, wsum_cons, osz_some h1]
    have e : (nodeO (decide (0 < d)) (l.map Kid.pr)).w.length = 25 := nodeW_len (by rw [List.length_map]; exact h5)
    rw [e]
    omega
theorem Rep.wordsL {ov : Lk} {d : Nat} {l : List Kid} (h : ∀ a ∈ l, Rep ov d 6 a) : 8 * wsum ov (hsOf l) + 48 * l.length ≤ 72 * (esOf l).length + bytesE (esOf l) :=
  Td.wordsL fun a ha => (h a ha).words
theorem Tree.words {ov : Lk} {t : Nat} {es : List Ent} {hs : List Nat} (h : Tree ov t es hs) : 8 * wsum ov hs ≤ 192 + 72 * es.length + bytesE es := by
  rcases h.at_ with ⟨h1, h2, h3⟩ | ⟨d, c, h1, h2, h3, h4⟩
  · rw [h2, wsum_cons, osz_some h3]
    simp only [wsum, List.map_nil, List.sum_nil, treeO]
    show 8 * (3 + 1 + 0) ≤ _
    omega
  · have hp : wsum ov hs = wsum ov (t :: c.hs) := (h4.map _).sum_nat
    obtain ⟨l, g1, g2, g3, g4, g5, g6⟩ := h2
    have h7 := Rep.wordsL g6
    have e : (nodeO (decide (0 < d)) (l.map Kid.pr)).w.length = 25 := nodeW_len (by rw [List.length_map]; exact g5)
    have hl : 1 ≤ l.length := by split at g4 <;> omega
    rw [hp, wsum_cons, osz_some h1, g3, wsum_cons, osz_some g1, e, h3, g2]
    show 8 * (3 + 1 + (25 + 1 + wsum ov (hsOf l))) ≤ _
    omega
/-! What a tree's objects lead to. -/
theorem mem_flat : ∀ {l : List (Nat × Nat)} {y : Nat}, y ∈ flat l → ∃ p ∈ l, y = p.1 ∨ y = p.2
  | [], y, h => by simp [flat] at h
  | p :: l, y, h => by
    rcases List.mem_cons.1 h with rfl | h
    · exact ⟨p, List.mem_cons_self, .inl rfl⟩
    · rcases List.mem_cons.1 h with rfl | h
      · exact ⟨p, List.mem_cons_self, .inr rfl⟩
      · obtain ⟨q, hq, hy⟩ := mem_flat h
        exact ⟨q, List.mem_cons_of_mem _ hq, hy⟩
theorem flat_mem : ∀ {l : List (Nat × Nat)} {p : Nat × Nat}, p ∈ l → p.1 ∈ flat l ∧ p.2 ∈ flat l
  | [], p, h => by cases h
  | q :: l, p, h => by
    rcases List.mem_cons.1 h with rfl | h
    · exact ⟨List.mem_cons_self, List.mem_cons_of_mem _ List.mem_cons_self⟩
    · exact ⟨List.mem_cons_of_mem _ (List.mem_cons_of_mem _ (flat_mem h).1), List.mem_cons_of_mem _ (List.mem_cons_of_mem _ (flat_mem h).2)⟩
theorem node_take {inner : Bool} {l : List (Nat × Nat)} (hl : l.length ≤ 12) : (nodeO inner l).w.take (nodeO inner l).refs = flat l ++ List.replicate (24 - 2 * l.length) 0 := by
  show (nodeW l).take 24 = _
  unfold nodeW
  have e : (flat l ++ List.replicate (24 - 2 * l.length) 0).length = 24 := by simp only [List.length_append, flat_len, List.length_replicate]; omega
  rw [List.take_append_of_le_length (by omega), List.take_of_length_le (by omega)]
theorem Rep.refs {ov : Lk} : ∀ {d m : Nat} {c : Kid}, Rep ov d m c → ∀ x ∈ c.hs, ∀ o, ov x = some o → ∀ y ∈ o.w.take o.refs, y = 0 ∨ y ∈ c.hs ∨ ∃ e ∈ c.es, y = e.x
  | 0, _, c, ⟨e, h1, h2, h3, h4, h5⟩, x, hx, o, ho, y, hy => by
    rw [h3] at hx
    have hx : x = e.kh := by simpa using hx
    rw [hx, h4] at ho
    cases ho
    exact absurd hy (by simp [keyO])
  | d + 1, m, c, ⟨l, h1, h2, h3, h4, h5, h6⟩, x, hx, o, ho, y, hy => by
    rw [h3] at hx
    rcases List.mem_cons.1 hx with rfl | hx
    · rw [h1] at ho
      cases ho
      rw [node_take (by rw [List.length_map]; exact h5)] at hy
      rcases List.mem_append.1 hy with hy | hy
      · obtain ⟨p, hp, hy⟩ := mem_flat hy
        obtain ⟨a, ha, rfl⟩ := List.mem_map.1 hp
        have hR := h6 a ha
        rcases hy with rfl | rfl
        · refine .inr (.inl ?_)
          rw [h3]
          exact List.mem_cons_of_mem _ (mem_hsOf.2 ⟨a, ha, (hR.keyOK (by omega)).2.2.1⟩)
        · cases d with
          | zero =>
            obtain ⟨e, g1, g2, g3, g4, g5⟩ := hR
            exact .inr (.inr ⟨e, by rw [h2]; exact mem_esOf.2 ⟨a, ha, by rw [g1]; simp⟩, g2⟩)
          | succ d =>
            refine .inr (.inl ?_)
            rw [h3]
            exact List.mem_cons_of_mem _ (mem_hsOf.2 ⟨a, ha, hR.xmem⟩)
      · exact .inl (List.eq_of_mem_replicate hy)
    · obtain ⟨a, ha, hxa⟩ := mem_hsOf.1 hx
      rcases (h6 a ha).refs x hxa o ho y hy with h | h | ⟨e, he, h⟩
      · exact .inl h
      · exact .inr (.inl (by rw [h3]; exact List.mem_cons_of_mem _ (mem_hsOf.2 ⟨a, ha, h⟩)))
      · exact .inr (.inr ⟨e, by rw [h2]; exact mem_esOf.2 ⟨a, ha, he⟩, h⟩)
theorem Tree.refs {ov : Lk} {t : Nat} {es : List Ent} {hs : List Nat} (h : Tree ov t es hs) : ∀ x ∈ hs, ∀ o, ov x = some o → ∀ y ∈ o.w.take o.refs, y = 0 ∨ y ∈ hs ∨ ∃ e ∈ es, y = e.x := by
  intro x hx o ho y hy
  rcases h.at_ with ⟨h1, h2, h3⟩ | ⟨d, c, h1, h2, h3, h4⟩
  · rw [h2] at hx
    have hx : x = t := by simpa using hx
    rw [hx, h3] at ho
    cases ho
    exact .inl (by simpa [treeO] using hy)
  · rcases List.mem_cons.1 (h4.mem_iff.1 hx) with rfl | hx
    · rw [h1] at ho
      cases ho
      have hy : y = c.x := by simpa [treeO] using hy
      subst hy
      exact .inr (.inl (h4.mem_iff.2 (List.mem_cons_of_mem _ h2.xmem)))
    · rcases h2.refs x hx o ho y hy with h | h | ⟨e, he, h⟩
      · exact .inl h
      · exact .inr (.inl (h4.mem_iff.2 (List.mem_cons_of_mem _ h)))
      · exact .inr (.inr ⟨e, by rw [h3]; exact he, h⟩)
section
variable {H : Hp}
theorem refsOf_ov {x : Nat} {o : Ov} (h : H.ov x = some o) : refsOf H x = o.w.take o.refs := by
  unfold Hp.ov at h
  unfold refsOf
  cases hl : H.look x with
  | none => rw [hl] at h; cases h
  | some p => rw [hl] at h; cases h; rfl
theorem reach_step {x y : Nat} {o : Ov} (hx : Hm.Reach H x) (ho : H.ov x = some o) (hy : y ∈ o.w.take o.refs) (hl : (H.ov y).isSome = true) : Hm.Reach H y :=
  .step hx (by rw [refsOf_ov ho]; exact hy) (by rw [← Go.Proofs.YtpicofkhioalkaaGreat.ov_isSome]; exact hl)
theorem Rep.reach : ∀ {d m : Nat} {c : Kid}, Rep H.ov (d + 1) m c → Hm.Reach H c.x → ∀ h ∈ c.hs, Hm.Reach H h
  | d, m, c, hR@⟨l, h1, h2, h3, h4, h5, h6⟩, hx, h, hh => by
    rw [h3] at hh
    rcases List.mem_cons.1 hh with rfl | hh
    · exact hx
    · obtain ⟨a, ha, hha⟩ := mem_hsOf.1 hh
      have hm : a.pr ∈ l.map Kid.pr := List.mem_map.2 ⟨a, ha, rfl⟩
      have hf := flat_mem hm
      have hin : ∀ y ∈ flat (l.map Kid.pr), y ∈ (nodeO (decide (0 < d)) (l.map Kid.pr)).w.take (nodeO (decide (0 < d)) (l.map Kid.pr)).refs := fun y hy => by
        rw [node_take (by rw [List.length_map]; exact h5)]
        exact List.mem_append_left _ hy
      have hRa := h6 a ha
      cases d with
      | zero =>
        obtain ⟨e, g1, g2, g3, g4, g5⟩ := hRa
        rw [g3] at hha
        have hha : h = e.kh := by simpa using hha
        have hk : a.k = e.kh := by unfold Kid.k; rw [g1]
        rw [hha]
        refine reach_step hx h1 (hin _ ?_) (by rw [g4]; rfl)
        rw [← hk]; exact hf.1
      | succ d => exact Rep.reach hRa (reach_step hx h1 (hin _ hf.2) (hRa.live _ hRa.xmem)) h hha
theorem Tree.reach {t : Nat} {es : List Ent} {hs : List Nat} (h : Tree H.ov t es hs) (ht : Hm.Reach H t) : ∀ z ∈ hs, Hm.Reach H z := by
  intro z hz
  rcases h.at_ with ⟨h1, h2, h3⟩ | ⟨d, c, h1, h2, h3, h4⟩
  · rw [h2] at hz
    have hz : z = t := by simpa using hz
    rw [hz]; exact ht
  · rcases List.mem_cons.1 (h4.mem_iff.1 hz) with rfl | hz
    · exact ht
    · exact h2.reach (reach_step ht h1 (by simp [treeO]) (h2.live _ h2.xmem)) z hz
theorem sum_sub {f : Nat → Nat} : ∀ {l S : List Nat}, l.Nodup → (∀ x ∈ l, x ∈ S) → (l.map f).sum ≤ (S.map f).sum
  | [], S, _, _ => by simp
  | x :: l, S, hn, h => by
    obtain ⟨h1, h2⟩ := List.nodup_cons.1 hn
    have hp : S.Perm (x :: S.erase x) := List.perm_cons_erase (h x List.mem_cons_self)
    have e : (S.map f).sum = f x + ((S.erase x).map f).sum := by rw [(hp.map f).sum_nat]; simp
    have ih := sum_sub (f := f) (S := S.erase x) h2 fun y hy => (List.mem_erase_of_ne (show y ≠ x from fun e => h1 (by rw [← e]; exact hy))).2 (h y (List.mem_cons_of_mem _ hy))
    rw [e, List.map_cons, List.sum_cons]
    omega
theorem wsum_order (l : List Nat) : wordsOf H l = wsum H.ov l := by
  rw [words_sum]
  unfold wsum
  congr 2
  funext x
  unfold sz osz Hp.ov
  cases H.look x <;> rfl
end
end Go.Td
/- A tree in a heap that is collected: what is kept of both, deed behind deed. -/
set_option maxRecDepth 100000
namespace Go.Proofs.YtpicofkhioalkaaGreat
open Go Go.Lw Go.Wd Go.Am Go.Tb Go.Hm Go.Kd Go.Td
theorem gd_made {B : Nat} {H : Hp} (hm : H.WF) (hop : H.m.op = false) (h : Gd B H) (a b c : Nat) : Gd (B + 2) (H.made a b c) := by
  have e : (H.made a b c).m = ⟨H.m.n, H.m.low ++ [Fresh a b c H.t.nextSlot], H.m.high, H.m.hi, false⟩ := by
    show H.m.alloc _ = _
    unfold Am.alloc
    cases hop2 : H.m.op with
    | true => rw [hop2] at hop; cases hop
    | false => rfl
  refine ⟨?_, ?_⟩
  · show (H.t.make H.m.top).count = _
    rw [Hm.count_make hm.tab, e, h.cnt]
    simp only [List.length_append, List.length_cons, List.length_nil]
    omega
  · have := tot_make hm.tab H.m.top
    have := h.tot
    show tot (H.t.make H.m.top) ≤ _
    omega
/-- a heap that a collector may work on, so many objects having been made. -/
def JG (H : Hp) (c : Nat) : Prop := Gd (2 * c) H ∧ H.Closed ∧ H.m.op = false
theorem keepsG : Keeps JG where
  new := ⟨⟨rfl, Nat.le_refl _⟩, closed_new _ _, rfl⟩
  made := by
    rintro H c tag refs size ⟨h1, h2, h3⟩ hm hf
    refine ⟨gd_made hm h3 h1 _ _ _, closed_made hm h2 hf, ?_⟩
    show (H.m.alloc _).op = false
    unfold Am.alloc
    cases hop2 : H.m.op with
    | true => rw [h3] at hop2; cases hop2
    | false => rfl
  put := by
    rintro H c x j y o ⟨h1, h2, h3⟩ hm hl hy
    exact ⟨(rw_set (o' := o.put j y) hm hl rfl).gd h1, closed_put hm h2 hl hy, h3⟩
  root := by
    rintro H c i x ⟨h1, h2, h3⟩ hm hx
    exact ⟨⟨h1.cnt, h1.tot⟩, closed_rooted h2 hx, h3⟩
/-- a heap with one tree and five objects to refer to. -/
structure Rt (n k : Nat) (H : Hp) (c t r x2 : Nat) (xs : List Nat) (es : List Ent) (us : List Nat) : Prop where
  j : JG H c
  tree : Tree H.ov t es us
  val : ∀ p ∈ kv es, p.2 = x2
  key : ∀ p ∈ kv es, p.1.length ≤ 200
  x2 : x2 ∈ xs
  roots : H.roots = ([t] ++ List.replicate 15 0).set 9 r
  rr : H.ov r = some ⟨9, 5, xs⟩
  xo : ∀ i x, xs[i]? = some x → H.ov x = some ⟨8, 0, [i]⟩
  nd : (us ++ r :: xs).Nodup
  xl : xs.length = 5
  n : H.m.n = n
  tn : H.t.n = k
section
variable {n k c t r x2 : Nat} {H H' : Hp} {xs us : List Nat} {es : List Ent} {b : Nat}
theorem Rt.xlive (h : Rt n k H c t r x2 xs es us) {y : Nat} (hy : y ∈ xs) : (H.look y).isSome = true := by
  obtain ⟨i, hi⟩ := List.getElem?_of_mem hy
  rw [← ov_isSome, h.xo i y hi]; rfl
theorem Rt.ents (h : Rt n k H c t r x2 xs es us) : ∀ e ∈ es, e.x = x2 := fun e he => h.val (e.key, e.x) (List.mem_map.2 ⟨e, he, rfl⟩)
theorem Rt.trs (h : Rt n k H c t r x2 xs es us) (b : Nat) : TrS (engJ keepsG b) (H, c) t es us := by
  refine ⟨h.tree, fun z hz => ?_, fun e he => .inr ?_⟩
  · show (H.look z).isSome = true
    rw [← ov_isSome]; exact h.tree.live z hz
  · rw [h.ents e he]; exact h.xlive h.x2
theorem Rt.oldr (h : Rt n k H c t r x2 xs es us) : r ∉ us ∧ ∀ x ∈ xs, x ∉ us := by
  have := List.nodup_append.1 h.nd
  exact ⟨fun hr => this.2.2 _ hr _ List.mem_cons_self rfl, fun x hx hu => this.2.2 _ hu _ (List.mem_cons_of_mem _ hx) rfl⟩
/-- behind a deed. -/
theorem Rt.step (h : Rt n k H c t r x2 xs es us) {s' : Hp × Nat} {es' : List Ent} {us' : List Nat} {k' m' : Nat} (hT : TrS (engJ keepsG b) s' t es' us') (hS : St (engJ keepsG b) (H, c) us s' us' k' m') (hv : ∀ p ∈ kv es', p.2 = x2) (hk : ∀ p ∈ kv es', p.1.length ≤ 200) : Rt n k s'.1 (c + k') t r x2 xs es' us' := by
  obtain ⟨o1, o2⟩ := h.oldr
  have hfr : ∀ z o, H.ov z = some o → z ∉ us → s'.1.ov z = some o := fun z o hz hu => by
    have : (engJ keepsG b).ov s' z = (engJ keepsG b).ov (H, c) z := hS.frame z (by show (H.ov z).isSome = true; rw [hz]; rfl) hu
    exact this.trans hz
  have hj : JG s'.1 s'.2 := hS.mv.inv
  have hc : s'.2 = c + k' := hS.mv.cost
  have hnew : ∀ z ∈ us', ∀ o, H.ov z = some o → z ∈ us := fun z hz o ho => by
    rcases hS.new z hz with g | g
    · exact g
    · have g : H.ov z = none := g
      rw [ho] at g; cases g
  refine ⟨by rw [← hc]; exact hj, hT.tree, hv, hk, h.x2, (hS.mv.roots).trans h.roots, hfr _ _ h.rr o1, fun i x hx => hfr _ _ (h.xo i x hx) (o2 x (List.mem_of_getElem? hx)), ?_, h.xl, hS.mv.n.trans h.n, hS.mv.tn.trans h.tn⟩
  have h3 := (List.nodup_append.1 h.nd).2.1
  refine List.nodup_append.2 ⟨hT.tree.nd, h3, ?_⟩
  rintro z hz y hy rfl
  rcases List.mem_cons.1 hy with rfl | hy
  · exact o1 (hnew _ hz _ h.rr)
  · obtain ⟨i, hi⟩ := List.getElem?_of_mem hy
    exact o2 _ hy (hnew _ hz _ (h.xo i _ hi))
/-! What is reached. -/
theorem Rt.tin (h : Rt n k H c t r x2 xs es us) : t ∈ us := by
  rcases h.tree.at_ with ⟨h1, h2, h3⟩ | ⟨d, c, h1, h2, h3, h4⟩
  · rw [h2]; simp
  · exact h4.mem_iff.2 List.mem_cons_self
theorem Rt.rt (h : Rt n k H c t r x2 xs es us) : Hm.Reach H t := by
  refine .root (by rw [h.roots]; simp) ?_
  rw [← ov_isSome]; exact h.tree.live t h.tin
theorem Rt.rreach (h : Rt n k H c t r x2 xs es us) : Hm.Reach H r := by
  refine .root (by rw [h.roots]; simp) ?_
  rw [← ov_isSome, h.rr]; rfl
theorem Rt.xreach (h : Rt n k H c t r x2 xs es us) {y : Nat} (hy : y ∈ xs) : Hm.Reach H y := by
  refine reach_step h.rreach h.rr ?_ (by rw [ov_isSome]; exact h.xlive hy)
  rw [List.take_of_length_le (by show xs.length ≤ 5; rw [h.xl]; exact Nat.le_refl _)]
  exact hy
theorem Rt.reach (hm : H.WF) (h : Rt n k H c t r x2 xs es us) {x : Nat} (hr : Hm.Reach H x) : x ∈ us ++ r :: xs := by
  induction hr with
  | root a b =>
    rename_i x
    rw [h.roots] at a
    have a : x = t ∨ x = r ∨ x = 0 := by
      rcases List.mem_or_eq_of_mem_set a with a | a
      · rcases List.mem_append.1 a with a | a
        · exact .inl (by simpa using a)
        · exact .inr (.inr (List.eq_of_mem_replicate a))
      · exact .inr (.inl a)
    rcases a with rfl | rfl | rfl
    · exact List.mem_append_left _ h.tin
    · exact List.mem_append_right _ List.mem_cons_self
    · rw [look_zero hm] at b; cases b
  | step a b c0 ih =>
    rename_i x y
    have hy0 : y ≠ 0 := fun e => by rw [e, look_zero hm] at c0; cases c0
    rcases List.mem_append.1 ih with hx | hx
    · have hl := h.tree.live x hx
      obtain ⟨o, ho⟩ := Option.isSome_iff_exists.1 hl
      rw [refsOf_ov ho] at b
      rcases h.tree.refs x hx o ho y b with e | e | ⟨e, he, rfl⟩
      · exact absurd e hy0
      · exact List.mem_append_left _ e
      · rw [h.ents e he]
        exact List.mem_append_right _ (List.mem_cons_of_mem _ h.x2)
    · rcases List.mem_cons.1 hx with rfl | hx
      · rw [refsOf_ov h.rr] at b
        exact List.mem_append_right _ (List.mem_cons_of_mem _ (List.mem_of_mem_take b))
      · obtain ⟨i, hi⟩ := List.getElem?_of_mem hx
        rw [refsOf_ov (h.xo i x hi)] at b
        cases b
theorem Rt.words (hm : H.WF) (h : Rt n k H c t r x2 xs es us) : 8 * wordsOf H (order H) ≤ 192 + 128 + 72 * es.length + bytesE es := by
  have h1 := sum_sub (f := osz H.ov) (order_met (H := H)).nd fun x hx => h.reach hm ((order_iff hm).1 hx)
  have h2 := h.tree.words
  rw [wsum_order]
  have h3 : wsum H.ov (order H) ≤ wsum H.ov (us ++ r :: xs) := h1
  have h4 : wsum H.ov xs = 10 := by
    have : ∀ y ∈ xs, osz H.ov y = 2 := fun y hy => by
      obtain ⟨i, hi⟩ := List.getElem?_of_mem hy
      rw [osz_some (h.xo i y hi)]; rfl
    have e : xs.map (osz H.ov) = xs.map fun _ => 2 := List.map_congr_left this
    unfold wsum
    rw [e, List.map_const', List.sum_replicate_nat, h.xl]
  rw [wsum_append, wsum_cons, h4, osz_some h.rr] at h3
  have h5 : xs.length + 1 = 6 := by rw [h.xl]
  have h6 : (Ov.mk 9 5 xs).w.length + 1 = 6 := h5
  rw [h6] at h3
  omega
/-- behind a full collection. -/
theorem Rt.full (hm : H.WF) (h : Rt n k H c t r x2 xs es us) {C : Cd} (hf : Fl (2 * c) H C) : Rt n k C.H c t r x2 xs es us ∧ C.H.m.top = wordsOf H (order H) := by
  obtain ⟨_, o2, o3⟩ := hf.ci.ph0 hf.ph
  have hle := hf.less
  have hov : ∀ z, Hm.Reach H z → C.H.ov z = H.ov z := fun z hz => by
    obtain ⟨o, ho⟩ := Option.isSome_iff_exists.1 hz.live
    obtain ⟨p, hp, e1, e2, e3⟩ := hle.some hz ho
    unfold Hp.ov
    rw [ho, hp]
    simp only [Option.map_some, e1, e2, e3]
  refine ⟨⟨⟨hf.ci.gd, o3, o2⟩, h.tree.frame fun z hz => hov z (h.tree.reach h.rt z hz), h.val, h.key, h.x2, by rw [hle.roots]; exact h.roots, by rw [hov _ h.rreach]; exact h.rr, fun i x hx => by rw [hov _ (h.xreach (List.mem_of_getElem? hx))]; exact h.xo i x hx, h.nd, h.xl, by rw [hle.n]; exact h.n, by rw [hle.tn]; exact h.tn⟩, hf.top⟩
theorem gnd_rt {ts : List Nat} (g : Gnd JG n k H [t] xs r) (hx : xs.length = 5) {x2 : Nat} (h2 : x2 ∈ xs) : Rt n k H 7 t r x2 xs [] [t] := by
  have hj := g.j
  rw [hx] at hj
  refine ⟨hj, tree_none (g.tree t (by simp)), by simp, by simp, h2, g.roots, ?_, g.xo, ?_, hx, g.n, g.tn⟩
  · have := g.rr
    rw [hx] at this
    simpa using this
  · exact g.nd
end
end Go.Proofs.YtpicofkhioalkaaGreat
