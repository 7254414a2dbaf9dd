
/- Places in a row of kids in order; the step down to a kid. No program in sight. -/
import Derived.Test.YtpicofkhioalkaaGreatTd
set_option maxRecDepth 100000
namespace Go.Td
open Go Go.Hm Go.Kd

/-- kids in order. -/
def Ks (L : List Kid) : Prop := L.Pairwise fun a b => lt a.key b.key = true
/-- the place of the first kid whose key is not below a key. -/
def At (L : List Kid) (key : K) (i : Nat) : Prop :=
  i ≤ L.length ∧ (∀ j c, j < i → L[j]? = some c → lt c.key key = true) ∧ (∀ j c, i ≤ j → L[j]? = some c → lt c.key key = false)
def same (L : List Kid) (key : K) (i : Nat) : Bool := match L[i]? with | some c => decide (c.key = key) | none => false
def wayI (L : List Kid) (key : K) (i : Nat) : Nat := if same L key i then i else i - 1

theorem srt_append {a b : List Ent} : Srt (a ++ b) ↔ Srt a ∧ Srt b ∧ ∀ x ∈ a, ∀ y ∈ b, lt x.key y.key = true := List.pairwise_append
theorem key_head {c : Kid} (h : c.es ≠ []) : ∃ e r, c.es = e :: r ∧ e.key = c.key ∧ e.kh = c.k := by
  obtain ⟨e, r, he⟩ := List.exists_cons_of_ne_nil h
  exact ⟨e, r, he, by unfold Kid.key; rw [he], by unfold Kid.k; rw [he]⟩
theorem key_le {c : Kid} (hs : Srt c.es) {e : Ent} (he : e ∈ c.es) : lt e.key c.key = false := by
  obtain ⟨e0, r, h1, h2, _⟩ := key_head (List.ne_nil_of_mem he)
  rw [h1] at he hs
  rcases List.mem_cons.1 he with rfl | he
  · rw [h2, lt_irrefl]
  · have := (List.pairwise_cons.1 hs).1 e he
    rw [h2] at this
    exact lt_asymm this
theorem srt_kids : ∀ {L : List Kid}, Srt (esOf L) → (∀ c ∈ L, c.es ≠ []) → Ks L
  | [], _, _ => List.Pairwise.nil
  | c :: L, hs, hn => by
    rw [esOf_cons] at hs
    obtain ⟨h1, h2, h3⟩ := srt_append.1 hs
    refine List.Pairwise.cons (fun a ha => ?_) (srt_kids h2 fun a ha => hn a (by simp [ha]))
    obtain ⟨e, r, he, hk, _⟩ := key_head (hn c (by simp))
    obtain ⟨e', r', he', hk', _⟩ := key_head (hn a (by simp [ha]))
    rw [← hk, ← hk']
    exact h3 e (by rw [he]; simp) e' (mem_esOf.2 ⟨a, ha, by rw [he']; simp⟩)
theorem split_at {α : Type} {L : List α} {i : Nat} {c : α} (h : L[i]? = some c) : L = L.take i ++ c :: L.drop (i + 1) ∧ (L.take i).length = i := by
  have hl := kget_lt h
  refine ⟨?_, by simp; omega⟩
  rw [List.getElem?_eq_getElem hl] at h
  simp only [Option.some.injEq] at h
  have h2 : L.drop i = c :: L.drop (i + 1) := by rw [List.drop_eq_getElem_cons hl, h]
  rw [← h2, List.take_append_drop]
theorem take_get {α : Type} {L : List α} {i : Nat} {c : α} (h : c ∈ L.take i) : ∃ j, j < i ∧ L[j]? = some c := by
  obtain ⟨j, hj⟩ := List.getElem?_of_mem h
  have hl := kget_lt hj
  rw [List.length_take] at hl
  rw [List.getElem?_take_of_lt (by omega)] at hj
  exact ⟨j, by omega, hj⟩
theorem drop_get {α : Type} {L : List α} {i : Nat} {c : α} (h : c ∈ L.drop i) : ∃ j, i ≤ j ∧ L[j]? = some c := by
  obtain ⟨j, hj⟩ := List.getElem?_of_mem h
  rw [List.getElem?_drop] at hj
  exact ⟨i + j, by omega, hj⟩

/-- what a choice by a key tells. -/
def ByKey (key : K) (A : List Kid) (c : Kid) (B : List Kid) : Prop :=
  (∀ e ∈ esOf A, lt e.key key = true) ∧ (∀ e ∈ esOf B, lt key e.key = true) ∧ (A = [] ∨ lt key c.key = false) ∧ c.es ≠ []
theorem way_split {L : List Kid} {key : K} {i : Nat} (hne : L ≠ []) (hs : Srt (esOf L)) (hn : ∀ c ∈ L, c.es ≠ []) (h : At L key i) :
    ∃ A c B, L = A ++ c :: B ∧ A.length = wayI L key i ∧ ByKey key A c B := by
  have hks := srt_kids hs hn
  obtain ⟨h1, h2, h3⟩ := h
  have hl0 : 0 < L.length := List.length_pos_iff.2 hne
  have hlt : wayI L key i < L.length := by
    unfold wayI
    split
    · rename_i hsm
      unfold same at hsm
      cases hc : L[i]? with
      | some c => exact kget_lt hc
      | none => rw [hc] at hsm; cases hsm
    · omega
  obtain ⟨c, hc⟩ : ∃ c, L[wayI L key i]? = some c := ⟨_, List.getElem?_eq_getElem hlt⟩
  obtain ⟨e1, e2⟩ := split_at hc
  generalize hj : wayI L key i = j at hc e1 e2 hlt
  have hjc : (same L key i = true ∧ j = i ∧ c.key = key) ∨ (same L key i = false ∧ j = i - 1) := by
    unfold wayI at hj
    cases hsm : same L key i with
    | true =>
      rw [hsm] at hj
      simp only [if_true] at hj
      subst hj
      refine .inl ⟨rfl, rfl, ?_⟩
      unfold same at hsm
      rw [hc] at hsm
      simpa using hsm
    | false =>
      rw [hsm] at hj
      simp only [Bool.false_eq_true, if_false] at hj
      exact .inr ⟨rfl, hj.symm⟩
  refine ⟨L.take j, c, L.drop (j + 1), e1, e2, ?_, ?_, ?_, hn c (List.mem_of_getElem? hc)⟩
  · intro e he
    obtain ⟨a, ha, hea⟩ := mem_esOf.1 he
    have hcl : lt key c.key = false := by
      rcases hjc with ⟨_, _, h5⟩ | ⟨_, h5⟩
      · rw [h5, lt_irrefl]
      · have : 0 < j := by
          rcases Nat.eq_zero_or_pos j with h0 | h0
          · rw [h0] at ha; simp at ha
          · exact h0
        exact lt_asymm (h2 j c (by omega) hc)
    have hb : lt e.key c.key = true := by
      rw [e1, esOf_append, esOf_cons] at hs
      obtain ⟨_, _, h6⟩ := srt_append.1 hs
      obtain ⟨e0, r0, g1, g2, _⟩ := key_head (hn c (List.mem_of_getElem? hc))
      rw [← g2]
      exact h6 e he e0 (by rw [g1]; simp)
    exact lt_of_lt_of_le hb hcl
  · intro e he
    obtain ⟨a, ha, hea⟩ := mem_esOf.1 he
    obtain ⟨q, hq, hqa⟩ := drop_get ha
    have hsa : Srt a.es := by
      rw [e1, esOf_append, esOf_cons] at hs
      have h7 := (srt_append.1 (srt_append.1 hs).2.1).2.1
      exact h7.sublist ((List.sublist_flatten_of_mem (List.mem_map.2 ⟨a, ha, rfl⟩)).trans (by simp [esOf, List.flatMap]))
    have hle := key_le hsa hea
    have hak : lt key a.key = true := by
      have hpair : ∀ (p q : Nat) (a b : Kid), p < q → L[p]? = some a → L[q]? = some b → lt a.key b.key = true := by
        intro p q a b hpq ha hb
        have hpl := kget_lt ha; have hql := kget_lt hb
        rw [List.getElem?_eq_getElem hpl] at ha; rw [List.getElem?_eq_getElem hql] at hb
        simp only [Option.some.injEq] at ha hb
        subst ha; subst hb
        exact List.pairwise_iff_getElem.1 hks p q hpl hql hpq
      rcases hjc with ⟨_, h4, h5⟩ | ⟨h4, h5⟩
      · rw [← h5]; exact hpair j q c a (by omega) hc hqa
      · have h6 := h3 q a (by omega) hqa
        refine lt_of_not h6 ?_
        intro h7
        rcases Nat.lt_or_ge i q with h8 | h8
        · obtain ⟨c', hc'⟩ : ∃ c', L[i]? = some c' := ⟨_, List.getElem?_eq_getElem (Nat.lt_of_lt_of_le h8 (Nat.le_of_lt (kget_lt hqa)))⟩
          have h9 := hpair i q c' a h8 hc' hqa
          rw [h7, h3 i c' (Nat.le_refl _) hc'] at h9
          cases h9
        · have : q = i := by omega
          subst this
          unfold same at h4
          rw [hqa] at h4
          simp [h7] at h4
    exact lt_of_lt_of_le hak hle
  · rcases hjc with ⟨_, _, h5⟩ | ⟨_, h5⟩
    · right; rw [h5, lt_irrefl]
    · rcases Nat.eq_zero_or_pos j with h0 | h0
      · left; rw [h0]; rfl
      · right; exact lt_asymm (h2 j c (by omega) hc)

/-! The step down. -/
theorem zip_push {ov : Lk} {bs : List Fr} {d : Nat} {k a : Kid} {X Y : List Kid} (hz : Zip ov bs (d + 2) k.pr) (ho : ov k.x = some (nodeO true ((X ++ a :: Y).map Kid.pr))) (he : k.es = esOf (X ++ a :: Y))
    (hmn : mnOf bs ≤ (X ++ a :: Y).length) (hl : (X ++ a :: Y).length ≤ 12) (hr : ∀ c ∈ X ++ a :: Y, Rep ov (d + 1) 6 c) : Zip ov (⟨k.x, X, a.pr, Y⟩ :: bs) (d + 1) a.pr := by
  have hok : Fr.ok ov ⟨k.x, X, a.pr, Y⟩ (d + 1) (mnOf bs) := ⟨by simpa [Fr.l] using ho, fun c hc => hr c (by simp [hc]), fun c hc => hr c (by simp [hc]), by simp at hmn ⊢; omega, by simp at hl ⊢; omega⟩
  refine ⟨rfl, hok, by omega, ?_⟩
  have hne : a.es ≠ [] := (hr a (by simp)).ne (by omega)
  have h1 := Fr.kid_pr hok rfl hne
  have h2 : k.pr = (Fr.kid ⟨k.x, X, a.pr, Y⟩ a).pr := by
    unfold Kid.pr Kid.k
    rw [he]
    simp [Fr.kid]
  rw [h2, h1] at hz
  exact hz
end Go.Td
namespace Go.Td
open Go Go.Hm Go.Kd
/-- how far a way has come down. -/
structure Dn (ov : Lk) (c : Kid) (m : Nat) (I : List Ent → Kid → List Ent → Prop) (bs : List Fr) (k : Kid) (d : Nat) : Prop where
  rep : Rep ov d (if bs = [] then m else 6) k
  zip : Zip ov bs d k.pr
  es : c.es = lefts bs ++ k.es ++ rights bs
  hs : c.hs.Perm (k.hs ++ whs bs)
  top : topx bs k.x = c.x
  i : I (lefts bs) k (rights bs)
theorem Dn.start {ov : Lk} {c : Kid} {m d : Nat} {I : List Ent → Kid → List Ent → Prop} (h : Rep ov d m c) (hI : I [] c []) : Dn ov c m I [] c d :=
  ⟨by simpa using h, trivial, by simp [lefts, rights], by simp [whs], rfl, hI⟩
theorem Dn.step {ov : Lk} {c : Kid} {m e : Nat} {I : List Ent → Kid → List Ent → Prop} {P : List Kid → Kid → List Kid → Prop} {bs : List Fr} {k a : Kid} {X Y : List Kid} (h : Dn ov c m I bs k (e + 2)) (hm : 2 ≤ m)
    (hP : ∀ le k ri X a Y, I le k ri → k.es = esOf (X ++ a :: Y) → P X a Y → I (le ++ esOf X) a (esOf Y ++ ri)) (ho : ov k.x = some (nodeO true ((X ++ a :: Y).map Kid.pr))) (he : k.es = esOf (X ++ a :: Y)) (hh : k.hs = k.x :: hsOf (X ++ a :: Y))
    (hmn : (if bs = [] then m else 6) ≤ (X ++ a :: Y).length) (hl : (X ++ a :: Y).length ≤ 12) (hr : ∀ c ∈ X ++ a :: Y, Rep ov (e + 1) 6 c) (hx : P X a Y) : Dn ov c m I (⟨k.x, X, a.pr, Y⟩ :: bs) a (e + 1) := by
  refine ⟨by simpa using hr a (by simp), zip_push h.zip ho he ?_ hl hr, ?_, ?_, ?_, ?_⟩
  · cases bs with
    | nil => simp only [if_true] at hmn; exact Nat.le_trans hm hmn
    | cons _ _ => simpa [mnOf] using hmn
  · rw [h.es, he]; simp [lefts, rights]
  · refine h.hs.trans ?_
    rw [hh]
    simp only [whs, List.cons_append, hsOf_append, hsOf_cons, List.append_assoc]
    refine List.Perm.trans ?_ List.perm_middle.symm
    refine List.Perm.cons _ ?_
    exact List.perm_append_comm_assoc _ _ _
  · rw [← h.top]; rfl
  · have := hP _ _ _ X a Y h.i he hx
    simpa [lefts, rights] using this
end Go.Td

/-! The least keys above a node made right. -/
namespace Go.Td
open Go Go.Hm Go.Kd
def Fr.with (f : Fr) (k : Nat) : Fr := ⟨f.x, f.A, (k, f.p.2), f.B⟩
def fixF : List Fr → Nat → List Fr
  | [], _ => []
  | f :: r, k => if f.p.1 = k then f :: r else if f.A = [] then f.with k :: fixF r k else f.with k :: r
def fixO : Lk → List Fr → Nat → Lk
  | ov, [], _ => ov
  | ov, f :: r, k => if f.p.1 = k then ov else if f.A = [] then fixO (updO ov f.x (nodeO true (f.with k).l)) r k else updO ov f.x (nodeO true (f.with k).l)
def xs : List Fr → List Nat := List.map Fr.x
theorem xs_whs : ∀ {bs : List Fr} {z : Nat}, z ∈ xs bs → z ∈ whs bs
  | [], _, h => h
  | f :: r, z, h => by
    rcases List.mem_cons.1 h with rfl | h
    · simp [whs]
    · simp only [whs, List.mem_cons, List.mem_append]; exact .inr (.inr (xs_whs h))
theorem fixO_frame : ∀ {bs : List Fr} {ov : Lk} {k z : Nat}, z ∉ xs bs → fixO ov bs k z = ov z
  | [], _, _, _, _ => rfl
  | f :: r, ov, k, z, h => by
    have h1 : z ≠ f.x := fun e => h (by simp [xs, e])
    have h2 : z ∉ xs r := fun e => h (by simp only [xs, List.map_cons, List.mem_cons]; exact .inr e)
    unfold fixO
    split
    · rfl
    · split
      · rw [fixO_frame h2, updO_ne _ _ h1]
      · exact updO_ne _ _ h1
theorem fixO_alive : ∀ {bs : List Fr} {ov : Lk} {k z : Nat}, (ov z).isSome = true → (fixO ov bs k z).isSome = true
  | [], _, _, _, h => h
  | f :: r, ov, k, z, h => by
    have : (updO ov f.x (nodeO true (f.with k).l) z).isSome = true := by
      unfold updO
      split
      · rfl
      · exact h
    unfold fixO
    split
    · exact h
    · split
      · exact fixO_alive this
      · exact this
theorem fixF_lefts : ∀ {bs : List Fr} {k : Nat}, lefts (fixF bs k) = lefts bs
  | [], _ => rfl
  | f :: r, k => by
    unfold fixF
    split
    · rfl
    · split
      · simp only [lefts, fixF_lefts]; rfl
      · rfl
theorem fixF_rights : ∀ {bs : List Fr} {k : Nat}, rights (fixF bs k) = rights bs
  | [], _ => rfl
  | f :: r, k => by
    unfold fixF
    split
    · rfl
    · split
      · simp only [rights, fixF_rights]; rfl
      · rfl
theorem fixF_whs : ∀ {bs : List Fr} {k : Nat}, whs (fixF bs k) = whs bs
  | [], _ => rfl
  | f :: r, k => by
    unfold fixF
    split
    · rfl
    · split
      · simp only [whs, fixF_whs]; rfl
      · rfl
theorem fixF_topx : ∀ {bs : List Fr} {k x : Nat}, topx (fixF bs k) x = topx bs x
  | [], _, _ => rfl
  | f :: r, k, x => by
    unfold fixF
    split
    · rfl
    · split
      · simp only [topx, fixF_topx]; rfl
      · rfl
theorem fixF_len : ∀ {bs : List Fr} {k : Nat}, (fixF bs k).length = bs.length
  | [], _ => rfl
  | f :: r, k => by
    unfold fixF
    split
    · rfl
    · split
      · simp only [List.length_cons, fixF_len]
      · rfl
theorem fixF_mn (bs : List Fr) (k : Nat) : mnOf (fixF bs k) = mnOf bs := by
  have h := fixF_len (bs := bs) (k := k)
  cases bs <;> cases hf : fixF _ k <;> rw [hf] at h <;> simp at h <;> rfl
theorem fixF_nil {bs : List Fr} {k : Nat} : fixF bs k = [] ↔ bs = [] := by
  have h := fixF_len (bs := bs) (k := k)
  constructor
  · intro e; rw [e] at h; exact List.eq_nil_of_length_eq_zero h.symm
  · intro e; subst e; rfl
theorem fix_zip : ∀ {bs : List Fr} {ov : Lk} {d k k0 x : Nat}, Zip ov bs d (k0, x) → (whs bs).Nodup → Zip (fixO ov bs k) (fixF bs k) d (k, x)
  | [], _, _, _, _, _, _, _ => trivial
  | f :: r, ov, d, k, k0, x, ⟨h1, h2, h3, h4⟩, hnd => by
    have hnd0 := hnd
    simp only [whs, List.nodup_cons, List.mem_append, not_or] at hnd
    obtain ⟨⟨⟨n1, n2⟩, n3⟩, n4⟩ := hnd
    obtain ⟨n5, n6, n7⟩ := List.nodup_append.1 n4
    unfold fixF fixO
    split
    · rename_i e
      have : k0 = k := by rw [h1] at e; exact e
      subst this
      exact ⟨h1, h2, h3, h4⟩
    · have hw : (f.with k).p = (k, x) := by show (k, f.p.2) = _; rw [h1]
      obtain ⟨g1, g2, g3, g4, g5⟩ := h2
      have hA : ∀ c ∈ f.A, Rep (updO ov f.x (nodeO true (f.with k).l)) d 6 c := fun c hc => (g2 c hc).upd fun hh => n1 (mem_hsOf.2 ⟨c, hc, hh⟩)
      have hB : ∀ c ∈ f.B, Rep (updO ov f.x (nodeO true (f.with k).l)) d 6 c := fun c hc => (g3 c hc).upd fun hh => n2 (mem_hsOf.2 ⟨c, hc, hh⟩)
      have hz : Zip (updO ov f.x (nodeO true (f.with k).l)) r (d + 1) (f.key, f.x) := h4.upd n3
      have hok : Fr.ok (updO ov f.x (nodeO true (f.with k).l)) (f.with k) d (mnOf r) := ⟨updO_self _ _ _, hA, hB, g4, g5⟩
      split
      · rename_i e0 eA
        have hi := fix_zip (k := k) hz n6
        have hkey : (f.with k).key = k := by unfold Fr.key Fr.with; simp only [eA]
        refine ⟨hw, ?_, h3, ?_⟩
        · rw [fixF_mn]
          refine hok.frame fun z hz2 => fixO_frame fun hx => ?_
          have hzw := xs_whs hx
          rcases List.mem_cons.1 hz2 with e | hz2
          · exact n3 (by rw [show z = f.x from e] at hzw; exact hzw)
          · exact n7 z hz2 z hzw rfl
        · rw [hkey]; exact hi
      · rename_i e0 eA
        have hkey : (f.with k).key = f.key := by
          unfold Fr.key Fr.with
          cases hA2 : f.A with
          | nil => exact absurd hA2 eA
          | cons a A => rfl
        exact ⟨hw, hok, h3, by rw [hkey]; exact hz⟩
end Go.Td
