
/- A tree as plain data: nodes of kids, a way down as a row of frames, the entries to the left and right of it. No program in sight. -/
import Derived.Test.YtpicofkhioalkaaGreatKd
set_option maxRecDepth 100000
namespace Go.Td
open Go Go.Hm Go.Kd
structure Ent where
 kh : Nat
 key : K
 x : Nat
structure Kid where
 x : Nat
 es : List Ent
 hs : List Nat
def Kid.k (c : Kid) : Nat := match c.es with | e :: _ => e.kh | [] => 0
def Kid.key (c : Kid) : K := match c.es with | e :: _ => e.key | [] => []
def Kid.pr (c : Kid) : Nat × Nat := (c.k, c.x)
def flat : List (Nat × Nat) -> List Nat
 | [] => []
 | p :: l => p.1 :: p.2 :: flat l
def nodeW (l : List (Nat × Nat)) : List Nat := flat l ++ List.replicate (24 - 2 * l.length) 0 ++ [l.length]
def nodeO (inner : Bool) (l : List (Nat × Nat)) : Ov := ⟨if inner then 22 else 21, 24, nodeW l⟩
def esOf (l : List Kid) : List Ent := l.flatMap Kid.es
def hsOf (l : List Kid) : List Nat := l.flatMap Kid.hs
abbrev Lk := Nat -> Option Ov
def updO (f : Lk) (x : Nat) (o : Ov) : Lk := fun y => if y = x then some o else f y
theorem updO_self (f : Lk) (x : Nat) (o : Ov) : updO f x o x = some o := by simp [updO]
theorem updO_ne (f : Lk) {x y : Nat} (o : Ov) (h : y ≠ x) : updO f x o y = f y := by simp [updO, h]
theorem flat_len (l : List (Nat × Nat)) : (flat l).length = 2 * l.length := by
 induction l with
 | nil => rfl
 | cons p l ih => simp only [flat, List.length_cons, ih]; omega
theorem nodeW_len {l : List (Nat × Nat)} (h : l.length <= 12) : (nodeW l).length = 25 := by
 simp only [nodeW, List.length_append, flat_len, List.length_replicate, List.length_singleton]; omega
theorem flat_get0 : ∀ {l : List (Nat × Nat)} {i : Nat} {p : Nat × Nat}, l[i]? = some p -> (flat l)[2 * i]? = some p.1
 | [], i, p, h => by simp at h
 | q :: l, 0, p, h => by simp at h; subst h; rfl
 | q :: l, i + 1, p, h => by
  simp at h
  show (q.1 :: q.2 :: flat l)[2 * i + 2]? = _
  simpa using flat_get0 h
theorem flat_get1 : ∀ {l : List (Nat × Nat)} {i : Nat} {p : Nat × Nat}, l[i]? = some p -> (flat l)[2 * i + 1]? = some p.2
 | [], i, p, h => by simp at h
 | q :: l, 0, p, h => by simp at h; subst h; rfl
 | q :: l, i + 1, p, h => by
  simp at h
  show (q.1 :: q.2 :: flat l)[2 * i + 1 + 2]? = _
  simpa using flat_get1 h
theorem nodeW_get0 {l : List (Nat × Nat)} {i : Nat} {p : Nat × Nat} (h : l[i]? = some p) : (nodeW l)[2 * i]? = some p.1 := by
 have h1 := flat_get0 h
 unfold nodeW
 rw [List.append_assoc, List.getElem?_append_left (by exact kget_lt h1)]
 exact h1
theorem nodeW_get1 {l : List (Nat × Nat)} {i : Nat} {p : Nat × Nat} (h : l[i]? = some p) : (nodeW l)[2 * i + 1]? = some p.2 := by
 have h1 := flat_get1 h
 unfold nodeW
 rw [List.append_assoc, List.getElem?_append_left (by exact kget_lt h1)]
 exact h1
theorem nodeW_last {l : List (Nat × Nat)} (h : l.length <= 12) : (nodeW l)[24]? = some l.length := by
 unfold nodeW
 have e : (flat l ++ List.replicate (24 - 2 * l.length) 0).length = 24 := by
  simp only [List.length_append, flat_len, List.length_replicate]; omega
 rw [List.getElem?_append_right (by omega), e]; rfl
def Rep (ov : Lk) : Nat -> Nat -> Kid -> Prop
 | 0, _, c => ∃ e, c.es = [e] /\ c.x = e.x /\ c.hs = [e.kh] /\ ov e.kh = some (keyO e.key) /\ e.key.length <= 16384
 | d + 1, m, c => ∃ l : List Kid, ov c.x = some (nodeO (decide (0 < d)) (l.map Kid.pr)) /\ c.es = esOf l /\ c.hs = c.x :: hsOf l /\ m <= l.length /\ l.length <= 12 /\ ∀ a ∈ l, Rep ov d 6 a
theorem mem_esOf {e : Ent} {l : List Kid} : e ∈ esOf l ↔ ∃ c ∈ l, e ∈ c.es := by simp [esOf]
theorem mem_hsOf {h : Nat} {l : List Kid} : h ∈ hsOf l ↔ ∃ c ∈ l, h ∈ c.hs := by simp [hsOf]
@[simp] theorem esOf_nil : esOf [] = [] := rfl
@[simp] theorem hsOf_nil : hsOf [] = [] := rfl
@[simp] theorem esOf_cons (c : Kid) (l : List Kid) : esOf (c :: l) = c.es ++ esOf l := rfl
@[simp] theorem hsOf_cons (c : Kid) (l : List Kid) : hsOf (c :: l) = c.hs ++ hsOf l := rfl
@[simp] theorem esOf_append (a b : List Kid) : esOf (a ++ b) = esOf a ++ esOf b := by simp [esOf]
@[simp] theorem hsOf_append (a b : List Kid) : hsOf (a ++ b) = hsOf a ++ hsOf b := by simp [hsOf]
theorem Rep.frame {ov ov' : Lk} : ∀ {d m : Nat} {c : Kid}, (∀ h ∈ c.hs, ov' h = ov h) -> Rep ov d m c -> Rep ov' d m c
 | 0, _, c, hf, ⟨e, h1, h2, h3, h4, h5⟩ => ⟨e, h1, h2, h3, by rw [hf _ (by rw [h3]; simp)]; exact h4, h5⟩
 | d + 1, m, c, hf, ⟨l, h1, h2, h3, h4, h5, h6⟩ => by
  refine ⟨l, by rw [hf _ (by rw [h3]; simp)]; exact h1, h2, h3, h4, h5, fun a ha => (h6 a ha).frame fun h hh => hf h ?_⟩
  rw [h3]
  exact List.mem_cons_of_mem _ (mem_hsOf.2 ⟨a, ha, hh⟩)
theorem Rep.upd {ov : Lk} {d m : Nat} {c : Kid} {x : Nat} {o : Ov} (h : Rep ov d m c) (hx : x ∉ c.hs) : Rep (updO ov x o) d m c :=
 h.frame fun _ hh => updO_ne _ _ fun e => hx (e ▸ hh)
theorem Rep.mono {ov : Lk} : ∀ {d m m' : Nat} {c : Kid}, Rep ov d m c -> m' <= m -> Rep ov d m' c
 | 0, _, _, _, h, _ => h
 | _ + 1, _, _, _, ⟨l, h1, h2, h3, h4, h5, h6⟩, hm => ⟨l, h1, h2, h3, by omega, h5, h6⟩
theorem Rep.len {ov : Lk} : ∀ {d : Nat} {c : Kid}, Rep ov d 6 c -> 6 ^ d <= c.es.length
 | 0, c, ⟨e, h1, _⟩ => by rw [h1]; simp
 | d + 1, c, ⟨l, _, h2, _, h4, _, h6⟩ => by
  have : ∀ (l : List Kid), (∀ a ∈ l, Rep ov d 6 a) -> l.length * 6 ^ d <= (esOf l).length := by
   intro l
   induction l with
   | nil => intro _; simp
   | cons a l ih =>
    intro h
    have h1 := (h a (by simp)).len
    have h3 := ih fun b hb => h b (by simp [hb])
    rw [esOf_cons, List.length_append, List.length_cons, Nat.add_mul, Nat.one_mul]
    omega
  have h7 := this l h6
  rw [h2, Nat.pow_succ, Nat.mul_comm]
  exact Nat.le_trans (Nat.mul_le_mul_right _ h4) h7
theorem Rep.lenm {ov : Lk} {d m : Nat} {c : Kid} : Rep ov (d + 1) m c -> m * 6 ^ d <= c.es.length := by
 rintro ⟨l, _, h2, _, h4, _, h6⟩
 have : ∀ (l : List Kid), (∀ a ∈ l, Rep ov d 6 a) -> l.length * 6 ^ d <= (esOf l).length := by
  intro l
  induction l with
  | nil => intro _; simp
  | cons a l ih =>
   intro h
   have h1 := (h a (by simp)).len
   have h3 := ih fun b hb => h b (by simp [hb])
   rw [esOf_cons, List.length_append, List.length_cons, Nat.add_mul, Nat.one_mul]
   omega
 have h7 := this l h6
 rw [h2]
 exact Nat.le_trans (Nat.mul_le_mul_right _ h4) h7
theorem Rep.ne {ov : Lk} {d m : Nat} {c : Kid} (h : Rep ov d m c) (hm : 0 < m) : c.es ≠ [] := by
 cases d with
 | zero => obtain ⟨e, h1, _⟩ := h; rw [h1]; simp
 | succ d =>
  have := h.lenm
  intro e
  rw [e] at this
  have h6 : 0 < 6 ^ d := Nat.pow_pos (by omega)
  have := Nat.mul_pos hm h6
  simp at *
  omega
def KeyOK (ov : Lk) (c : Kid) : Prop := ov c.k = some (keyO c.key) /\ c.key.length <= 16384 /\ c.k ∈ c.hs /\ c.es ≠ []
theorem Rep.keyOK {ov : Lk} : ∀ {d m : Nat} {c : Kid}, Rep ov d m c -> 0 < m -> KeyOK ov c
 | 0, _, c, ⟨e, h1, h2, h3, h4, h5⟩, _ => by
  have a : c.k = e.kh := by unfold Kid.k; rw [h1]
  have b : c.key = e.key := by unfold Kid.key; rw [h1]
  exact ⟨by rw [a, b]; exact h4, by rw [b]; exact h5, by rw [a, h3]; simp, by rw [h1]; simp⟩
 | d + 1, m, c, h, hm => by
  have hne := h.ne hm
  obtain ⟨l, h1, h2, h3, h4, h5, h6⟩ := h
  cases l with
  | nil => rw [h2] at hne; exact absurd rfl hne
  | cons a l =>
   have ha := (h6 a (by simp)).keyOK (by omega)
   obtain ⟨g1, g2, g3, g4⟩ := ha
   obtain ⟨e, r, he⟩ := List.exists_cons_of_ne_nil g4
   have ak : c.k = a.k := by unfold Kid.k; rw [h2, esOf_cons, he]; rfl
   have bk : c.key = a.key := by unfold Kid.key; rw [h2, esOf_cons, he]; rfl
   exact ⟨by rw [ak, bk]; exact g1, by rw [bk]; exact g2, by rw [ak, h3, hsOf_cons]; simp [g3], hne⟩
theorem Rep.xmem {ov : Lk} {d m : Nat} {c : Kid} (h : Rep ov (d + 1) m c) : c.x ∈ c.hs := by
 obtain ⟨l, h1, h2, h3, _⟩ := h
 rw [h3]; simp
theorem Rep.live {ov : Lk} : ∀ {d m : Nat} {c : Kid}, Rep ov d m c -> ∀ h ∈ c.hs, (ov h).isSome = true
 | 0, _, c, ⟨e, h1, h2, h3, h4, h5⟩, h, hh => by rw [h3] at hh; simp at hh; subst hh; rw [h4]; rfl
 | d + 1, m, c, ⟨l, h1, h2, h3, h4, h5, h6⟩, h, hh => by
  rw [h3] at hh
  rcases List.mem_cons.1 hh with rfl | hh
  ·rw [h1]; rfl
  ·obtain ⟨a, ha, hha⟩ := mem_hsOf.1 hh
   exact (h6 a ha).live h hha
structure Fr where
 x : Nat
 A : List Kid
 p : Nat × Nat
 B : List Kid
def Fr.l (f : Fr) : List (Nat × Nat) := f.A.map Kid.pr ++ f.p :: f.B.map Kid.pr
def Fr.key (f : Fr) : Nat := match f.A with | c :: _ => c.k | [] => f.p.1
def Fr.ok (ov : Lk) (f : Fr) (d mn : Nat) : Prop :=
 ov f.x = some (nodeO true f.l) /\ (∀ c ∈ f.A, Rep ov d 6 c) /\ (∀ c ∈ f.B, Rep ov d 6 c) /\ mn <= f.A.length + 1 + f.B.length /\ f.A.length + 1 + f.B.length <= 12
def mnOf : List Fr -> Nat
 | [] => 2
 | _ :: _ => 6
def Zip (ov : Lk) : List Fr -> Nat -> Nat × Nat -> Prop
 | [], _, _ => True
 | f :: r, d, p => f.p = p /\ f.ok ov d (mnOf r) /\ 0 < d /\ Zip ov r (d + 1) (f.key, f.x)
def lefts : List Fr -> List Ent
 | [] => []
 | f :: r => lefts r ++ esOf f.A
def rights : List Fr -> List Ent
 | [] => []
 | f :: r => esOf f.B ++ rights r
def whs : List Fr -> List Nat
 | [] => []
 | f :: r => f.x :: (hsOf f.A ++ hsOf f.B ++ whs r)
def topx : List Fr -> Nat -> Nat
 | [], x => x
 | f :: r, _ => topx r f.x
theorem Fr.l_len (f : Fr) : f.l.length = f.A.length + 1 + f.B.length := by simp [Fr.l]; omega
theorem Fr.ok.frame {ov ov' : Lk} {f : Fr} {d mn : Nat} (h : f.ok ov d mn) (hf : ∀ z ∈ f.x :: (hsOf f.A ++ hsOf f.B), ov' z = ov z) : f.ok ov' d mn := by
 obtain ⟨h1, h2, h3, h4, h5⟩ := h
 refine ⟨by rw [hf _ (by simp)]; exact h1, fun c hc => (h2 c hc).frame fun z hz => hf z ?_, fun c hc => (h3 c hc).frame fun z hz => hf z ?_, h4, h5⟩
 ·exact List.mem_cons_of_mem _ (List.mem_append_left _ (mem_hsOf.2 ⟨c, hc, hz⟩))
 ·exact List.mem_cons_of_mem _ (List.mem_append_right _ (mem_hsOf.2 ⟨c, hc, hz⟩))
theorem Zip.frame {ov ov' : Lk} : ∀ {bs : List Fr} {d : Nat} {p : Nat × Nat}, Zip ov bs d p -> (∀ z ∈ whs bs, ov' z = ov z) -> Zip ov' bs d p
 | [], _, _, _, _ => trivial
 | f :: r, d, p, ⟨h1, h2, h3, h4⟩, hf => ⟨h1, h2.frame fun z hz => hf z (by simp only [whs, List.mem_cons, List.mem_append] at hz ⊢; rcases hz with h | h | h <;> simp [h]), h3, h4.frame fun z hz => hf z (by simp only [whs, List.mem_cons, List.mem_append]; simp [hz])⟩
theorem Zip.upd {ov : Lk} {bs : List Fr} {d : Nat} {p : Nat × Nat} {x : Nat} {o : Ov} (h : Zip ov bs d p) (hx : x ∉ whs bs) : Zip (updO ov x o) bs d p :=
 h.frame fun _ hh => updO_ne _ _ fun e => hx (e ▸ hh)
def Fr.kid (f : Fr) (c : Kid) : Kid := ⟨f.x, esOf f.A ++ c.es ++ esOf f.B, f.x :: (hsOf f.A ++ c.hs ++ hsOf f.B)⟩
theorem Fr.kid_rep {ov : Lk} {f : Fr} {d mn : Nat} {c : Kid} (h : f.ok ov d mn) (hd : 0 < d) (hp : f.p = c.pr) (hc : Rep ov d 6 c) : Rep ov (d + 1) mn (f.kid c) := by
 obtain ⟨h1, h2, h3, h4, h5⟩ := h
 refine ⟨f.A ++ c :: f.B, ?_, by simp [Fr.kid], by simp [Fr.kid], by simp; omega, by simp; omega, fun a ha => ?_⟩
 ·show ov f.x = _
  rw [h1]
  simp [Fr.l, hp, hd]
 ·rcases List.mem_append.1 ha with h | h
  ·exact h2 a h
  ·rcases List.mem_cons.1 h with rfl | h
   ·exact hc
   ·exact h3 a h
theorem Fr.kid_pr {ov : Lk} {f : Fr} {d mn : Nat} {c : Kid} (h : f.ok ov d mn) (hp : f.p = c.pr) (hc : c.es ≠ []) : (f.kid c).pr = (f.key, f.x) := by
 obtain ⟨_, h2, _⟩ := h
 unfold Kid.pr Fr.key
 refine Prod.ext ?_ rfl
 show (f.kid c).k = _
 cases hA : f.A with
 | nil =>
  obtain ⟨e, r, he⟩ := List.exists_cons_of_ne_nil hc
  simp only [Kid.k, Fr.kid, hA, esOf_nil, List.nil_append, he, List.cons_append, hp, Kid.pr]
 | cons a A =>
  obtain ⟨e, r, he⟩ := List.exists_cons_of_ne_nil ((h2 a (by rw [hA]; simp)).ne (by omega))
  simp only [Kid.k, Fr.kid, hA, esOf_cons, he, List.cons_append]
def plug : List Fr -> Kid -> Kid
 | [], c => c
 | f :: r, c => plug r (f.kid c)
theorem plug_es : ∀ (bs : List Fr) (c : Kid), (plug bs c).es = lefts bs ++ c.es ++ rights bs
 | [], c => by simp [plug, lefts, rights]
 | f :: r, c => by simp [plug, lefts, rights, plug_es r, Fr.kid]
theorem plug_x : ∀ (bs : List Fr) (c : Kid), (plug bs c).x = topx bs c.x
 | [], c => rfl
 | f :: r, c => by simp [plug, topx, plug_x r, Fr.kid]
theorem plug_hs : ∀ (bs : List Fr) (c : Kid), (plug bs c).hs.Perm (c.hs ++ whs bs)
 | [], c => by simp [plug, whs]
 | f :: r, c => by
  refine (plug_hs r (f.kid c)).trans ?_
  simp only [whs, Fr.kid, List.cons_append]
  refine List.Perm.trans ?_ List.perm_middle.symm
  refine List.Perm.cons _ ?_
  simp only [List.append_assoc]
  refine List.Perm.trans ?_ (List.perm_append_comm_assoc _ _ _)
  exact List.Perm.refl _
theorem plug_rep {ov : Lk} : ∀ {bs : List Fr} {d : Nat} {c : Kid} {mt : Nat}, Zip ov bs d c.pr -> Rep ov d (if bs = [] then mt else 6) c -> Rep ov (d + bs.length) (if bs = [] then mt else 2) (plug bs c)
 | [], d, c, mt, _, hc => by simpa [plug] using hc
 | f :: r, d, c, mt, ⟨h1, h2, h3, h4⟩, hc => by
  simp only [reduceCtorEq, if_false] at hc ⊢
  have e1 := Fr.kid_rep h2 h3 h1 hc
  have e2 := Fr.kid_pr h2 h1 (hc.ne (by omega))
  rw [<- e2] at h4
  have := plug_rep (mt := 2) h4 (by cases r <;> exact e1)
  have e3 : d + (f :: r).length = d + 1 + r.length := by simp; omega
  rw [e3]
  simpa [plug] using this
def Srt (es : List Ent) : Prop := es.Pairwise fun a b => lt a.key b.key = true
structure Tree (ov : Lk) (t : Nat) (es : List Ent) (hs : List Nat) : Prop where
 nd : hs.Nodup
 srt : Srt es
 at_ : (es = [] /\ hs = [t] /\ ov t = some (treeO 0 0 0)) ∨
  ∃ d c, ov t = some (treeO c.x es.length (d + 1)) /\ Rep ov (d + 1) (if d = 0 then 1 else 2) c /\ es = c.es /\ hs.Perm (t :: c.hs)
theorem Tree.frame {ov ov' : Lk} {t : Nat} {es : List Ent} {hs : List Nat} (h : Tree ov t es hs) (hf : ∀ z ∈ hs, ov' z = ov z) : Tree ov' t es hs := by
 refine ⟨h.nd, h.srt, ?_⟩
 rcases h.at_ with ⟨h1, h2, h3⟩ | ⟨d, c, h1, h2, h3, h4⟩
 ·exact .inl ⟨h1, h2, by rw [hf _ (by rw [h2]; simp)]; exact h3⟩
 ·refine .inr ⟨d, c, by rw [hf _ (h4.mem_iff.2 (by simp))]; exact h1, h2.frame fun z hz => hf z (h4.mem_iff.2 (by simp [hz])), h3, h4⟩
theorem Tree.live {ov : Lk} {t : Nat} {es : List Ent} {hs : List Nat} (h : Tree ov t es hs) : ∀ z ∈ hs, (ov z).isSome = true := by
 intro z hz
 rcases h.at_ with ⟨h1, h2, h3⟩ | ⟨d, c, h1, h2, h3, h4⟩
 ·rw [h2] at hz; simp at hz; subst hz; rw [h3]; rfl
 ·rcases List.mem_cons.1 (h4.mem_iff.1 hz) with rfl | hz
  ·rw [h1]; rfl
  ·exact h2.live z hz
end Go.Td
/- Places in a row of kids in order; the step down to a kid. No program in sight. -/
set_option maxRecDepth 100000
namespace Go.Td
open Go Go.Hm Go.Kd
def Ks (L : List Kid) : Prop := L.Pairwise fun a b => lt a.key b.key = true
def At (L : List Kid) (key : K) (i : Nat) : Prop :=
 i <= L.length /\ (∀ j c, j < i -> L[j]? = some c -> lt c.key key = true) /\ (∀ j c, i <= j -> L[j]? = some c -> lt c.key key = false)
def same (L : List Kid) (key : K) (i : Nat) : Bool := match L[i]? with | some c => decide (c.key = key) | none => false
def wayI (L : List Kid) (key : K) (i : Nat) : Nat := if same L key i then i else i - 1
theorem srt_append {a b : List Ent} : Srt (a ++ b) ↔ Srt a /\ Srt b /\ ∀ x ∈ a, ∀ y ∈ b, lt x.key y.key = true := List.pairwise_append
theorem key_head {c : Kid} (h : c.es ≠ []) : ∃ e r, c.es = e :: r /\ e.key = c.key /\ e.kh = c.k := by
 obtain ⟨e, r, he⟩ := List.exists_cons_of_ne_nil h
 exact ⟨e, r, he, by unfold Kid.key; rw [he], by unfold Kid.k; rw [he]⟩
theorem key_le {c : Kid} (hs : Srt c.es) {e : Ent} (he : e ∈ c.es) : lt e.key c.key = false := by
 obtain ⟨e0, r, h1, h2, _⟩ := key_head (List.ne_nil_of_mem he)
 rw [h1] at he hs
 rcases List.mem_cons.1 he with rfl | he
 ·rw [h2, lt_irrefl]
 ·have := (List.pairwise_cons.1 hs).1 e he
  rw [h2] at this
  exact lt_asymm this
theorem srt_kids : ∀ {L : List Kid}, Srt (esOf L) -> (∀ c ∈ L, c.es ≠ []) -> Ks L
 | [], _, _ => List.Pairwise.nil
 | c :: L, hs, hn => by
  rw [esOf_cons] at hs
  obtain ⟨h1, h2, h3⟩ := srt_append.1 hs
  refine List.Pairwise.cons (fun a ha => ?_) (srt_kids h2 fun a ha => hn a (by simp [ha]))
  obtain ⟨e, r, he, hk, _⟩ := key_head (hn c (by simp))
  obtain ⟨e', r', he', hk', _⟩ := key_head (hn a (by simp [ha]))
  rw [<- hk, <- hk']
  exact h3 e (by rw [he]; simp) e' (mem_esOf.2 ⟨a, ha, by rw [he']; simp⟩)
theorem split_at {α : Type} {L : List α} {i : Nat} {c : α} (h : L[i]? = some c) : L = L.take i ++ c :: L.drop (i + 1) /\ (L.take i).length = i := by
 have hl := kget_lt h
 refine ⟨?_, by simp; omega⟩
 rw [List.getElem?_eq_getElem hl] at h
 simp only [Option.some.injEq] at h
 have h2 : L.drop i = c :: L.drop (i + 1) := by rw [List.drop_eq_getElem_cons hl, h]
 rw [<- h2, List.take_append_drop]
theorem take_get {α : Type} {L : List α} {i : Nat} {c : α} (h : c ∈ L.take i) : ∃ j, j < i /\ L[j]? = some c := by
 obtain ⟨j, hj⟩ := List.getElem?_of_mem h
 have hl := kget_lt hj
 rw [List.length_take] at hl
 rw [List.getElem?_take_of_lt (by omega)] at hj
 exact ⟨j, by omega, hj⟩
theorem drop_get {α : Type} {L : List α} {i : Nat} {c : α} (h : c ∈ L.drop i) : ∃ j, i <= j /\ L[j]? = some c := by
 obtain ⟨j, hj⟩ := List.getElem?_of_mem h
 rw [List.getElem?_drop] at hj
 exact ⟨i + j, by omega, hj⟩
def ByKey (key : K) (A : List Kid) (c : Kid) (B : List Kid) : Prop :=
 (∀ e ∈ esOf A, lt e.key key = true) /\ (∀ e ∈ esOf B, lt key e.key = true) /\ (A = [] ∨ lt key c.key = false) /\ c.es ≠ []
theorem way_split {L : List Kid} {key : K} {i : Nat} (hne : L ≠ []) (hs : Srt (esOf L)) (hn : ∀ c ∈ L, c.es ≠ []) (h : At L key i) :
  ∃ A c B, L = A ++ c :: B /\ A.length = wayI L key i /\ ByKey key A c B := by
 have hks := srt_kids hs hn
 obtain ⟨h1, h2, h3⟩ := h
 have hl0 : 0 < L.length := List.length_pos_iff.2 hne
 have hlt : wayI L key i < L.length := by
  unfold wayI
  split
  ·rename_i hsm
   unfold same at hsm
   cases hc : L[i]? with
   | some c => exact kget_lt hc
   | none => rw [hc] at hsm; cases hsm
  ·omega
 obtain ⟨c, hc⟩ : ∃ c, L[wayI L key i]? = some c := ⟨_, List.getElem?_eq_getElem hlt⟩
 obtain ⟨e1, e2⟩ := split_at hc
 generalize hj : wayI L key i = j at hc e1 e2 hlt
 have hjc : (same L key i = true /\ j = i /\ c.key = key) ∨ (same L key i = false /\ j = i - 1) := by
  unfold wayI at hj
  cases hsm : same L key i with
  | true =>
   rw [hsm] at hj
   simp only [if_true] at hj
   subst hj
   refine .inl ⟨rfl, rfl, ?_⟩
   unfold same at hsm
   rw [hc] at hsm
   simpa using hsm
  | false =>
   rw [hsm] at hj
   simp only [Bool.false_eq_true, if_false] at hj
   exact .inr ⟨rfl, hj.symm⟩
 refine ⟨L.take j, c, L.drop (j + 1), e1, e2, ?_, ?_, ?_, hn c (List.mem_of_getElem? hc)⟩
 ·intro e he
  obtain ⟨a, ha, hea⟩ := mem_esOf.1 he
  have hcl : lt key c.key = false := by
   rcases hjc with ⟨_, _, h5⟩ | ⟨_, h5⟩
   ·rw [h5, lt_irrefl]
   ·have : 0 < j := by
     rcases Nat.eq_zero_or_pos j with h0 | h0
     ·rw [h0] at ha; simp at ha
     ·exact h0
    exact lt_asymm (h2 j c (by omega) hc)
  have hb : lt e.key c.key = true := by
   rw [e1, esOf_append, esOf_cons] at hs
   obtain ⟨_, _, h6⟩ := srt_append.1 hs
   obtain ⟨e0, r0, g1, g2, _⟩ := key_head (hn c (List.mem_of_getElem? hc))
   rw [<- g2]
   exact h6 e he e0 (by rw [g1]; simp)
  exact lt_of_lt_of_le hb hcl
 ·intro e he
  obtain ⟨a, ha, hea⟩ := mem_esOf.1 he
  obtain ⟨q, hq, hqa⟩ := drop_get ha
  have hsa : Srt a.es := by
   rw [e1, esOf_append, esOf_cons] at hs
   have h7 := (srt_append.1 (srt_append.1 hs).2.1).2.1
   exact h7.sublist ((List.sublist_flatten_of_mem (List.mem_map.2 ⟨a, ha, rfl⟩)).trans (by simp [esOf, List.flatMap]))
  have hle := key_le hsa hea
  have hak : lt key a.key = true := by
   have hpair : ∀ (p q : Nat) (a b : Kid), p < q -> L[p]? = some a -> L[q]? = some b -> lt a.key b.key = true := by
    intro p q a b hpq ha hb
    have hpl := kget_lt ha; have hql := kget_lt hb
    rw [List.getElem?_eq_getElem hpl] at ha; rw [List.getElem?_eq_getElem hql] at hb
    simp only [Option.some.injEq] at ha hb
    subst ha; subst hb
    exact List.pairwise_iff_getElem.1 hks p q hpl hql hpq
   rcases hjc with ⟨_, h4, h5⟩ | ⟨h4, h5⟩
   ·rw [<- h5]; exact hpair j q c a (by omega) hc hqa
   ·have h6 := h3 q a (by omega) hqa
    refine lt_of_not h6 ?_
    intro h7
    rcases Nat.lt_or_ge i q with h8 | h8
    ·obtain ⟨c', hc'⟩ : ∃ c', L[i]? = some c' := ⟨_, List.getElem?_eq_getElem (Nat.lt_of_lt_of_le h8 (Nat.le_of_lt (kget_lt hqa)))⟩
     have h9 := hpair i q c' a h8 hc' hqa
     rw [h7, h3 i c' (Nat.le_refl _) hc'] at h9
     cases h9
    ·have : q = i := by omega
     subst this
     unfold same at h4
     rw [hqa] at h4
     simp [h7] at h4
  exact lt_of_lt_of_le hak hle
 ·rcases hjc with ⟨_, _, h5⟩ | ⟨_, h5⟩
  ·right; rw [h5, lt_irrefl]
  ·rcases Nat.eq_zero_or_pos j with h0 | h0
   ·left; rw [h0]; rfl
   ·right; exact lt_asymm (h2 j c (by omega) hc)
theorem zip_push {ov : Lk} {bs : List Fr} {d : Nat} {k a : Kid} {X Y : List Kid} (hz : Zip ov bs (d + 2) k.pr) (ho : ov k.x = some (nodeO true ((X ++ a :: Y).map Kid.pr))) (he : k.es = esOf (X ++ a :: Y))
  (hmn : mnOf bs <= (X ++ a :: Y).length) (hl : (X ++ a :: Y).length <= 12) (hr : ∀ c ∈ X ++ a :: Y, Rep ov (d + 1) 6 c) : Zip ov (⟨k.x, X, a.pr, Y⟩ :: bs) (d + 1) a.pr := by
 have hok : Fr.ok ov ⟨k.x, X, a.pr, Y⟩ (d + 1) (mnOf bs) := ⟨by simpa [Fr.l] using ho, fun c hc => hr c (by simp [hc]), fun c hc => hr c (by simp [hc]), by simp at hmn ⊢; omega, by simp at hl ⊢; omega⟩
 refine ⟨rfl, hok, by omega, ?_⟩
 have hne : a.es ≠ [] := (hr a (by simp)).ne (by omega)
 have h1 := Fr.kid_pr hok rfl hne
 have h2 : k.pr = (Fr.kid ⟨k.x, X, a.pr, Y⟩ a).pr := by
  unfold Kid.pr Kid.k
  rw [he]
  simp [Fr.kid]
 rw [h2, h1] at hz
 exact hz
end Go.Td
namespace Go.Td
open Go Go.Hm Go.Kd
structure Dn (ov : Lk) (c : Kid) (m : Nat) (I : List Ent -> Kid -> List Ent -> Prop) (bs : List Fr) (k : Kid) (d : Nat) : Prop where
 rep : Rep ov d (if bs = [] then m else 6) k
 zip : Zip ov bs d k.pr
 es : c.es = lefts bs ++ k.es ++ rights bs
 hs : c.hs.Perm (k.hs ++ whs bs)
 top : topx bs k.x = c.x
 i : I (lefts bs) k (rights bs)
theorem Dn.start {ov : Lk} {c : Kid} {m d : Nat} {I : List Ent -> Kid -> List Ent -> Prop} (h : Rep ov d m c) (hI : I [] c []) : Dn ov c m I [] c d :=
 ⟨by simpa using h, trivial, by simp [lefts, rights], by simp [whs], rfl, hI⟩
theorem Dn.step {ov : Lk} {c : Kid} {m e : Nat} {I : List Ent -> Kid -> List Ent -> Prop} {P : List Kid -> Kid -> List Kid -> Prop} {bs : List Fr} {k a : Kid} {X Y : List Kid} (h : Dn ov c m I bs k (e + 2)) (hm : 2 <= m)
  (hP : ∀ le k ri X a Y, I le k ri -> k.es = esOf (X ++ a :: Y) -> P X a Y -> I (le ++ esOf X) a (esOf Y ++ ri)) (ho : ov k.x = some (nodeO true ((X ++ a :: Y).map Kid.pr))) (he : k.es = esOf (X ++ a :: Y)) (hh : k.hs = k.x :: hsOf (X ++ a :: Y))
  (hmn : (if bs = [] then m else 6) <= (X ++ a :: Y).length) (hl : (X ++ a :: Y).length <= 12) (hr : ∀ c ∈ X ++ a :: Y, Rep ov (e + 1) 6 c) (hx : P X a Y) : Dn ov c m I (⟨k.x, X, a.pr, Y⟩ :: bs) a (e + 1) := by
 refine ⟨by simpa using hr a (by simp), zip_push h.zip ho he ?_ hl hr, ?_, ?_, ?_, ?_⟩
 ·cases bs with
  | nil => simp only [if_true] at hmn; exact Nat.le_trans hm hmn
  | cons _ _ => simpa [mnOf] using hmn
 ·rw [h.es, he]; simp [lefts, rights]
 ·refine h.hs.trans ?_
  rw [hh]
  simp only [whs, List.cons_append, hsOf_append, hsOf_cons, List.append_assoc]
  refine List.Perm.trans ?_ List.perm_middle.symm
  refine List.Perm.cons _ ?_
  exact List.perm_append_comm_assoc _ _ _
 ·rw [<- h.top]; rfl
 ·have := hP _ _ _ X a Y h.i he hx
  simpa [lefts, rights] using this
end Go.Td
namespace Go.Td
open Go Go.Hm Go.Kd
def Fr.with (f : Fr) (k : Nat) : Fr := ⟨f.x, f.A, (k, f.p.2), f.B⟩
def fixF : List Fr -> Nat -> List Fr
 | [], _ => []
 | f :: r, k => if f.p.1 = k then f :: r else if f.A = [] then f.with k :: fixF r k else f.with k :: r
def fixO : Lk -> List Fr -> Nat -> Lk
 | ov, [], _ => ov
 | ov, f :: r, k => if f.p.1 = k then ov else if f.A = [] then fixO (updO ov f.x (nodeO true (f.with k).l)) r k else updO ov f.x (nodeO true (f.with k).l)
def xs : List Fr -> List Nat := List.map Fr.x
theorem xs_whs : ∀ {bs : List Fr} {z : Nat}, z ∈ xs bs -> z ∈ whs bs
 | [], _, h => h
 | f :: r, z, h => by
  rcases List.mem_cons.1 h with rfl | h
  ·simp [whs]
  ·simp only [whs, List.mem_cons, List.mem_append]; exact .inr (.inr (xs_whs h))
theorem fixO_frame : ∀ {bs : List Fr} {ov : Lk} {k z : Nat}, z ∉ xs bs -> fixO ov bs k z = ov z
 | [], _, _, _, _ => rfl
 | f :: r, ov, k, z, h => by
  have h1 : z ≠ f.x := fun e => h (by simp [xs, e])
  have h2 : z ∉ xs r := fun e => h (by simp only [xs, List.map_cons, List.mem_cons]; exact .inr e)
  unfold fixO
  split
  ·rfl
  ·split
   ·rw [fixO_frame h2, updO_ne _ _ h1]
   ·exact updO_ne _ _ h1
theorem fixF_lefts : ∀ {bs : List Fr} {k : Nat}, lefts (fixF bs k) = lefts bs
 | [], _ => rfl
 | f :: r, k => by
  unfold fixF
  split
  ·rfl
  ·split
   ·simp only [lefts, fixF_lefts]; rfl
   ·rfl
theorem fixF_rights : ∀ {bs : List Fr} {k : Nat}, rights (fixF bs k) = rights bs
 | [], _ => rfl
 | f :: r, k => by
  unfold fixF
  split
  ·rfl
  ·split
   ·simp only [rights, fixF_rights]; rfl
   ·rfl
theorem fixF_whs : ∀ {bs : List Fr} {k : Nat}, whs (fixF bs k) = whs bs
 | [], _ => rfl
 | f :: r, k => by
  unfold fixF
  split
  ·rfl
  ·split
   ·simp only [whs, fixF_whs]; rfl
   ·rfl
theorem fixF_topx : ∀ {bs : List Fr} {k x : Nat}, topx (fixF bs k) x = topx bs x
 | [], _, _ => rfl
 | f :: r, k, x => by
  unfold fixF
  split
  ·rfl
  ·split
   ·simp only [topx, fixF_topx]; rfl
   ·rfl
theorem fixF_len : ∀ {bs : List Fr} {k : Nat}, (fixF bs k).length = bs.length
 | [], _ => rfl
 | f :: r, k => by
  unfold fixF
  split
  ·rfl
  ·split
   ·simp only [List.length_cons, fixF_len]
   ·rfl
theorem fixF_mn (bs : List Fr) (k : Nat) : mnOf (fixF bs k) = mnOf bs := by
 have h := fixF_len (bs := bs) (k := k)
 cases bs <;> cases hf : fixF _ k <;> rw [hf] at h <;> simp at h <;> rfl
theorem fixF_nil {bs : List Fr} {k : Nat} : fixF bs k = [] ↔ bs = [] := by
 have h := fixF_len (bs := bs) (k := k)
 constructor
 ·intro e; rw [e] at h; exact List.eq_nil_of_length_eq_zero h.symm
 ·intro e; subst e; rfl
theorem fix_zip : ∀ {bs : List Fr} {ov : Lk} {d k k0 x : Nat}, Zip ov bs d (k0, x) -> (whs bs).Nodup -> Zip (fixO ov bs k) (fixF bs k) d (k, x)
 | [], _, _, _, _, _, _, _ => trivial
 | f :: r, ov, d, k, k0, x, ⟨h1, h2, h3, h4⟩, hnd => by
  have hnd0 := hnd
  simp only [whs, List.nodup_cons, List.mem_append, not_or] at hnd
  obtain ⟨⟨⟨n1, n2⟩, n3⟩, n4⟩ := hnd
  obtain ⟨n5, n6, n7⟩ := List.nodup_append.1 n4
  unfold fixF fixO
  split
  ·rename_i e
   have : k0 = k := by rw [h1] at e; exact e
   subst this
   exact ⟨h1, h2, h3, h4⟩
  ·have hw : (f.with k).p = (k, x) := by show (k, f.p.2) = _; rw [h1]
   obtain ⟨g1, g2, g3, g4, g5⟩ := h2
   have hA : ∀ c ∈ f.A, Rep (updO ov f.x (nodeO true (f.with k).l)) d 6 c := fun c hc => (g2 c hc).upd fun hh => n1 (mem_hsOf.2 ⟨c, hc, hh⟩)
   have hB : ∀ c ∈ f.B, Rep (updO ov f.x (nodeO true (f.with k).l)) d 6 c := fun c hc => (g3 c hc).upd fun hh => n2 (mem_hsOf.2 ⟨c, hc, hh⟩)
   have hz : Zip (updO ov f.x (nodeO true (f.with k).l)) r (d + 1) (f.key, f.x) := h4.upd n3
   have hok : Fr.ok (updO ov f.x (nodeO true (f.with k).l)) (f.with k) d (mnOf r) := ⟨updO_self _ _ _, hA, hB, g4, g5⟩
   split
   ·rename_i e0 eA
    have hi := fix_zip (k := k) hz n6
    have hkey : (f.with k).key = k := by unfold Fr.key Fr.with; simp only [eA]
    refine ⟨hw, ?_, h3, ?_⟩
    ·rw [fixF_mn]
     refine hok.frame fun z hz2 => fixO_frame fun hx => ?_
     have hzw := xs_whs hx
     rcases List.mem_cons.1 hz2 with e | hz2
     ·exact n3 (by rw [show z = f.x from e] at hzw; exact hzw)
     ·exact n7 z hz2 z hzw rfl
    ·rw [hkey]; exact hi
   ·rename_i e0 eA
    have hkey : (f.with k).key = f.key := by
     unfold Fr.key Fr.with
     cases hA2 : f.A with
     | nil => exact absurd hA2 eA
     | cons a A => rfl
    exact ⟨hw, hok, h3, by rw [hkey]; exact hz⟩
end Go.Td
/- More entries in a node: the tree's data behind each turn. No program in sight. -/
set_option maxRecDepth 100000
namespace Go.Td
open Go Go.Hm Go.Kd
def mkKid (x : Nat) (L : List Kid) : Kid := ⟨x, esOf L, x :: hsOf L⟩
theorem mkKid_rep {ov : Lk} {d m x : Nat} {L : List Kid} (ho : ov x = some (nodeO (decide (0 < d)) (L.map Kid.pr))) (hm : m <= L.length) (hl : L.length <= 12) (hr : ∀ c ∈ L, Rep ov d 6 c) : Rep ov (d + 1) m (mkKid x L) :=
 ⟨L, ho, rfl, rfl, hm, hl, hr⟩
theorem mkKid_k {x : Nat} {c : Kid} {L : List Kid} (hc : c.es ≠ []) : (mkKid x (c :: L)).k = c.k := by
 obtain ⟨e, r, he⟩ := List.exists_cons_of_ne_nil hc
 simp [Kid.k, mkKid, he]
def firstK (L : List Kid) : Nat := match L with | c :: _ => c.k | [] => 0
theorem mkKid_pr {ov : Lk} {d x : Nat} {L : List Kid} (h0 : L ≠ []) (hr : ∀ c ∈ L, Rep ov d 6 c) : (mkKid x L).pr = (firstK L, x) := by
 obtain ⟨c, r, rfl⟩ := List.exists_cons_of_ne_nil h0
 unfold Kid.pr
 rw [mkKid_k ((hr c (by simp)).ne (by omega))]; rfl
structure GS (ov : Lk) (t n D : Nat) (ES : List Ent) (bs : List Fr) (x : Nat) (L : List Kid) (d k0 : Nat) : Prop where
 zip : Zip ov bs (d + 1) (k0, x)
 kids : ∀ c ∈ L, Rep ov d 6 c
 nd : (t :: x :: (hsOf L ++ whs bs)).Nodup
 node : ∃ l, ov x = some (nodeO (decide (0 < d)) l) /\ l.length <= 12
 tree : ov t = some (treeO (topx bs x) n D)
 dep : D = d + 1 + bs.length
 es : lefts bs ++ esOf L ++ rights bs = ES
structure Done (ov : Lk) (t n D : Nat) (ES : List Ent) (V : List Nat) (root : Kid) : Prop where
 tree : ov t = some (treeO root.x n (D + 1))
 rep : Rep ov (D + 1) (if D = 0 then 1 else 2) root
 es : root.es = ES
 hs : (t :: root.hs).Perm V
theorem zip_of_nd {t x : Nat} {L : List Kid} {bs : List Fr} (h : (t :: x :: (hsOf L ++ whs bs)).Nodup) : t ≠ x /\ t ∉ hsOf L /\ t ∉ whs bs /\ x ∉ hsOf L /\ x ∉ whs bs /\ (hsOf L).Nodup /\ (whs bs).Nodup /\ ∀ z ∈ hsOf L, z ∉ whs bs := by
 simp only [List.nodup_cons, List.mem_cons, List.mem_append, not_or] at h
 obtain ⟨⟨h1, h2, h3⟩, ⟨h4, h5⟩, h6⟩ := h
 obtain ⟨h7, h8, h9⟩ := List.nodup_append.1 h6
 exact ⟨h1, h2, h3, h4, h5, h7, h8, fun z hz hz2 => h9 z hz z hz2 rfl⟩
theorem GS.fin {ov : Lk} {t n D : Nat} {ES : List Ent} {bs : List Fr} {x : Nat} {L : List Kid} {d k0 : Nat} (h : GS ov t n D ES bs x L d k0) (h0 : L ≠ []) (h1 : bs ≠ [] -> 6 <= L.length) (h2 : 0 < d -> 2 <= L.length) (h3 : L.length <= 12) :
  ∃ root, Done (fixO (updO ov x (nodeO (decide (0 < d)) (L.map Kid.pr))) bs (firstK L)) t n (d + bs.length) ES (t :: x :: (hsOf L ++ whs bs)) root := by
 obtain ⟨a1, a2, a3, a4, a5, a6, a7, a8⟩ := zip_of_nd h.nd
 generalize hov : updO ov x (nodeO (decide (0 < d)) (L.map Kid.pr)) = ov1
 have hz1 : Zip ov1 bs (d + 1) (k0, x) := by rw [<- hov]; exact h.zip.upd a5
 have hz2 := fix_zip (k := firstK L) hz1 a7
 have hfr : ∀ z, z ∉ whs bs -> fixO ov1 bs (firstK L) z = ov1 z := fun z hz => fixO_frame fun hx => hz (xs_whs hx)
 have hk1 : ∀ c ∈ L, Rep ov1 d 6 c := fun c hc => by rw [<- hov]; exact (h.kids c hc).upd fun hh => a4 (mem_hsOf.2 ⟨c, hc, hh⟩)
 have hk2 : ∀ c ∈ L, Rep (fixO ov1 bs (firstK L)) d 6 c := fun c hc => (hk1 c hc).frame fun z hz => hfr z (a8 z (mem_hsOf.2 ⟨c, hc, hz⟩))
 have hx2 : fixO ov1 bs (firstK L) x = some (nodeO (decide (0 < d)) (L.map Kid.pr)) := by rw [hfr x a5, <- hov, updO_self]
 have hpos := List.length_pos_iff.2 h0
 have hrep : Rep (fixO ov1 bs (firstK L)) (d + 1) (if fixF bs (firstK L) = [] then (if d = 0 then 1 else 2) else 6) (mkKid x L) := by
  refine mkKid_rep hx2 ?_ h3 hk2
  by_cases e : bs = []
  ·rw [if_pos (fixF_nil.2 e)]
   split <;> omega
  ·rw [if_neg (fun e2 => e (fixF_nil.1 e2))]; exact h1 e
 rw [<- mkKid_pr (x := x) h0 hk1] at hz2
 have hp := plug_rep hz2 hrep
 refine ⟨plug (fixF bs (firstK L)) (mkKid x L), ?_, ?_, ?_, ?_⟩
 ·rw [plug_x, fixF_topx, hfr t a3, <- hov, updO_ne _ _ a1, h.tree, h.dep]
  have : d + 1 + bs.length = d + bs.length + 1 := by omega
  rw [this]; rfl
 ·rw [fixF_len] at hp
  have e1 : d + 1 + bs.length = d + bs.length + 1 := by omega
  rw [e1] at hp
  by_cases e : bs = []
  ·subst e
   have e9 : fixF [] (firstK L) = [] := rfl
   rw [e9] at hp ⊢
   simpa using hp
  ·rw [if_neg (fun e2 => e (fixF_nil.1 e2))] at hp
   have : 0 < bs.length := List.length_pos_iff.2 e
   rw [if_neg (by omega)]
   exact hp
 ·rw [plug_es, fixF_lefts, fixF_rights]; exact h.es
 ·refine List.Perm.cons _ ?_
  refine (plug_hs _ _).trans ?_
  rw [fixF_whs]
  simp [mkKid]
theorem GS.up {ov : Lk} {t n D : Nat} {ES : List Ent} {f : Fr} {r : List Fr} {x y : Nat} {L1 L2 : List Kid} {d k0 : Nat} (h : GS ov t n D ES (f :: r) x (L1 ++ L2) d k0) (h1 : 6 <= L1.length /\ L1.length <= 12) (h2 : 6 <= L2.length /\ L2.length <= 12)
  (hy : y ∉ t :: x :: (hsOf (L1 ++ L2) ++ whs (f :: r))) :
  GS (updO (updO ov y (nodeO (decide (0 < d)) (L2.map Kid.pr))) x (nodeO (decide (0 < d)) (L1.map Kid.pr))) t n D ES r f.x (f.A ++ mkKid x L1 :: mkKid y L2 :: f.B) (d + 1) f.key /\
   (t :: f.x :: (hsOf (f.A ++ mkKid x L1 :: mkKid y L2 :: f.B) ++ whs r)).Perm (y :: t :: x :: (hsOf (L1 ++ L2) ++ whs (f :: r))) := by
 obtain ⟨a1, a2, a3, a4, a5, a6, a7, a8⟩ := zip_of_nd h.nd
 have hperm : (t :: f.x :: (hsOf (f.A ++ mkKid x L1 :: mkKid y L2 :: f.B) ++ whs r)).Perm (y :: t :: x :: (hsOf (L1 ++ L2) ++ whs (f :: r))) := by
  rw [List.perm_iff_count]
  intro z
  simp only [whs, mkKid, hsOf_append, hsOf_cons, List.count_cons, List.count_append]
  omega
 simp only [List.mem_cons, List.mem_append, not_or] at hy
 obtain ⟨b1, b2, b3, b4⟩ := hy
 obtain ⟨z1, z2, z3, z4⟩ := h.zip
 have hyx : x ≠ y := fun e => b2 e.symm
 have hfx : f.x ∈ whs (f :: r) := by simp [whs]
 have hA : ∀ z ∈ hsOf f.A, z ∈ whs (f :: r) := fun z hz => by simp [whs, hz]
 have hB : ∀ z ∈ hsOf f.B, z ∈ whs (f :: r) := fun z hz => by simp [whs, hz]
 have hr : ∀ z ∈ whs r, z ∈ whs (f :: r) := fun z hz => by simp [whs, hz]
 generalize hov : updO (updO ov y (nodeO (decide (0 < d)) (L2.map Kid.pr))) x (nodeO (decide (0 < d)) (L1.map Kid.pr)) = ov'
 have hfr : ∀ z, z ≠ x -> z ≠ y -> ov' z = ov z := fun z e1 e2 => by rw [<- hov, updO_ne _ _ e1, updO_ne _ _ e2]
 have hw : ∀ z ∈ whs (f :: r), ov' z = ov z := fun z hz => hfr z (fun e => a5 (e ▸ hz)) (fun e => b4 (e ▸ hz))
 have hk : ∀ c ∈ L1 ++ L2, Rep ov' d 6 c := fun c hc => (h.kids c hc).frame fun z hz => by
  have hm : z ∈ hsOf (L1 ++ L2) := mem_hsOf.2 ⟨c, hc, hz⟩
  exact hfr z (fun e => a4 (e ▸ hm)) (fun e => b3 (e ▸ hm))
 have hx1 : ov' x = some (nodeO (decide (0 < d)) (L1.map Kid.pr)) := by rw [<- hov, updO_self]
 have hy1 : ov' y = some (nodeO (decide (0 < d)) (L2.map Kid.pr)) := by rw [<- hov, updO_ne _ _ (fun e => hyx e.symm), updO_self]
 have r1 : Rep ov' (d + 1) 6 (mkKid x L1) := mkKid_rep hx1 h1.1 h1.2 fun c hc => hk c (by simp [hc])
 have r2 : Rep ov' (d + 1) 6 (mkKid y L2) := mkKid_rep hy1 h2.1 h2.2 fun c hc => hk c (by simp [hc])
 obtain ⟨g1, g2, g3, g4, g5⟩ := z2
 refine ⟨⟨z4.frame fun z hz => hw z (hr z hz), ?_, ?_, ⟨f.l, ?_, ?_⟩, ?_, ?_, ?_⟩, hperm⟩
 ·intro c hc
  rcases List.mem_append.1 hc with hc | hc
  ·exact (g2 c hc).frame fun z hz => hw z (hA z (mem_hsOf.2 ⟨c, hc, hz⟩))
  ·rcases List.mem_cons.1 hc with rfl | hc
   ·exact r1
   ·rcases List.mem_cons.1 hc with rfl | hc
    ·exact r2
    ·exact (g3 c hc).frame fun z hz => hw z (hB z (mem_hsOf.2 ⟨c, hc, hz⟩))
 ·refine hperm.nodup_iff.2 (List.nodup_cons.2 ⟨?_, h.nd⟩)
  simp only [List.mem_cons, List.mem_append, not_or]
  exact ⟨b1, b2, b3, b4⟩
 ·rw [hw _ hfx, g1]; simp
 ·rw [Fr.l_len]; exact g5
 ·rw [hfr t a1 (fun e => b1 e.symm)]; exact h.tree
 ·rw [h.dep]; simp; omega
 ·rw [<- h.es]; simp [lefts, rights, mkKid]
theorem GS.top {ov : Lk} {t n D : Nat} {ES : List Ent} {x y z : Nat} {L1 L2 : List Kid} {d k0 : Nat} (h : GS ov t n D ES [] x (L1 ++ L2) d k0) (h1 : 6 <= L1.length /\ L1.length <= 12) (h2 : 6 <= L2.length /\ L2.length <= 12)
  (hy : y ∉ t :: x :: (hsOf (L1 ++ L2) ++ whs [])) (hz : z ∉ y :: t :: x :: (hsOf (L1 ++ L2) ++ whs [])) :
  ∃ root, Done (updO (updO (updO (updO ov y (nodeO (decide (0 < d)) (L2.map Kid.pr))) x (nodeO (decide (0 < d)) (L1.map Kid.pr))) z (nodeO true [(firstK L1, x), (firstK L2, y)])) t (treeO z n (D + 1))) t n D ES
   (z :: y :: t :: x :: (hsOf (L1 ++ L2) ++ whs [])) root := by
 obtain ⟨a1, a2, a3, a4, a5, a6, a7, a8⟩ := zip_of_nd h.nd
 simp only [List.mem_cons, List.mem_append, not_or] at hy hz
 obtain ⟨b1, b2, b3, b4⟩ := hy
 obtain ⟨c0, c1, c2, c3, c4⟩ := hz
 generalize hov : updO (updO (updO (updO ov y (nodeO (decide (0 < d)) (L2.map Kid.pr))) x (nodeO (decide (0 < d)) (L1.map Kid.pr))) z (nodeO true [(firstK L1, x), (firstK L2, y)])) t (treeO z n (D + 1)) = ov'
 have hfr : ∀ q, q ≠ x -> q ≠ y -> q ≠ z -> q ≠ t -> ov' q = ov q := fun q e1 e2 e3 e4 => by rw [<- hov, updO_ne _ _ e4, updO_ne _ _ e3, updO_ne _ _ e1, updO_ne _ _ e2]
 have hk : ∀ c ∈ L1 ++ L2, Rep ov' d 6 c := fun c hc => (h.kids c hc).frame fun q hq => by
  have hm : q ∈ hsOf (L1 ++ L2) := mem_hsOf.2 ⟨c, hc, hq⟩
  exact hfr q (fun e => a4 (e ▸ hm)) (fun e => b3 (e ▸ hm)) (fun e => c3 (e ▸ hm)) (fun e => a2 (e ▸ hm))
 have hx1 : ov' x = some (nodeO (decide (0 < d)) (L1.map Kid.pr)) := by rw [<- hov, updO_ne _ _ (fun e => a1 e.symm), updO_ne _ _ (fun e => c2 e.symm), updO_self]
 have hy1 : ov' y = some (nodeO (decide (0 < d)) (L2.map Kid.pr)) := by rw [<- hov, updO_ne _ _ b1, updO_ne _ _ (fun e => c0 e.symm), updO_ne _ _ b2, updO_self]
 have hz1 : ov' z = some (nodeO true [(firstK L1, x), (firstK L2, y)]) := by rw [<- hov, updO_ne _ _ c1, updO_self]
 have r1 : Rep ov' (d + 1) 6 (mkKid x L1) := mkKid_rep hx1 h1.1 h1.2 fun c hc => hk c (by simp [hc])
 have r2 : Rep ov' (d + 1) 6 (mkKid y L2) := mkKid_rep hy1 h2.1 h2.2 fun c hc => hk c (by simp [hc])
 have n1 : L1 ≠ [] := by intro e; rw [e] at h1; simp at h1
 have n2 : L2 ≠ [] := by intro e; rw [e] at h2; simp at h2
 have p1 := mkKid_pr (x := x) n1 fun c hc => hk c (by simp [hc])
 have p2 := mkKid_pr (x := y) n2 fun c hc => hk c (by simp [hc])
 have hD : D = d + 1 := by rw [h.dep]; rfl
 refine ⟨mkKid z [mkKid x L1, mkKid y L2], ?_, ?_, ?_, ?_⟩
 ·rw [<- hov, updO_self]; rfl
 ·rw [hD, if_neg (by omega)]
  refine mkKid_rep (by rw [hz1]; simp [p1, p2]) (by simp) (by simp) ?_
  intro c hc
  simp only [List.mem_cons, List.not_mem_nil, or_false] at hc
  rcases hc with rfl | rfl
  ·exact r1
  ·exact r2
 ·have := h.es
  simp only [lefts, rights, List.nil_append, List.append_nil] at this
  rw [<- this]
  simp [mkKid]
 ·rw [List.perm_iff_count]
  intro q
  simp only [whs, mkKid, hsOf_append, hsOf_cons, hsOf_nil, List.count_cons, List.count_append, List.append_nil]
  omega
end Go.Td
/- A tree's entries as a sorted list: put, taken, asked for. No program in sight. -/
set_option maxRecDepth 100000
namespace Go.Td
open Go Go.Hm Go.Kd
abbrev KV := List (K × Nat)
def kv (es : List Ent) : KV := es.map fun e => (e.key, e.x)
@[simp] theorem kv_nil : kv [] = [] := rfl
@[simp] theorem kv_cons (e : Ent) (l : List Ent) : kv (e :: l) = (e.key, e.x) :: kv l := rfl
@[simp] theorem kv_append (a b : List Ent) : kv (a ++ b) = kv a ++ kv b := by simp [kv]
def SrtK (l : KV) : Prop := l.Pairwise fun a b => lt a.1 b.1 = true
theorem srt_kv {es : List Ent} : Srt es ↔ SrtK (kv es) := by unfold Srt SrtK kv; rw [List.pairwise_map]
structure Cut (l : KV) (key : K) (A o C : KV) : Prop where
 eq : l = A ++ o ++ C
 lo : ∀ a ∈ A, lt a.1 key = true
 hi : ∀ c ∈ C, lt key c.1 = true
 at_ : o = [] ∨ ∃ y, o = [(key, y)]
theorem srtK_append {a b : KV} : SrtK (a ++ b) ↔ SrtK a /\ SrtK b /\ ∀ x ∈ a, ∀ y ∈ b, lt x.1 y.1 = true := List.pairwise_append
theorem Cut.put {l A o C : KV} {key : K} (h : Cut l key A o C) (hs : SrtK l) (x : Nat) : SrtK (A ++ (key, x) :: C) := by
 rw [h.eq, List.append_assoc] at hs
 obtain ⟨h1, h2, h3⟩ := srtK_append.1 hs
 obtain ⟨h4, h5, h6⟩ := srtK_append.1 h2
 refine srtK_append.2 ⟨h1, List.pairwise_cons.2 ⟨fun c hc => h.hi c hc, h5⟩, fun a ha c hc => ?_⟩
 rcases List.mem_cons.1 hc with rfl | hc
 ·exact h.lo a ha
 ·exact h3 a ha c (by simp [hc])
theorem Cut.take {l A o C : KV} {key : K} (h : Cut l key A o C) (hs : SrtK l) : SrtK (A ++ C) := by
 rw [h.eq, List.append_assoc] at hs
 obtain ⟨h1, h2, h3⟩ := srtK_append.1 hs
 obtain ⟨h4, h5, h6⟩ := srtK_append.1 h2
 exact srtK_append.2 ⟨h1, h5, fun a ha c hc => h3 a ha c (by simp [hc])⟩
theorem kv_lo {es : List Ent} {key : K} (h : ∀ e ∈ es, lt e.key key = true) : ∀ a ∈ kv es, lt a.1 key = true := by
 intro a ha
 obtain ⟨e, he, rfl⟩ := List.mem_map.1 ha
 exact h e he
theorem kv_hi {es : List Ent} {key : K} (h : ∀ e ∈ es, lt key e.key = true) : ∀ a ∈ kv es, lt key a.1 = true := by
 intro a ha
 obtain ⟨e, he, rfl⟩ := List.mem_map.1 ha
 exact h e he
def InKey (key : K) (le : List Ent) (k : Kid) (ri : List Ent) : Prop := (∀ e ∈ le, lt e.key key = true) /\ (∀ e ∈ ri, lt key e.key = true) /\ (le = [] ∨ lt key k.key = false)
theorem inKey_step {key : K} : ∀ le k ri X a Y, InKey key le k ri -> k.es = esOf (X ++ a :: Y) -> ByKey key X a Y -> InKey key (le ++ esOf X) a (esOf Y ++ ri) := by
 rintro le k ri X a Y ⟨h1, h2, h3⟩ he ⟨g1, g2, g3, hne⟩
 refine ⟨fun e hm => ?_, fun e hm => ?_, ?_⟩
 ·rcases List.mem_append.1 hm with hm | hm
  ·exact h1 e hm
  ·exact g1 e hm
 ·rcases List.mem_append.1 hm with hm | hm
  ·exact g2 e hm
  ·exact h2 e hm
 ·rcases g3 with rfl | g3
  ·rcases h3 with rfl | h3
   ·left; rfl
   ·right
    have : k.key = a.key := by
     obtain ⟨e, r, hae⟩ := List.exists_cons_of_ne_nil hne
     unfold Kid.key
     rw [he, List.nil_append, esOf_cons, hae]; rfl
    rw [<- this]; exact h3
  ·exact .inr g3
theorem at_cut {L : List Kid} {key : K} {i : Nat} {ov : Lk} (h : At L key i) (hr : ∀ c ∈ L, Rep ov 0 6 c) (hs : Srt (esOf L)) :
  (∀ e ∈ esOf (L.take i), lt e.key key = true) /\ (same L key i = false -> ∀ e ∈ esOf (L.drop i), lt key e.key = true) /\
   (same L key i = true -> ∃ c, L[i]? = some c /\ c.key = key /\ (∀ e ∈ esOf (L.drop (i + 1)), lt key e.key = true)) := by
 have hone : ∀ c ∈ L, ∀ e ∈ c.es, e.key = c.key := by
  intro c hc e he
  obtain ⟨e0, h1, _⟩ := hr c hc
  rw [h1] at he
  simp only [List.mem_cons, List.not_mem_nil, or_false] at he
  subst he
  unfold Kid.key; rw [h1]
 have hks := srt_kids hs fun c hc => (hr c hc).ne (by omega)
 have hpair : ∀ (p q : Nat) (a b : Kid), p < q -> L[p]? = some a -> L[q]? = some b -> lt a.key b.key = true := by
  intro p q a b hpq ha hb
  have hpl := kget_lt ha; have hql := kget_lt hb
  rw [List.getElem?_eq_getElem hpl] at ha; rw [List.getElem?_eq_getElem hql] at hb
  simp only [Option.some.injEq] at ha hb
  subst ha; subst hb
  exact List.pairwise_iff_getElem.1 hks p q hpl hql hpq
 obtain ⟨h1, h2, h3⟩ := h
 refine ⟨fun e he => ?_, fun hsm e he => ?_, fun hsm => ?_⟩
 ·obtain ⟨c, hc, hce⟩ := mem_esOf.1 he
  obtain ⟨j, hj, hjc⟩ := take_get hc
  rw [hone c (List.mem_of_getElem? hjc) e hce]
  exact h2 j c hj hjc
 ·obtain ⟨c, hc, hce⟩ := mem_esOf.1 he
  obtain ⟨j, hj, hjc⟩ := drop_get hc
  rw [hone c (List.mem_of_getElem? hjc) e hce]
  refine lt_of_not (h3 j c hj hjc) fun h7 => ?_
  rcases Nat.lt_or_ge i j with h8 | h8
  ·obtain ⟨c', hc'⟩ : ∃ c', L[i]? = some c' := ⟨_, List.getElem?_eq_getElem (Nat.lt_of_lt_of_le h8 (Nat.le_of_lt (kget_lt hjc)))⟩
   have h9 := hpair i j c' c h8 hc' hjc
   rw [h7, h3 i c' (Nat.le_refl _) hc'] at h9
   cases h9
  ·have : j = i := by omega
   subst this
   unfold same at hsm
   rw [hjc] at hsm
   simp [h7] at hsm
 ·unfold same at hsm
  cases hc : L[i]? with
  | none => rw [hc] at hsm; cases hsm
  | some c =>
   rw [hc] at hsm
   have hck : c.key = key := by simpa using hsm
   refine ⟨c, rfl, hck, fun e he => ?_⟩
   obtain ⟨c', hc', hce⟩ := mem_esOf.1 he
   obtain ⟨j, hj, hjc⟩ := drop_get hc'
   rw [hone c' (List.mem_of_getElem? hjc) e hce, <- hck]
   exact hpair i j c c' (by omega) hc hjc
end Go.Td
/- Fewer entries in a node: two nodes beside one another, made one, or shared anew. No program in sight. -/
set_option maxRecDepth 100000
namespace Go.Td
open Go Go.Hm Go.Kd
structure Sib (ov : Lk) (t n D : Nat) (ES : List Ent) (r : List Fr) (fx fk y1 y2 : Nat) (A B M : List Kid) (d : Nat) (V : List Nat) (lf : List (Nat × Nat)) : Prop where
 zip : Zip ov r (d + 2) (fk, fx)
 kA : ∀ c ∈ A, Rep ov (d + 1) 6 c
 kB : ∀ c ∈ B, Rep ov (d + 1) 6 c
 kM : ∀ c ∈ M, Rep ov d 6 c
 node1 : ∃ l, ov y1 = some (nodeO (decide (0 < d)) l) /\ l.length <= 12
 node2 : ∃ l, ov y2 = some (nodeO (decide (0 < d)) l) /\ l.length <= 12
 nodef : ∃ l, ov fx = some (nodeO true l) /\ l.length <= 12
 tree : ov t = some (treeO (topx r fx) n D)
 dep : D = d + 2 + r.length
 es : lefts r ++ (esOf A ++ esOf M ++ esOf B) ++ rights r = ES
 perm : (t :: fx :: y1 :: y2 :: (hsOf A ++ hsOf M ++ hsOf B ++ whs r)).Perm V
 nd : V.Nodup
 lf_eq : ∃ ka kb, lf = A.map Kid.pr ++ (ka, y1) :: (kb, y2) :: B.map Kid.pr
theorem Sib.ofA {ov : Lk} {t n D : Nat} {ES : List Ent} {f : Fr} {r : List Fr} {x : Nat} {L : List Kid} {d k0 : Nat} (h : GS ov t n D ES (f :: r) x L d k0) {A : List Kid} {a : Kid} {La : List Kid} (hA : f.A = A ++ [a])
  (h1 : ov a.x = some (nodeO (decide (0 < d)) (La.map Kid.pr))) (h2 : a.es = esOf La) (h3 : a.hs = a.x :: hsOf La) (h4 : La.length <= 12) (h5 : ∀ c ∈ La, Rep ov d 6 c) :
  Sib ov t n D ES r f.x f.key a.x x A f.B (La ++ L) d (t :: x :: (hsOf L ++ whs (f :: r))) f.l := by
 obtain ⟨z1, ⟨g1, g2, g3, g4, g5⟩, z3, z4⟩ := h.zip
 refine ⟨z4, fun c hc => g2 c (by rw [hA]; simp [hc]), g3, ?_, ⟨La.map Kid.pr, h1, by simpa using h4⟩, h.node, ⟨f.l, g1, by rw [Fr.l_len]; exact g5⟩, h.tree, by rw [h.dep]; simp; omega, ?_, ?_, h.nd, ⟨a.k, k0, ?_⟩⟩
 ·intro c hc
  rcases List.mem_append.1 hc with hc | hc
  ·exact h5 c hc
  ·exact h.kids c hc
 ·rw [<- h.es]; simp [lefts, rights, hA, h2]
 ·rw [List.perm_iff_count]
  intro z
  simp only [whs, hA, hsOf_append, hsOf_cons, hsOf_nil, h3, List.count_cons, List.count_append, List.append_nil]
  omega
 ·simp [Fr.l, hA, z1, Kid.pr]
theorem Sib.ofB {ov : Lk} {t n D : Nat} {ES : List Ent} {f : Fr} {r : List Fr} {x : Nat} {L : List Kid} {d k0 : Nat} (h : GS ov t n D ES (f :: r) x L d k0) {B : List Kid} {c : Kid} {Lc : List Kid} (hA : f.A = []) (hB : f.B = c :: B)
  (h1 : ov c.x = some (nodeO (decide (0 < d)) (Lc.map Kid.pr))) (h2 : c.es = esOf Lc) (h3 : c.hs = c.x :: hsOf Lc) (h4 : Lc.length <= 12) (h5 : ∀ c ∈ Lc, Rep ov d 6 c) :
  Sib ov t n D ES r f.x f.key x c.x [] B (L ++ Lc) d (t :: x :: (hsOf L ++ whs (f :: r))) f.l := by
 obtain ⟨z1, ⟨g1, g2, g3, g4, g5⟩, z3, z4⟩ := h.zip
 refine ⟨z4, fun c hc => by simp at hc, fun e he => g3 e (by rw [hB]; simp [he]), ?_, h.node, ⟨Lc.map Kid.pr, h1, by simpa using h4⟩, ⟨f.l, g1, by rw [Fr.l_len]; exact g5⟩, h.tree, by rw [h.dep]; simp; omega, ?_, ?_, h.nd, ⟨k0, c.k, ?_⟩⟩
 ·intro e he
  rcases List.mem_append.1 he with he | he
  ·exact h.kids e he
  ·exact h5 e he
 ·rw [<- h.es]; simp [lefts, rights, hA, hB, h2]
 ·rw [List.perm_iff_count]
  intro z
  simp only [whs, hA, hB, hsOf_append, hsOf_cons, hsOf_nil, h3, List.count_cons, List.count_append, List.nil_append]
  omega
 ·simp [Fr.l, hA, hB, z1, Kid.pr]
theorem Sib.ne {ov : Lk} {t n D : Nat} {ES : List Ent} {r : List Fr} {fx fk y1 y2 : Nat} {A B M : List Kid} {d : Nat} {V : List Nat} {lf : List (Nat × Nat)} (h : Sib ov t n D ES r fx fk y1 y2 A B M d V lf) :
  t ≠ fx /\ t ≠ y1 /\ t ≠ y2 /\ fx ≠ y1 /\ fx ≠ y2 /\ y1 ≠ y2 /\ (∀ z, z ∈ hsOf A ∨ z ∈ hsOf M ∨ z ∈ hsOf B ∨ z ∈ whs r -> z ≠ t /\ z ≠ fx /\ z ≠ y1 /\ z ≠ y2) := by
 have h1 := h.perm.nodup_iff.2 h.nd
 simp only [List.nodup_cons, List.mem_cons, List.mem_append, not_or] at h1
 obtain ⟨⟨a1, a2, a3, ⟨⟨a4, a5⟩, a6⟩, a7⟩, ⟨b1, b2, ⟨⟨b3, b4⟩, b5⟩, b6⟩, ⟨c1, ⟨⟨c2, c3⟩, c4⟩, c5⟩, ⟨⟨⟨d1, d2⟩, d3⟩, d4⟩, _⟩ := h1
 refine ⟨a1, a2, a3, b1, b2, c1, fun z hz => ?_⟩
 rcases hz with hz | hz | hz | hz
 ·exact ⟨fun e => a4 (e ▸ hz), fun e => b3 (e ▸ hz), fun e => c2 (e ▸ hz), fun e => d1 (e ▸ hz)⟩
 ·exact ⟨fun e => a5 (e ▸ hz), fun e => b4 (e ▸ hz), fun e => c3 (e ▸ hz), fun e => d2 (e ▸ hz)⟩
 ·exact ⟨fun e => a6 (e ▸ hz), fun e => b5 (e ▸ hz), fun e => c4 (e ▸ hz), fun e => d3 (e ▸ hz)⟩
 ·exact ⟨fun e => a7 (e ▸ hz), fun e => b6 (e ▸ hz), fun e => c5 (e ▸ hz), fun e => d4 (e ▸ hz)⟩
theorem Sib.merge {ov : Lk} {t n D : Nat} {ES : List Ent} {r : List Fr} {fx fk y1 y2 : Nat} {A B M : List Kid} {d : Nat} {V : List Nat} {lf : List (Nat × Nat)} (h : Sib ov t n D ES r fx fk y1 y2 A B M d V lf) (h6 : 6 <= M.length) (h12 : M.length <= 12) :
  GS (updO ov y1 (nodeO (decide (0 < d)) (M.map Kid.pr))) t n D ES r fx (A ++ mkKid y1 M :: B) (d + 1) fk /\ ∀ z, z ∈ t :: fx :: (hsOf (A ++ mkKid y1 M :: B) ++ whs r) -> z ∈ V := by
 obtain ⟨a1, a2, a3, a4, a5, a6, a7⟩ := h.ne
 have hp : (y2 :: t :: fx :: (hsOf (A ++ mkKid y1 M :: B) ++ whs r)).Perm V := by
  refine List.Perm.trans ?_ h.perm
  rw [List.perm_iff_count]
  intro z
  simp only [mkKid, hsOf_append, hsOf_cons, List.count_cons, List.count_append]
  omega
 have hfr : ∀ z, z ≠ y1 -> updO ov y1 (nodeO (decide (0 < d)) (M.map Kid.pr)) z = ov z := fun z hz => updO_ne _ _ hz
 obtain ⟨l, hl1, hl2⟩ := h.nodef
 refine ⟨⟨h.zip.frame fun z hz => hfr z (a7 z (.inr (.inr (.inr hz)))).2.2.1, fun c hc => ?_, (List.nodup_cons.1 (hp.nodup_iff.2 h.nd)).2, ⟨l, by rw [hfr _ a4, hl1]; simp, hl2⟩, by rw [hfr _ a2]; exact h.tree, h.dep, ?_⟩, fun z hz => hp.mem_iff.1 (List.mem_cons_of_mem _ hz)⟩
 ·rcases List.mem_append.1 hc with hc | hc
  ·exact (h.kA c hc).frame fun z hz => hfr z (a7 z (.inl (mem_hsOf.2 ⟨c, hc, hz⟩))).2.2.1
  ·rcases List.mem_cons.1 hc with rfl | hc
   ·exact mkKid_rep (updO_self _ _ _) h6 h12 fun c hc => (h.kM c hc).frame fun z hz => hfr z (a7 z (.inr (.inl (mem_hsOf.2 ⟨c, hc, hz⟩)))).2.2.1
   ·exact (h.kB c hc).frame fun z hz => hfr z (a7 z (.inr (.inr (.inl (mem_hsOf.2 ⟨c, hc, hz⟩))))).2.2.1
 ·rw [<- h.es]; simp [mkKid]
theorem Sib.split {ov : Lk} {t n D : Nat} {ES : List Ent} {r : List Fr} {fx fk y1 y2 : Nat} {A B M1 M2 : List Kid} {d : Nat} {V : List Nat} {lf : List (Nat × Nat)} (h : Sib ov t n D ES r fx fk y1 y2 A B (M1 ++ M2) d V lf) (h1 : 6 <= M1.length /\ M1.length <= 12) (h2 : 6 <= M2.length /\ M2.length <= 12) :
  GS (updO (updO ov y1 (nodeO (decide (0 < d)) (M1.map Kid.pr))) y2 (nodeO (decide (0 < d)) (M2.map Kid.pr))) t n D ES r fx (A ++ mkKid y1 M1 :: mkKid y2 M2 :: B) (d + 1) fk /\ (t :: fx :: (hsOf (A ++ mkKid y1 M1 :: mkKid y2 M2 :: B) ++ whs r)).Perm V := by
 obtain ⟨a1, a2, a3, a4, a5, a6, a7⟩ := h.ne
 have hp : (t :: fx :: (hsOf (A ++ mkKid y1 M1 :: mkKid y2 M2 :: B) ++ whs r)).Perm V := by
  refine List.Perm.trans ?_ h.perm
  rw [List.perm_iff_count]
  intro z
  simp only [mkKid, hsOf_append, hsOf_cons, List.count_cons, List.count_append]
  omega
 generalize hov : updO (updO ov y1 (nodeO (decide (0 < d)) (M1.map Kid.pr))) y2 (nodeO (decide (0 < d)) (M2.map Kid.pr)) = ov'
 have hfr : ∀ z, z ≠ y1 -> z ≠ y2 -> ov' z = ov z := fun z e1 e2 => by rw [<- hov, updO_ne _ _ e2, updO_ne _ _ e1]
 have hf2 : ∀ z, z ∈ hsOf A ∨ z ∈ hsOf (M1 ++ M2) ∨ z ∈ hsOf B ∨ z ∈ whs r -> ov' z = ov z := fun z hz => hfr z (a7 z hz).2.2.1 (a7 z hz).2.2.2
 have o1 : ov' y1 = some (nodeO (decide (0 < d)) (M1.map Kid.pr)) := by rw [<- hov, updO_ne _ _ a6, updO_self]
 have o2 : ov' y2 = some (nodeO (decide (0 < d)) (M2.map Kid.pr)) := by rw [<- hov, updO_self]
 have hM : ∀ c ∈ M1 ++ M2, Rep ov' d 6 c := fun c hc => (h.kM c hc).frame fun z hz => hf2 z (.inr (.inl (mem_hsOf.2 ⟨c, hc, hz⟩)))
 obtain ⟨l, hl1, hl2⟩ := h.nodef
 refine ⟨⟨h.zip.frame fun z hz => hf2 z (.inr (.inr (.inr hz))), fun c hc => ?_, hp.nodup_iff.2 h.nd, ⟨l, by rw [hfr _ a4 a5, hl1]; simp, hl2⟩, by rw [hfr _ a2 a3]; exact h.tree, h.dep, ?_⟩, hp⟩
 ·rcases List.mem_append.1 hc with hc | hc
  ·exact (h.kA c hc).frame fun z hz => hf2 z (.inl (mem_hsOf.2 ⟨c, hc, hz⟩))
  ·rcases List.mem_cons.1 hc with rfl | hc
   ·exact mkKid_rep o1 h1.1 h1.2 fun c hc => hM c (by simp [hc])
   ·rcases List.mem_cons.1 hc with rfl | hc
    ·exact mkKid_rep o2 h2.1 h2.2 fun c hc => hM c (by simp [hc])
    ·exact (h.kB c hc).frame fun z hz => hf2 z (.inr (.inr (.inl (mem_hsOf.2 ⟨c, hc, hz⟩))))
 ·rw [<- h.es]; simp [mkKid]
end Go.Td
