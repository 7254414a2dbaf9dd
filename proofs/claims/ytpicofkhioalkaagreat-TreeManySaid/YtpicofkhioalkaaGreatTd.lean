
/- A tree as plain data: nodes of kids, a way down as a row of frames, the entries to the left and right of it. No program in sight. -/
import Derived.Test.YtpicofkhioalkaaGreatKd
set_option maxRecDepth 100000
namespace Go.Td
open Go Go.Hm Go.Kd

/-- an entry: its key's object, its key, its ref. -/
structure Ent where
  kh : Nat
  key : K
  x : Nat
/-- what hangs below an entry of a node: its handle, its entries, the handles it takes. -/
structure Kid where
  x : Nat
  es : List Ent
  hs : List Nat
def Kid.k (c : Kid) : Nat := match c.es with | e :: _ => e.kh | [] => 0
def Kid.key (c : Kid) : K := match c.es with | e :: _ => e.key | [] => []
def Kid.pr (c : Kid) : Nat × Nat := (c.k, c.x)
def flat : List (Nat × Nat) → List Nat
  | [] => []
  | p :: l => p.1 :: p.2 :: flat l
def nodeW (l : List (Nat × Nat)) : List Nat := flat l ++ List.replicate (24 - 2 * l.length) 0 ++ [l.length]
def nodeO (inner : Bool) (l : List (Nat × Nat)) : Ov := ⟨if inner then 22 else 21, 24, nodeW l⟩
def esOf (l : List Kid) : List Ent := l.flatMap Kid.es
def hsOf (l : List Kid) : List Nat := l.flatMap Kid.hs
abbrev Lk := Nat → Option Ov
def updO (f : Lk) (x : Nat) (o : Ov) : Lk := fun y => if y = x then some o else f y
theorem updO_self (f : Lk) (x : Nat) (o : Ov) : updO f x o x = some o := by simp [updO]
theorem updO_ne (f : Lk) {x y : Nat} (o : Ov) (h : y ≠ x) : updO f x o y = f y := by simp [updO, h]
theorem flat_len (l : List (Nat × Nat)) : (flat l).length = 2 * l.length := by
  induction l with
  | nil => rfl
  | cons p l ih => simp only [flat, List.length_cons, ih]; omega
theorem flat_append (a b : List (Nat × Nat)) : flat (a ++ b) = flat a ++ flat b := by
  induction a with
  | nil => rfl
  | cons p l ih => simp [flat, ih]
theorem nodeW_len {l : List (Nat × Nat)} (h : l.length ≤ 12) : (nodeW l).length = 25 := by
  simp only [nodeW, List.length_append, flat_len, List.length_replicate, List.length_singleton]; omega
theorem flat_get0 : ∀ {l : List (Nat × Nat)} {i : Nat} {p : Nat × Nat}, l[i]? = some p → (flat l)[2 * i]? = some p.1
  | [], i, p, h => by simp at h
  | q :: l, 0, p, h => by simp at h; subst h; rfl
  | q :: l, i + 1, p, h => by
    simp at h
    show (q.1 :: q.2 :: flat l)[2 * i + 2]? = _
    simpa using flat_get0 h
theorem flat_get1 : ∀ {l : List (Nat × Nat)} {i : Nat} {p : Nat × Nat}, l[i]? = some p → (flat l)[2 * i + 1]? = some p.2
  | [], i, p, h => by simp at h
  | q :: l, 0, p, h => by simp at h; subst h; rfl
  | q :: l, i + 1, p, h => by
    simp at h
    show (q.1 :: q.2 :: flat l)[2 * i + 1 + 2]? = _
    simpa using flat_get1 h
theorem nodeW_get0 {l : List (Nat × Nat)} {i : Nat} {p : Nat × Nat} (h : l[i]? = some p) : (nodeW l)[2 * i]? = some p.1 := by
  have h1 := flat_get0 h
  unfold nodeW
  rw [List.append_assoc, List.getElem?_append_left (by exact kget_lt h1)]
  exact h1
theorem nodeW_get1 {l : List (Nat × Nat)} {i : Nat} {p : Nat × Nat} (h : l[i]? = some p) : (nodeW l)[2 * i + 1]? = some p.2 := by
  have h1 := flat_get1 h
  unfold nodeW
  rw [List.append_assoc, List.getElem?_append_left (by exact kget_lt h1)]
  exact h1
theorem nodeW_last {l : List (Nat × Nat)} (h : l.length ≤ 12) : (nodeW l)[24]? = some l.length := by
  unfold nodeW
  have e : (flat l ++ List.replicate (24 - 2 * l.length) 0).length = 24 := by
    simp only [List.length_append, flat_len, List.length_replicate]; omega
  rw [List.getElem?_append_right (by omega), e]; rfl

/-! What a kid is in a heap. -/
def Rep (ov : Lk) : Nat → Nat → Kid → Prop
  | 0, _, c => ∃ e, c.es = [e] ∧ c.x = e.x ∧ c.hs = [e.kh] ∧ ov e.kh = some (keyO e.key) ∧ e.key.length ≤ 16384
  | d + 1, m, c => ∃ l : List Kid, ov c.x = some (nodeO (decide (0 < d)) (l.map Kid.pr)) ∧ c.es = esOf l ∧ c.hs = c.x :: hsOf l ∧ m ≤ l.length ∧ l.length ≤ 12 ∧ ∀ a ∈ l, Rep ov d 6 a

theorem mem_esOf {e : Ent} {l : List Kid} : e ∈ esOf l ↔ ∃ c ∈ l, e ∈ c.es := by simp [esOf]
theorem mem_hsOf {h : Nat} {l : List Kid} : h ∈ hsOf l ↔ ∃ c ∈ l, h ∈ c.hs := by simp [hsOf]
@[simp] theorem esOf_nil : esOf [] = [] := rfl
@[simp] theorem hsOf_nil : hsOf [] = [] := rfl
@[simp] theorem esOf_cons (c : Kid) (l : List Kid) : esOf (c :: l) = c.es ++ esOf l := rfl
@[simp] theorem hsOf_cons (c : Kid) (l : List Kid) : hsOf (c :: l) = c.hs ++ hsOf l := rfl
@[simp] theorem esOf_append (a b : List Kid) : esOf (a ++ b) = esOf a ++ esOf b := by simp [esOf]
@[simp] theorem hsOf_append (a b : List Kid) : hsOf (a ++ b) = hsOf a ++ hsOf b := by simp [hsOf]

theorem Rep.frame {ov ov' : Lk} : ∀ {d m : Nat} {c : Kid}, (∀ h ∈ c.hs, ov' h = ov h) → Rep ov d m c → Rep ov' d m c
  | 0, _, c, hf, ⟨e, h1, h2, h3, h4, h5⟩ => ⟨e, h1, h2, h3, by rw [hf _ (by rw [h3]; simp)]; exact h4, h5⟩
  | d + 1, m, c, hf, ⟨l, h1, h2, h3, h4, h5, h6⟩ => by
    refine ⟨l, by rw [hf _ (by rw [h3]; simp)]; exact h1, h2, h3, h4, h5, fun a ha => (h6 a ha).frame fun h hh => hf h ?_⟩
    rw [h3]
    exact List.mem_cons_of_mem _ (mem_hsOf.2 ⟨a, ha, hh⟩)
theorem Rep.upd {ov : Lk} {d m : Nat} {c : Kid} {x : Nat} {o : Ov} (h : Rep ov d m c) (hx : x ∉ c.hs) : Rep (updO ov x o) d m c :=
  h.frame fun _ hh => updO_ne _ _ fun e => hx (e ▸ hh)
theorem Rep.mono {ov : Lk} : ∀ {d m m' : Nat} {c : Kid}, Rep ov d m c → m' ≤ m → Rep ov d m' c
  | 0, _, _, _, h, _ => h
  | _ + 1, _, _, _, ⟨l, h1, h2, h3, h4, h5, h6⟩, hm => ⟨l, h1, h2, h3, by omega, h5, h6⟩
theorem Rep.len {ov : Lk} : ∀ {d : Nat} {c : Kid}, Rep ov d 6 c → 6 ^ d ≤ c.es.length
  | 0, c, ⟨e, h1, _⟩ => by rw [h1]; simp
  | d + 1, c, ⟨l, _, h2, _, h4, _, h6⟩ => by
    have : ∀ (l : List Kid), (∀ a ∈ l, Rep ov d 6 a) → l.length * 6 ^ d ≤ (esOf l).length := by
      intro l
      induction l with
      | nil => intro _; simp
      | cons a l ih =>
        intro h
        have h1 := (h a (by simp)).len
        have h3 := ih fun b hb => h b (by simp [hb])
        rw [esOf_cons, List.length_append, List.length_cons, Nat.add_mul, Nat.one_mul]
        omega
    have h7 := this l h6
    rw [h2, Nat.pow_succ, Nat.mul_comm]
    exact Nat.le_trans (Nat.mul_le_mul_right _ h4) h7
theorem Rep.lenm {ov : Lk} {d m : Nat} {c : Kid} : Rep ov (d + 1) m c → m * 6 ^ d ≤ c.es.length := by
  rintro ⟨l, _, h2, _, h4, _, h6⟩
  have : ∀ (l : List Kid), (∀ a ∈ l, Rep ov d 6 a) → l.length * 6 ^ d ≤ (esOf l).length := by
    intro l
    induction l with
    | nil => intro _; simp
    | cons a l ih =>
      intro h
      have h1 := (h a (by simp)).len
      have h3 := ih fun b hb => h b (by simp [hb])
      rw [esOf_cons, List.length_append, List.length_cons, Nat.add_mul, Nat.one_mul]
      omega
  have h7 := this l h6
  rw [h2]
  exact Nat.le_trans (Nat.mul_le_mul_right _ h4) h7
theorem Rep.ne {ov : Lk} {d m : Nat} {c : Kid} (h : Rep ov d m c) (hm : 0 < m) : c.es ≠ [] := by
  cases d with
  | zero => obtain ⟨e, h1, _⟩ := h; rw [h1]; simp
  | succ d =>
    have := h.lenm
    intro e
    rw [e] at this
    have h6 : 0 < 6 ^ d := Nat.pow_pos (by omega)
    have := Nat.mul_pos hm h6
    simp at *
    omega
/-- what is known of a kid's first key. -/
def KeyOK (ov : Lk) (c : Kid) : Prop := ov c.k = some (keyO c.key) ∧ c.key.length ≤ 16384 ∧ c.k ∈ c.hs ∧ c.es ≠ []
theorem Rep.keyOK {ov : Lk} : ∀ {d m : Nat} {c : Kid}, Rep ov d m c → 0 < m → KeyOK ov c
  | 0, _, c, ⟨e, h1, h2, h3, h4, h5⟩, _ => by
    have a : c.k = e.kh := by unfold Kid.k; rw [h1]
    have b : c.key = e.key := by unfold Kid.key; rw [h1]
    exact ⟨by rw [a, b]; exact h4, by rw [b]; exact h5, by rw [a, h3]; simp, by rw [h1]; simp⟩
  | d + 1, m, c, h, hm => by
    have hne := h.ne hm
    obtain ⟨l, h1, h2, h3, h4, h5, h6⟩ := h
    cases l with
    | nil => rw [h2] at hne; exact absurd rfl hne
    | cons a l =>
      have ha := (h6 a (by simp)).keyOK (by omega)
      obtain ⟨g1, g2, g3, g4⟩ := ha
      obtain ⟨e, r, he⟩ := List.exists_cons_of_ne_nil g4
      have ak : c.k = a.k := by unfold Kid.k; rw [h2, esOf_cons, he]; rfl
      have bk : c.key = a.key := by unfold Kid.key; rw [h2, esOf_cons, he]; rfl
      exact ⟨by rw [ak, bk]; exact g1, by rw [bk]; exact g2, by rw [ak, h3, hsOf_cons]; simp [g3], hne⟩
theorem Rep.xmem {ov : Lk} {d m : Nat} {c : Kid} (h : Rep ov (d + 1) m c) : c.x ∈ c.hs := by
  obtain ⟨l, h1, h2, h3, _⟩ := h
  rw [h3]; simp
/-- every entry's key has its object. -/
theorem Rep.ents {ov : Lk} : ∀ {d m : Nat} {c : Kid}, Rep ov d m c → ∀ e ∈ c.es, ov e.kh = some (keyO e.key) ∧ e.key.length ≤ 16384 ∧ e.kh ∈ c.hs
  | 0, _, c, ⟨e, h1, h2, h3, h4, h5⟩, e', he => by rw [h1] at he; simp at he; subst he; exact ⟨h4, h5, by rw [h3]; simp⟩
  | d + 1, m, c, ⟨l, h1, h2, h3, h4, h5, h6⟩, e, he => by
    rw [h2, mem_esOf] at he
    obtain ⟨a, ha, hea⟩ := he
    obtain ⟨g1, g2, g3⟩ := (h6 a ha).ents e hea
    exact ⟨g1, g2, by rw [h3]; exact List.mem_cons_of_mem _ (mem_hsOf.2 ⟨a, ha, g3⟩)⟩
/-- each handle of a kid has an object. -/
theorem Rep.live {ov : Lk} : ∀ {d m : Nat} {c : Kid}, Rep ov d m c → ∀ h ∈ c.hs, (ov h).isSome = true
  | 0, _, c, ⟨e, h1, h2, h3, h4, h5⟩, h, hh => by rw [h3] at hh; simp at hh; subst hh; rw [h4]; rfl
  | d + 1, m, c, ⟨l, h1, h2, h3, h4, h5, h6⟩, h, hh => by
    rw [h3] at hh
    rcases List.mem_cons.1 hh with rfl | hh
    · rw [h1]; rfl
    · obtain ⟨a, ha, hha⟩ := mem_hsOf.1 hh
      exact (h6 a ha).live h hha

/-! A way down, the lowest frame first. -/
structure Fr where
  x : Nat
  A : List Kid
  p : Nat × Nat
  B : List Kid
def Fr.l (f : Fr) : List (Nat × Nat) := f.A.map Kid.pr ++ f.p :: f.B.map Kid.pr
def Fr.key (f : Fr) : Nat := match f.A with | c :: _ => c.k | [] => f.p.1
def Fr.ok (ov : Lk) (f : Fr) (d mn : Nat) : Prop :=
  ov f.x = some (nodeO true f.l) ∧ (∀ c ∈ f.A, Rep ov d 6 c) ∧ (∀ c ∈ f.B, Rep ov d 6 c) ∧ mn ≤ f.A.length + 1 + f.B.length ∧ f.A.length + 1 + f.B.length ≤ 12
def mnOf : List Fr → Nat
  | [] => 2
  | _ :: _ => 6
def Zip (ov : Lk) : List Fr → Nat → Nat × Nat → Prop
  | [], _, _ => True
  | f :: r, d, p => f.p = p ∧ f.ok ov d (mnOf r) ∧ 0 < d ∧ Zip ov r (d + 1) (f.key, f.x)
def lefts : List Fr → List Ent
  | [] => []
  | f :: r => lefts r ++ esOf f.A
def rights : List Fr → List Ent
  | [] => []
  | f :: r => esOf f.B ++ rights r
def whs : List Fr → List Nat
  | [] => []
  | f :: r => f.x :: (hsOf f.A ++ hsOf f.B ++ whs r)
def topx : List Fr → Nat → Nat
  | [], x => x
  | f :: r, _ => topx r f.x
theorem Fr.l_len (f : Fr) : f.l.length = f.A.length + 1 + f.B.length := by simp [Fr.l]; omega
theorem Fr.ok.frame {ov ov' : Lk} {f : Fr} {d mn : Nat} (h : f.ok ov d mn) (hf : ∀ z ∈ f.x :: (hsOf f.A ++ hsOf f.B), ov' z = ov z) : f.ok ov' d mn := by
  obtain ⟨h1, h2, h3, h4, h5⟩ := h
  refine ⟨by rw [hf _ (by simp)]; exact h1, fun c hc => (h2 c hc).frame fun z hz => hf z ?_, fun c hc => (h3 c hc).frame fun z hz => hf z ?_, h4, h5⟩
  · exact List.mem_cons_of_mem _ (List.mem_append_left _ (mem_hsOf.2 ⟨c, hc, hz⟩))
  · exact List.mem_cons_of_mem _ (List.mem_append_right _ (mem_hsOf.2 ⟨c, hc, hz⟩))
theorem Zip.frame {ov ov' : Lk} : ∀ {bs : List Fr} {d : Nat} {p : Nat × Nat}, Zip ov bs d p → (∀ z ∈ whs bs, ov' z = ov z) → Zip ov' bs d p
  | [], _, _, _, _ => trivial
  | f :: r, d, p, ⟨h1, h2, h3, h4⟩, hf => ⟨h1, h2.frame fun z hz => hf z (by simp only [whs, List.mem_cons, List.mem_append] at hz ⊢; rcases hz with h | h | h <;> simp [h]), h3, h4.frame fun z hz => hf z (by simp only [whs, List.mem_cons, List.mem_append]; simp [hz])⟩
theorem Zip.upd {ov : Lk} {bs : List Fr} {d : Nat} {p : Nat × Nat} {x : Nat} {o : Ov} (h : Zip ov bs d p) (hx : x ∉ whs bs) : Zip (updO ov x o) bs d p :=
  h.frame fun _ hh => updO_ne _ _ fun e => hx (e ▸ hh)

/-- the kid that a frame makes with one in its hole. -/
def Fr.kid (f : Fr) (c : Kid) : Kid := ⟨f.x, esOf f.A ++ c.es ++ esOf f.B, f.x :: (hsOf f.A ++ c.hs ++ hsOf f.B)⟩
theorem Fr.kid_rep {ov : Lk} {f : Fr} {d mn : Nat} {c : Kid} (h : f.ok ov d mn) (hd : 0 < d) (hp : f.p = c.pr) (hc : Rep ov d 6 c) : Rep ov (d + 1) mn (f.kid c) := by
  obtain ⟨h1, h2, h3, h4, h5⟩ := h
  refine ⟨f.A ++ c :: f.B, ?_, by simp [Fr.kid], by simp [Fr.kid], by simp; omega, by simp; omega, fun a ha => ?_⟩
  · show ov f.x = _
    rw [h1]
    simp [Fr.l, hp, hd]
  · rcases List.mem_append.1 ha with h | h
    · exact h2 a h
    · rcases List.mem_cons.1 h with rfl | h
      · exact hc
      · exact h3 a h
theorem Fr.kid_pr {ov : Lk} {f : Fr} {d mn : Nat} {c : Kid} (h : f.ok ov d mn) (hp : f.p = c.pr) (hc : c.es ≠ []) : (f.kid c).pr = (f.key, f.x) := by
  obtain ⟨_, h2, _⟩ := h
  unfold Kid.pr Fr.key
  refine Prod.ext ?_ rfl
  show (f.kid c).k = _
  cases hA : f.A with
  | nil =>
    obtain ⟨e, r, he⟩ := List.exists_cons_of_ne_nil hc
    simp only [Kid.k, Fr.kid, hA, esOf_nil, List.nil_append, he, List.cons_append, hp, Kid.pr]
  | cons a A =>
    obtain ⟨e, r, he⟩ := List.exists_cons_of_ne_nil ((h2 a (by rw [hA]; simp)).ne (by omega))
    simp only [Kid.k, Fr.kid, hA, esOf_cons, he, List.cons_append]
def plug : List Fr → Kid → Kid
  | [], c => c
  | f :: r, c => plug r (f.kid c)
theorem plug_es : ∀ (bs : List Fr) (c : Kid), (plug bs c).es = lefts bs ++ c.es ++ rights bs
  | [], c => by simp [plug, lefts, rights]
  | f :: r, c => by simp [plug, lefts, rights, plug_es r, Fr.kid]
theorem plug_x : ∀ (bs : List Fr) (c : Kid), (plug bs c).x = topx bs c.x
  | [], c => rfl
  | f :: r, c => by simp [plug, topx, plug_x r, Fr.kid]
theorem plug_hs : ∀ (bs : List Fr) (c : Kid), (plug bs c).hs.Perm (c.hs ++ whs bs)
  | [], c => by simp [plug, whs]
  | f :: r, c => by
    refine (plug_hs r (f.kid c)).trans ?_
    simp only [whs, Fr.kid, List.cons_append]
    refine List.Perm.trans ?_ List.perm_middle.symm
    refine List.Perm.cons _ ?_
    simp only [List.append_assoc]
    refine List.Perm.trans ?_ (List.perm_append_comm_assoc _ _ _)
    exact List.Perm.refl _
theorem plug_rep {ov : Lk} : ∀ {bs : List Fr} {d : Nat} {c : Kid} {mt : Nat}, Zip ov bs d c.pr → Rep ov d (if bs = [] then mt else 6) c → Rep ov (d + bs.length) (if bs = [] then mt else 2) (plug bs c)
  | [], d, c, mt, _, hc => by simpa [plug] using hc
  | f :: r, d, c, mt, ⟨h1, h2, h3, h4⟩, hc => by
    simp only [reduceCtorEq, if_false] at hc ⊢
    have e1 := Fr.kid_rep h2 h3 h1 hc
    have e2 := Fr.kid_pr h2 h1 (hc.ne (by omega))
    rw [← e2] at h4
    have := plug_rep (mt := 2) h4 (by cases r <;> exact e1)
    have e3 : d + (f :: r).length = d + 1 + r.length := by simp; omega
    rw [e3]
    simpa [plug] using this

/-! A whole tree. -/
def Srt (es : List Ent) : Prop := es.Pairwise fun a b => lt a.key b.key = true
structure Tree (ov : Lk) (t : Nat) (es : List Ent) (hs : List Nat) : Prop where
  nd : hs.Nodup
  srt : Srt es
  at_ : (es = [] ∧ hs = [t] ∧ ov t = some (treeO 0 0 0)) ∨
    ∃ d c, ov t = some (treeO c.x es.length (d + 1)) ∧ Rep ov (d + 1) (if d = 0 then 1 else 2) c ∧ es = c.es ∧ hs.Perm (t :: c.hs)
theorem Tree.frame {ov ov' : Lk} {t : Nat} {es : List Ent} {hs : List Nat} (h : Tree ov t es hs) (hf : ∀ z ∈ hs, ov' z = ov z) : Tree ov' t es hs := by
  refine ⟨h.nd, h.srt, ?_⟩
  rcases h.at_ with ⟨h1, h2, h3⟩ | ⟨d, c, h1, h2, h3, h4⟩
  · exact .inl ⟨h1, h2, by rw [hf _ (by rw [h2]; simp)]; exact h3⟩
  · refine .inr ⟨d, c, by rw [hf _ (h4.mem_iff.2 (by simp))]; exact h1, h2.frame fun z hz => hf z (h4.mem_iff.2 (by simp [hz])), h3, h4⟩
theorem Tree.live {ov : Lk} {t : Nat} {es : List Ent} {hs : List Nat} (h : Tree ov t es hs) : ∀ z ∈ hs, (ov z).isSome = true := by
  intro z hz
  rcases h.at_ with ⟨h1, h2, h3⟩ | ⟨d, c, h1, h2, h3, h4⟩
  · rw [h2] at hz; simp at hz; subst hz; rw [h3]; rfl
  · rcases List.mem_cons.1 (h4.mem_iff.1 hz) with rfl | hz
    · rw [h1]; rfl
    · exact h2.live z hz
end Go.Td
