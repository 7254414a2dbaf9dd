
/- A tree's entries as a sorted list: put, taken, asked for. No program in sight. -/
import Derived.Test.YtpicofkhioalkaaGreatTv
set_option maxRecDepth 100000
namespace Go.Td
open Go Go.Hm Go.Kd

abbrev KV := List (K × Nat)
def kv (es : List Ent) : KV := es.map fun e => (e.key, e.x)
@[simp] theorem kv_nil : kv [] = [] := rfl
@[simp] theorem kv_cons (e : Ent) (l : List Ent) : kv (e :: l) = (e.key, e.x) :: kv l := rfl
@[simp] theorem kv_append (a b : List Ent) : kv (a ++ b) = kv a ++ kv b := by simp [kv]
def SrtK (l : KV) : Prop := l.Pairwise fun a b => lt a.1 b.1 = true
theorem srt_kv {es : List Ent} : Srt es ↔ SrtK (kv es) := by unfold Srt SrtK kv; rw [List.pairwise_map]
/-- a list parted at a key: what is below it, what is at it, what is above it. -/
structure Cut (l : KV) (key : K) (A o C : KV) : Prop where
  eq : l = A ++ o ++ C
  lo : ∀ a ∈ A, lt a.1 key = true
  hi : ∀ c ∈ C, lt key c.1 = true
  at_ : o = [] ∨ ∃ y, o = [(key, y)]
theorem srtK_append {a b : KV} : SrtK (a ++ b) ↔ SrtK a ∧ SrtK b ∧ ∀ x ∈ a, ∀ y ∈ b, lt x.1 y.1 = true := List.pairwise_append
theorem Cut.put {l A o C : KV} {key : K} (h : Cut l key A o C) (hs : SrtK l) (x : Nat) : SrtK (A ++ (key, x) :: C) := by
  rw [h.eq, List.append_assoc] at hs
  obtain ⟨h1, h2, h3⟩ := srtK_append.1 hs
  obtain ⟨h4, h5, h6⟩ := srtK_append.1 h2
  refine srtK_append.2 ⟨h1, List.pairwise_cons.2 ⟨fun c hc => h.hi c hc, h5⟩, fun a ha c hc => ?_⟩
  rcases List.mem_cons.1 hc with rfl | hc
  · exact h.lo a ha
  · exact h3 a ha c (by simp [hc])
theorem Cut.take {l A o C : KV} {key : K} (h : Cut l key A o C) (hs : SrtK l) : SrtK (A ++ C) := by
  rw [h.eq, List.append_assoc] at hs
  obtain ⟨h1, h2, h3⟩ := srtK_append.1 hs
  obtain ⟨h4, h5, h6⟩ := srtK_append.1 h2
  exact srtK_append.2 ⟨h1, h5, fun a ha c hc => h3 a ha c (by simp [hc])⟩
theorem kv_lo {es : List Ent} {key : K} (h : ∀ e ∈ es, lt e.key key = true) : ∀ a ∈ kv es, lt a.1 key = true := by
  intro a ha
  obtain ⟨e, he, rfl⟩ := List.mem_map.1 ha
  exact h e he
theorem kv_hi {es : List Ent} {key : K} (h : ∀ e ∈ es, lt key e.key = true) : ∀ a ∈ kv es, lt key a.1 = true := by
  intro a ha
  obtain ⟨e, he, rfl⟩ := List.mem_map.1 ha
  exact h e he
/-- what the choice by a key tells of a whole way. -/
def InKey (key : K) (le : List Ent) (k : Kid) (ri : List Ent) : Prop := (∀ e ∈ le, lt e.key key = true) ∧ (∀ e ∈ ri, lt key e.key = true) ∧ (le = [] ∨ lt key k.key = false)
theorem inKey_step {key : K} : ∀ le k ri X a Y, InKey key le k ri → k.es = esOf (X ++ a :: Y) → ByKey key X a Y → InKey key (le ++ esOf X) a (esOf Y ++ ri) := by
  rintro le k ri X a Y ⟨h1, h2, h3⟩ he ⟨g1, g2, g3, hne⟩
  refine ⟨fun e hm => ?_, fun e hm => ?_, ?_⟩
  · rcases List.mem_append.1 hm with hm | hm
    · exact h1 e hm
    · exact g1 e hm
  · rcases List.mem_append.1 hm with hm | hm
    · exact g2 e hm
    · exact h2 e hm
  · rcases g3 with rfl | g3
    · rcases h3 with rfl | h3
      · left; rfl
      · right
        have : k.key = a.key := by
          obtain ⟨e, r, hae⟩ := List.exists_cons_of_ne_nil hne
          unfold Kid.key
          rw [he, List.nil_append, esOf_cons, hae]; rfl
        rw [← this]; exact h3
    · exact .inr g3
/-- the leaf's kids at a place. -/
theorem at_cut {L : List Kid} {key : K} {i : Nat} {ov : Lk} (h : At L key i) (hr : ∀ c ∈ L, Rep ov 0 6 c) (hs : Srt (esOf L)) :
    (∀ e ∈ esOf (L.take i), lt e.key key = true) ∧ (same L key i = false → ∀ e ∈ esOf (L.drop i), lt key e.key = true) ∧
      (same L key i = true → ∃ c, L[i]? = some c ∧ c.key = key ∧ (∀ e ∈ esOf (L.drop (i + 1)), lt key e.key = true)) := by
  have hone : ∀ c ∈ L, ∀ e ∈ c.es, e.key = c.key := by
    intro c hc e he
    obtain ⟨e0, h1, _⟩ := hr c hc
    rw [h1] at he
    simp only [List.mem_cons, List.not_mem_nil, or_false] at he
    subst he
    unfold Kid.key; rw [h1]
  have hks := srt_kids hs fun c hc => (hr c hc).ne (by omega)
  have hpair : ∀ (p q : Nat) (a b : Kid), p < q → L[p]? = some a → L[q]? = some b → lt a.key b.key = true := by
    intro p q a b hpq ha hb
    have hpl := kget_lt ha; have hql := kget_lt hb
    rw [List.getElem?_eq_getElem hpl] at ha; rw [List.getElem?_eq_getElem hql] at hb
    simp only [Option.some.injEq] at ha hb
    subst ha; subst hb
    exact List.pairwise_iff_getElem.1 hks p q hpl hql hpq
  obtain ⟨h1, h2, h3⟩ := h
  refine ⟨fun e he => ?_, fun hsm e he => ?_, fun hsm => ?_⟩
  · obtain ⟨c, hc, hce⟩ := mem_esOf.1 he
    obtain ⟨j, hj, hjc⟩ := take_get hc
    rw [hone c (List.mem_of_getElem? hjc) e hce]
    exact h2 j c hj hjc
  · obtain ⟨c, hc, hce⟩ := mem_esOf.1 he
    obtain ⟨j, hj, hjc⟩ := drop_get hc
    rw [hone c (List.mem_of_getElem? hjc) e hce]
    refine lt_of_not (h3 j c hj hjc) fun h7 => ?_
    rcases Nat.lt_or_ge i j with h8 | h8
    · obtain ⟨c', hc'⟩ : ∃ c', L[i]? = some c' := ⟨_, List.getElem?_eq_getElem (Nat.lt_of_lt_of_le h8 (Nat.le_of_lt (kget_lt hjc)))⟩
      have h9 := hpair i j c' c h8 hc' hjc
      rw [h7, h3 i c' (Nat.le_refl _) hc'] at h9
      cases h9
    · have : j = i := by omega
      subst this
      unfold same at hsm
      rw [hjc] at hsm
      simp [h7] at hsm
  · unfold same at hsm
    cases hc : L[i]? with
    | none => rw [hc] at hsm; cases hsm
    | some c =>
      rw [hc] at hsm
      have hck : c.key = key := by simpa using hsm
      refine ⟨c, rfl, hck, fun e he => ?_⟩
      obtain ⟨c', hc', hce⟩ := mem_esOf.1 he
      obtain ⟨j, hj, hjc⟩ := drop_get hc'
      rw [hone c' (List.mem_of_getElem? hjc) e hce, ← hck]
      exact hpair i j c c' (by omega) hc hjc
end Go.Td
