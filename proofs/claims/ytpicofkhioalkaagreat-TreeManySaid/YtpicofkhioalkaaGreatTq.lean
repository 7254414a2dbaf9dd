
/- Fewer entries in a node: two nodes beside one another, made one, or shared anew. No program in sight. -/
import Derived.Test.YtpicofkhioalkaaGreatTz
set_option maxRecDepth 100000
namespace Go.Td
open Go Go.Hm Go.Kd

/-- two nodes beside one another below a node, and all that they hold. -/
structure Sib (ov : Lk) (t n D : Nat) (ES : List Ent) (r : List Fr) (fx fk y1 y2 : Nat) (A B M : List Kid) (d : Nat) (V : List Nat) (lf : List (Nat × Nat)) : Prop where
  zip : Zip ov r (d + 2) (fk, fx)
  kA : ∀ c ∈ A, Rep ov (d + 1) 6 c
  kB : ∀ c ∈ B, Rep ov (d + 1) 6 c
  kM : ∀ c ∈ M, Rep ov d 6 c
  node1 : ∃ l, ov y1 = some (nodeO (decide (0 < d)) l) ∧ l.length ≤ 12
  node2 : ∃ l, ov y2 = some (nodeO (decide (0 < d)) l) ∧ l.length ≤ 12
  nodef : ∃ l, ov fx = some (nodeO true l) ∧ l.length ≤ 12
  tree : ov t = some (treeO (topx r fx) n D)
  dep : D = d + 2 + r.length
  es : lefts r ++ (esOf A ++ esOf M ++ esOf B) ++ rights r = ES
  perm : (t :: fx :: y1 :: y2 :: (hsOf A ++ hsOf M ++ hsOf B ++ whs r)).Perm V
  nd : V.Nodup
  lf_eq : ∃ ka kb, lf = A.map Kid.pr ++ (ka, y1) :: (kb, y2) :: B.map Kid.pr
theorem Sib.ofA {ov : Lk} {t n D : Nat} {ES : List Ent} {f : Fr} {r : List Fr} {x : Nat} {L : List Kid} {d k0 : Nat} (h : GS ov t n D ES (f :: r) x L d k0) {A : List Kid} {a : Kid} {La : List Kid} (hA : f.A = A ++ [a])
    (h1 : ov a.x = some (nodeO (decide (0 < d)) (La.map Kid.pr))) (h2 : a.es = esOf La) (h3 : a.hs = a.x :: hsOf La) (h4 : La.length ≤ 12) (h5 : ∀ c ∈ La, Rep ov d 6 c) :
    Sib ov t n D ES r f.x f.key a.x x A f.B (La ++ L) d (t :: x :: (hsOf L ++ whs (f :: r))) f.l := by
  obtain ⟨z1, ⟨g1, g2, g3, g4, g5⟩, z3, z4⟩ := h.zip
  refine ⟨z4, fun c hc => g2 c (by rw [hA]; simp [hc]), g3, ?_, ⟨La.map Kid.pr, h1, by simpa using h4⟩, h.node, ⟨f.l, g1, by rw [Fr.l_len]; exact g5⟩, h.tree, by rw [h.dep]; simp; omega, ?_, ?_, h.nd, ⟨a.k, k0, ?_⟩⟩
  · intro c hc
    rcases List.mem_append.1 hc with hc | hc
    · exact h5 c hc
    · exact h.kids c hc
  · rw [← h.es]; simp [lefts, rights, hA, h2]
  · rw [List.perm_iff_count]
    intro z
    simp only [whs, hA, hsOf_append, hsOf_cons, hsOf_nil, h3, List.count_cons, List.count_append, List.append_nil]
    omega
  · simp [Fr.l, hA, z1, Kid.pr]
theorem Sib.ofB {ov : Lk} {t n D : Nat} {ES : List Ent} {f : Fr} {r : List Fr} {x : Nat} {L : List Kid} {d k0 : Nat} (h : GS ov t n D ES (f :: r) x L d k0) {B : List Kid} {c : Kid} {Lc : List Kid} (hA : f.A = []) (hB : f.B = c :: B)
    (h1 : ov c.x = some (nodeO (decide (0 < d)) (Lc.map Kid.pr))) (h2 : c.es = esOf Lc) (h3 : c.hs = c.x :: hsOf Lc) (h4 : Lc.length ≤ 12) (h5 : ∀ c ∈ Lc, Rep ov d 6 c) :
    Sib ov t n D ES r f.x f.key x c.x [] B (L ++ Lc) d (t :: x :: (hsOf L ++ whs (f :: r))) f.l := by
  obtain ⟨z1, ⟨g1, g2, g3, g4, g5⟩, z3, z4⟩ := h.zip
  refine ⟨z4, fun c hc => by simp at hc, fun e he => g3 e (by rw [hB]; simp [he]), ?_, h.node, ⟨Lc.map Kid.pr, h1, by simpa using h4⟩, ⟨f.l, g1, by rw [Fr.l_len]; exact g5⟩, h.tree, by rw [h.dep]; simp; omega, ?_, ?_, h.nd, ⟨k0, c.k, ?_⟩⟩
  · intro e he
    rcases List.mem_append.1 he with he | he
    · exact h.kids e he
    · exact h5 e he
  · rw [← h.es]; simp [lefts, rights, hA, hB, h2]
  · rw [List.perm_iff_count]
    intro z
    simp only [whs, hA, hB, hsOf_append, hsOf_cons, hsOf_nil, h3, List.count_cons, List.count_append, List.nil_append]
    omega
  · simp [Fr.l, hA, hB, z1, Kid.pr]
theorem Sib.ne {ov : Lk} {t n D : Nat} {ES : List Ent} {r : List Fr} {fx fk y1 y2 : Nat} {A B M : List Kid} {d : Nat} {V : List Nat} {lf : List (Nat × Nat)} (h : Sib ov t n D ES r fx fk y1 y2 A B M d V lf) :
    t ≠ fx ∧ t ≠ y1 ∧ t ≠ y2 ∧ fx ≠ y1 ∧ fx ≠ y2 ∧ y1 ≠ y2 ∧ (∀ z, z ∈ hsOf A ∨ z ∈ hsOf M ∨ z ∈ hsOf B ∨ z ∈ whs r → z ≠ t ∧ z ≠ fx ∧ z ≠ y1 ∧ z ≠ y2) := by
  have h1 := h.perm.nodup_iff.2 h.nd
  simp only [List.nodup_cons, List.mem_cons, List.mem_append, not_or] at h1
  obtain ⟨⟨a1, a2, a3, ⟨⟨a4, a5⟩, a6⟩, a7⟩, ⟨b1, b2, ⟨⟨b3, b4⟩, b5⟩, b6⟩, ⟨c1, ⟨⟨c2, c3⟩, c4⟩, c5⟩, ⟨⟨⟨d1, d2⟩, d3⟩, d4⟩, _⟩ := h1
  refine ⟨a1, a2, a3, b1, b2, c1, fun z hz => ?_⟩
  rcases hz with hz | hz | hz | hz
  · exact ⟨fun e => a4 (e ▸ hz), fun e => b3 (e ▸ hz), fun e => c2 (e ▸ hz), fun e => d1 (e ▸ hz)⟩
  · exact ⟨fun e => a5 (e ▸ hz), fun e => b4 (e ▸ hz), fun e => c3 (e ▸ hz), fun e => d2 (e ▸ hz)⟩
  · exact ⟨fun e => a6 (e ▸ hz), fun e => b5 (e ▸ hz), fun e => c4 (e ▸ hz), fun e => d3 (e ▸ hz)⟩
  · exact ⟨fun e => a7 (e ▸ hz), fun e => b6 (e ▸ hz), fun e => c5 (e ▸ hz), fun e => d4 (e ▸ hz)⟩
theorem Sib.merge {ov : Lk} {t n D : Nat} {ES : List Ent} {r : List Fr} {fx fk y1 y2 : Nat} {A B M : List Kid} {d : Nat} {V : List Nat} {lf : List (Nat × Nat)} (h : Sib ov t n D ES r fx fk y1 y2 A B M d V lf) (h6 : 6 ≤ M.length) (h12 : M.length ≤ 12) :
    GS (updO ov y1 (nodeO (decide (0 < d)) (M.map Kid.pr))) t n D ES r fx (A ++ mkKid y1 M :: B) (d + 1) fk ∧ ∀ z, z ∈ t :: fx :: (hsOf (A ++ mkKid y1 M :: B) ++ whs r) → z ∈ V := by
  obtain ⟨a1, a2, a3, a4, a5, a6, a7⟩ := h.ne
  have hp : (y2 :: t :: fx :: (hsOf (A ++ mkKid y1 M :: B) ++ whs r)).Perm V := by
    refine List.Perm.trans ?_ h.perm
    rw [List.perm_iff_count]
    intro z
    simp only [mkKid, hsOf_append, hsOf_cons, List.count_cons, List.count_append]
    omega
  have hfr : ∀ z, z ≠ y1 → updO ov y1 (nodeO (decide (0 < d)) (M.map Kid.pr)) z = ov z := fun z hz => updO_ne _ _ hz
  obtain ⟨l, hl1, hl2⟩ := h.nodef
  refine ⟨⟨h.zip.frame fun z hz => hfr z (a7 z (.inr (.inr (.inr hz)))).2.2.1, fun c hc => ?_, (List.nodup_cons.1 (hp.nodup_iff.2 h.nd)).2, ⟨l, by rw [hfr _ a4, hl1]; simp, hl2⟩, by rw [hfr _ a2]; exact h.tree, h.dep, ?_⟩, fun z hz => hp.mem_iff.1 (List.mem_cons_of_mem _ hz)⟩
  · rcases List.mem_append.1 hc with hc | hc
    · exact (h.kA c hc).frame fun z hz => hfr z (a7 z (.inl (mem_hsOf.2 ⟨c, hc, hz⟩))).2.2.1
    · rcases List.mem_cons.1 hc with rfl | hc
      · exact mkKid_rep (updO_self _ _ _) h6 h12 fun c hc => (h.kM c hc).frame fun z hz => hfr z (a7 z (.inr (.inl (mem_hsOf.2 ⟨c, hc, hz⟩)))).2.2.1
      · exact (h.kB c hc).frame fun z hz => hfr z (a7 z (.inr (.inr (.inl (mem_hsOf.2 ⟨c, hc, hz⟩))))).2.2.1
  · rw [← h.es]; simp [mkKid]
theorem Sib.split {ov : Lk} {t n D : Nat} {ES : List Ent} {r : List Fr} {fx fk y1 y2 : Nat} {A B M1 M2 : List Kid} {d : Nat} {V : List Nat} {lf : List (Nat × Nat)} (h : Sib ov t n D ES r fx fk y1 y2 A B (M1 ++ M2) d V lf) (h1 : 6 ≤ M1.length ∧ M1.length ≤ 12) (h2 : 6 ≤ M2.length ∧ M2.length ≤ 12) :
    GS (updO (updO ov y1 (nodeO (decide (0 < d)) (M1.map Kid.pr))) y2 (nodeO (decide (0 < d)) (M2.map Kid.pr))) t n D ES r fx (A ++ mkKid y1 M1 :: mkKid y2 M2 :: B) (d + 1) fk ∧ (t :: fx :: (hsOf (A ++ mkKid y1 M1 :: mkKid y2 M2 :: B) ++ whs r)).Perm V := by
  obtain ⟨a1, a2, a3, a4, a5, a6, a7⟩ := h.ne
  have hp : (t :: fx :: (hsOf (A ++ mkKid y1 M1 :: mkKid y2 M2 :: B) ++ whs r)).Perm V := by
    refine List.Perm.trans ?_ h.perm
    rw [List.perm_iff_count]
    intro z
    simp only [mkKid, hsOf_append, hsOf_cons, List.count_cons, List.count_append]
    omega
  generalize hov : updO (updO ov y1 (nodeO (decide (0 < d)) (M1.map Kid.pr))) y2 (nodeO (decide (0 < d)) (M2.map Kid.pr)) = ov'
  have hfr : ∀ z, z ≠ y1 → z ≠ y2 → ov' z = ov z := fun z e1 e2 => by rw [← hov, updO_ne _ _ e2, updO_ne _ _ e1]
  have hf2 : ∀ z, z ∈ hsOf A ∨ z ∈ hsOf (M1 ++ M2) ∨ z ∈ hsOf B ∨ z ∈ whs r → ov' z = ov z := fun z hz => hfr z (a7 z hz).2.2.1 (a7 z hz).2.2.2
  have o1 : ov' y1 = some (nodeO (decide (0 < d)) (M1.map Kid.pr)) := by rw [← hov, updO_ne _ _ a6, updO_self]
  have o2 : ov' y2 = some (nodeO (decide (0 < d)) (M2.map Kid.pr)) := by rw [← hov, updO_self]
  have hM : ∀ c ∈ M1 ++ M2, Rep ov' d 6 c := fun c hc => (h.kM c hc).frame fun z hz => hf2 z (.inr (.inl (mem_hsOf.2 ⟨c, hc, hz⟩)))
  obtain ⟨l, hl1, hl2⟩ := h.nodef
  refine ⟨⟨h.zip.frame fun z hz => hf2 z (.inr (.inr (.inr hz))), fun c hc => ?_, hp.nodup_iff.2 h.nd, ⟨l, by rw [hfr _ a4 a5, hl1]; simp, hl2⟩, by rw [hfr _ a2 a3]; exact h.tree, h.dep, ?_⟩, hp⟩
  · rcases List.mem_append.1 hc with hc | hc
    · exact (h.kA c hc).frame fun z hz => hf2 z (.inl (mem_hsOf.2 ⟨c, hc, hz⟩))
    · rcases List.mem_cons.1 hc with rfl | hc
      · exact mkKid_rep o1 h1.1 h1.2 fun c hc => hM c (by simp [hc])
      · rcases List.mem_cons.1 hc with rfl | hc
        · exact mkKid_rep o2 h2.1 h2.2 fun c hc => hM c (by simp [hc])
        · exact (h.kB c hc).frame fun z hz => hf2 z (.inr (.inr (.inl (mem_hsOf.2 ⟨c, hc, hz⟩))))
  · rw [← h.es]; simp [mkKid]
end Go.Td
