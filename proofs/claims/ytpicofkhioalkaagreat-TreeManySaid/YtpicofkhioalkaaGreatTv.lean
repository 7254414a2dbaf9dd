
/- More entries in a node: the tree's data behind each turn. No program in sight. -/
import Derived.Test.YtpicofkhioalkaaGreatTu
set_option maxRecDepth 100000
namespace Go.Td
open Go Go.Hm Go.Kd

/-- a node with kids, as a kid. -/
def mkKid (x : Nat) (L : List Kid) : Kid := ⟨x, esOf L, x :: hsOf L⟩
theorem mkKid_rep {ov : Lk} {d m x : Nat} {L : List Kid} (ho : ov x = some (nodeO (decide (0 < d)) (L.map Kid.pr))) (hm : m ≤ L.length) (hl : L.length ≤ 12) (hr : ∀ c ∈ L, Rep ov d 6 c) : Rep ov (d + 1) m (mkKid x L) :=
  ⟨L, ho, rfl, rfl, hm, hl, hr⟩
theorem mkKid_k {x : Nat} {c : Kid} {L : List Kid} (hc : c.es ≠ []) : (mkKid x (c :: L)).k = c.k := by
  obtain ⟨e, r, he⟩ := List.exists_cons_of_ne_nil hc
  simp [Kid.k, mkKid, he]
def firstK (L : List Kid) : Nat := match L with | c :: _ => c.k | [] => 0
theorem mkKid_pr {ov : Lk} {d x : Nat} {L : List Kid} (h0 : L ≠ []) (hr : ∀ c ∈ L, Rep ov d 6 c) : (mkKid x L).pr = (firstK L, x) := by
  obtain ⟨c, r, rfl⟩ := List.exists_cons_of_ne_nil h0
  unfold Kid.pr
  rw [mkKid_k ((hr c (by simp)).ne (by omega))]; rfl
theorem firstK_get {L : List Kid} (h : L ≠ []) : (L.map Kid.pr)[0]?.map Prod.fst = some (firstK L) := by
  obtain ⟨c, r, rfl⟩ := List.exists_cons_of_ne_nil h
  rfl

/-- a turn of the way up. -/
structure GS (ov : Lk) (t n D : Nat) (ES : List Ent) (bs : List Fr) (x : Nat) (L : List Kid) (d k0 : Nat) : Prop where
  zip : Zip ov bs (d + 1) (k0, x)
  kids : ∀ c ∈ L, Rep ov d 6 c
  nd : (t :: x :: (hsOf L ++ whs bs)).Nodup
  node : ∃ l, ov x = some (nodeO (decide (0 < d)) l) ∧ l.length ≤ 12
  tree : ov t = some (treeO (topx bs x) n D)
  dep : D = d + 1 + bs.length
  es : lefts bs ++ esOf L ++ rights bs = ES
/-- what a tree is in the end. -/
structure Done (ov : Lk) (t n D : Nat) (ES : List Ent) (V : List Nat) (root : Kid) : Prop where
  tree : ov t = some (treeO root.x n (D + 1))
  rep : Rep ov (D + 1) (if D = 0 then 1 else 2) root
  es : root.es = ES
  hs : (t :: root.hs).Perm V
theorem zip_of_nd {t x : Nat} {L : List Kid} {bs : List Fr} (h : (t :: x :: (hsOf L ++ whs bs)).Nodup) : t ≠ x ∧ t ∉ hsOf L ∧ t ∉ whs bs ∧ x ∉ hsOf L ∧ x ∉ whs bs ∧ (hsOf L).Nodup ∧ (whs bs).Nodup ∧ ∀ z ∈ hsOf L, z ∉ whs bs := by
  simp only [List.nodup_cons, List.mem_cons, List.mem_append, not_or] at h
  obtain ⟨⟨h1, h2, h3⟩, ⟨h4, h5⟩, h6⟩ := h
  obtain ⟨h7, h8, h9⟩ := List.nodup_append.1 h6
  exact ⟨h1, h2, h3, h4, h5, h7, h8, fun z hz hz2 => h9 z hz z hz2 rfl⟩
theorem GS.fin {ov : Lk} {t n D : Nat} {ES : List Ent} {bs : List Fr} {x : Nat} {L : List Kid} {d k0 : Nat} (h : GS ov t n D ES bs x L d k0) (h0 : L ≠ []) (h1 : bs ≠ [] → 6 ≤ L.length) (h2 : 0 < d → 2 ≤ L.length) (h3 : L.length ≤ 12) :
    ∃ root, Done (fixO (updO ov x (nodeO (decide (0 < d)) (L.map Kid.pr))) bs (firstK L)) t n (d + bs.length) ES (t :: x :: (hsOf L ++ whs bs)) root := by
  obtain ⟨a1, a2, a3, a4, a5, a6, a7, a8⟩ := zip_of_nd h.nd
  generalize hov : updO ov x (nodeO (decide (0 < d)) (L.map Kid.pr)) = ov1
  have hz1 : Zip ov1 bs (d + 1) (k0, x) := by rw [← hov]; exact h.zip.upd a5
  have hz2 := fix_zip (k := firstK L) hz1 a7
  have hfr : ∀ z, z ∉ whs bs → fixO ov1 bs (firstK L) z = ov1 z := fun z hz => fixO_frame fun hx => hz (xs_whs hx)
  have hk1 : ∀ c ∈ L, Rep ov1 d 6 c := fun c hc => by rw [← hov]; exact (h.kids c hc).upd fun hh => a4 (mem_hsOf.2 ⟨c, hc, hh⟩)
  have hk2 : ∀ c ∈ L, Rep (fixO ov1 bs (firstK L)) d 6 c := fun c hc => (hk1 c hc).frame fun z hz => hfr z (a8 z (mem_hsOf.2 ⟨c, hc, hz⟩))
  have hx2 : fixO ov1 bs (firstK L) x = some (nodeO (decide (0 < d)) (L.map Kid.pr)) := by rw [hfr x a5, ← hov, updO_self]
  have hpos := List.length_pos_iff.2 h0
  have hrep : Rep (fixO ov1 bs (firstK L)) (d + 1) (if fixF bs (firstK L) = [] then (if d = 0 then 1 else 2) else 6) (mkKid x L) := by
    refine mkKid_rep hx2 ?_ h3 hk2
    by_cases e : bs = []
    · rw [if_pos (fixF_nil.2 e)]
      split <;> omega
    · rw [if_neg (fun e2 => e (fixF_nil.1 e2))]; exact h1 e
  rw [← mkKid_pr (x := x) h0 hk1] at hz2
  have hp := plug_rep hz2 hrep
  refine ⟨plug (fixF bs (firstK L)) (mkKid x L), ?_, ?_, ?_, ?_⟩
  · rw [plug_x, fixF_topx, hfr t a3, ← hov, updO_ne _ _ a1, h.tree, h.dep]
    have : d + 1 + bs.length = d + bs.length + 1 := by omega
    rw [this]; rfl
  · rw [fixF_len] at hp
    have e1 : d + 1 + bs.length = d + bs.length + 1 := by omega
    rw [e1] at hp
    by_cases e : bs = []
    · subst e
      have e9 : fixF [] (firstK L) = [] := rfl
      rw [e9] at hp ⊢
      simpa using hp
    · rw [if_neg (fun e2 => e (fixF_nil.1 e2))] at hp
      have : 0 < bs.length := List.length_pos_iff.2 e
      rw [if_neg (by omega)]
      exact hp
  · rw [plug_es, fixF_lefts, fixF_rights]; exact h.es
  · refine List.Perm.cons _ ?_
    refine (plug_hs _ _).trans ?_
    rw [fixF_whs]
    simp [mkKid]
/-- two nodes in place of one, below a node. -/
theorem GS.up {ov : Lk} {t n D : Nat} {ES : List Ent} {f : Fr} {r : List Fr} {x y : Nat} {L1 L2 : List Kid} {d k0 : Nat} (h : GS ov t n D ES (f :: r) x (L1 ++ L2) d k0) (h1 : 6 ≤ L1.length ∧ L1.length ≤ 12) (h2 : 6 ≤ L2.length ∧ L2.length ≤ 12)
    (hy : y ∉ t :: x :: (hsOf (L1 ++ L2) ++ whs (f :: r))) :
    GS (updO (updO ov y (nodeO (decide (0 < d)) (L2.map Kid.pr))) x (nodeO (decide (0 < d)) (L1.map Kid.pr))) t n D ES r f.x (f.A ++ mkKid x L1 :: mkKid y L2 :: f.B) (d + 1) f.key ∧
      (t :: f.x :: (hsOf (f.A ++ mkKid x L1 :: mkKid y L2 :: f.B) ++ whs r)).Perm (y :: t :: x :: (hsOf (L1 ++ L2) ++ whs (f :: r))) := by
  obtain ⟨a1, a2, a3, a4, a5, a6, a7, a8⟩ := zip_of_nd h.nd
  have hperm : (t :: f.x :: (hsOf (f.A ++ mkKid x L1 :: mkKid y L2 :: f.B) ++ whs r)).Perm (y :: t :: x :: (hsOf (L1 ++ L2) ++ whs (f :: r))) := by
    rw [List.perm_iff_count]
    intro z
    simp only [whs, mkKid, hsOf_append, hsOf_cons, List.count_cons, List.count_append]
    omega
  simp only [List.mem_cons, List.mem_append, not_or] at hy
  obtain ⟨b1, b2, b3, b4⟩ := hy
  obtain ⟨z1, z2, z3, z4⟩ := h.zip
  have hyx : x ≠ y := fun e => b2 e.symm
  have hfx : f.x ∈ whs (f :: r) := by simp [whs]
  have hA : ∀ z ∈ hsOf f.A, z ∈ whs (f :: r) := fun z hz => by simp [whs, hz]
  have hB : ∀ z ∈ hsOf f.B, z ∈ whs (f :: r) := fun z hz => by simp [whs, hz]
  have hr : ∀ z ∈ whs r, z ∈ whs (f :: r) := fun z hz => by simp [whs, hz]
  generalize hov : updO (updO ov y (nodeO (decide (0 < d)) (L2.map Kid.pr))) x (nodeO (decide (0 < d)) (L1.map Kid.pr)) = ov'
  have hfr : ∀ z, z ≠ x → z ≠ y → ov' z = ov z := fun z e1 e2 => by rw [← hov, updO_ne _ _ e1, updO_ne _ _ e2]
  have hw : ∀ z ∈ whs (f :: r), ov' z = ov z := fun z hz => hfr z (fun e => a5 (e ▸ hz)) (fun e => b4 (e ▸ hz))
  have hk : ∀ c ∈ L1 ++ L2, Rep ov' d 6 c := fun c hc => (h.kids c hc).frame fun z hz => by
    have hm : z ∈ hsOf (L1 ++ L2) := mem_hsOf.2 ⟨c, hc, hz⟩
    exact hfr z (fun e => a4 (e ▸ hm)) (fun e => b3 (e ▸ hm))
  have hx1 : ov' x = some (nodeO (decide (0 < d)) (L1.map Kid.pr)) := by rw [← hov, updO_self]
  have hy1 : ov' y = some (nodeO (decide (0 < d)) (L2.map Kid.pr)) := by rw [← hov, updO_ne _ _ (fun e => hyx e.symm), updO_self]
  have r1 : Rep ov' (d + 1) 6 (mkKid x L1) := mkKid_rep hx1 h1.1 h1.2 fun c hc => hk c (by simp [hc])
  have r2 : Rep ov' (d + 1) 6 (mkKid y L2) := mkKid_rep hy1 h2.1 h2.2 fun c hc => hk c (by simp [hc])
  obtain ⟨g1, g2, g3, g4, g5⟩ := z2
  refine ⟨⟨z4.frame fun z hz => hw z (hr z hz), ?_, ?_, ⟨f.l, ?_, ?_⟩, ?_, ?_, ?_⟩, hperm⟩
  · intro c hc
    rcases List.mem_append.1 hc with hc | hc
    · exact (g2 c hc).frame fun z hz => hw z (hA z (mem_hsOf.2 ⟨c, hc, hz⟩))
    · rcases List.mem_cons.1 hc with rfl | hc
      · exact r1
      · rcases List.mem_cons.1 hc with rfl | hc
        · exact r2
        · exact (g3 c hc).frame fun z hz => hw z (hB z (mem_hsOf.2 ⟨c, hc, hz⟩))
  · refine hperm.nodup_iff.2 (List.nodup_cons.2 ⟨?_, h.nd⟩)
    simp only [List.mem_cons, List.mem_append, not_or]
    exact ⟨b1, b2, b3, b4⟩
  · rw [hw _ hfx, g1]; simp
  · rw [Fr.l_len]; exact g5
  · rw [hfr t a1 (fun e => b1 e.symm)]; exact h.tree
  · rw [h.dep]; simp; omega
  · rw [← h.es]; simp [lefts, rights, mkKid]
/-- two nodes in place of the top one. -/
theorem GS.top {ov : Lk} {t n D : Nat} {ES : List Ent} {x y z : Nat} {L1 L2 : List Kid} {d k0 : Nat} (h : GS ov t n D ES [] x (L1 ++ L2) d k0) (h1 : 6 ≤ L1.length ∧ L1.length ≤ 12) (h2 : 6 ≤ L2.length ∧ L2.length ≤ 12)
    (hy : y ∉ t :: x :: (hsOf (L1 ++ L2) ++ whs [])) (hz : z ∉ y :: t :: x :: (hsOf (L1 ++ L2) ++ whs [])) :
    ∃ root, Done (updO (updO (updO (updO ov y (nodeO (decide (0 < d)) (L2.map Kid.pr))) x (nodeO (decide (0 < d)) (L1.map Kid.pr))) z (nodeO true [(firstK L1, x), (firstK L2, y)])) t (treeO z n (D + 1))) t n D ES
      (z :: y :: t :: x :: (hsOf (L1 ++ L2) ++ whs [])) root := by
  obtain ⟨a1, a2, a3, a4, a5, a6, a7, a8⟩ := zip_of_nd h.nd
  simp only [List.mem_cons, List.mem_append, not_or] at hy hz
  obtain ⟨b1, b2, b3, b4⟩ := hy
  obtain ⟨c0, c1, c2, c3, c4⟩ := hz
  generalize hov : updO (updO (updO (updO ov y (nodeO (decide (0 < d)) (L2.map Kid.pr))) x (nodeO (decide (0 < d)) (L1.map Kid.pr))) z (nodeO true [(firstK L1, x), (firstK L2, y)])) t (treeO z n (D + 1)) = ov'
  have hfr : ∀ q, q ≠ x → q ≠ y → q ≠ z → q ≠ t → ov' q = ov q := fun q e1 e2 e3 e4 => by rw [← hov, updO_ne _ _ e4, updO_ne _ _ e3, updO_ne _ _ e1, updO_ne _ _ e2]
  have hk : ∀ c ∈ L1 ++ L2, Rep ov' d 6 c := fun c hc => (h.kids c hc).frame fun q hq => by
    have hm : q ∈ hsOf (L1 ++ L2) := mem_hsOf.2 ⟨c, hc, hq⟩
    exact hfr q (fun e => a4 (e ▸ hm)) (fun e => b3 (e ▸ hm)) (fun e => c3 (e ▸ hm)) (fun e => a2 (e ▸ hm))
  have hx1 : ov' x = some (nodeO (decide (0 < d)) (L1.map Kid.pr)) := by rw [← hov, updO_ne _ _ (fun e => a1 e.symm), updO_ne _ _ (fun e => c2 e.symm), updO_self]
  have hy1 : ov' y = some (nodeO (decide (0 < d)) (L2.map Kid.pr)) := by rw [← hov, updO_ne _ _ b1, updO_ne _ _ (fun e => c0 e.symm), updO_ne _ _ b2, updO_self]
  have hz1 : ov' z = some (nodeO true [(firstK L1, x), (firstK L2, y)]) := by rw [← hov, updO_ne _ _ c1, updO_self]
  have r1 : Rep ov' (d + 1) 6 (mkKid x L1) := mkKid_rep hx1 h1.1 h1.2 fun c hc => hk c (by simp [hc])
  have r2 : Rep ov' (d + 1) 6 (mkKid y L2) := mkKid_rep hy1 h2.1 h2.2 fun c hc => hk c (by simp [hc])
  have n1 : L1 ≠ [] := by intro e; rw [e] at h1; simp at h1
  have n2 : L2 ≠ [] := by intro e; rw [e] at h2; simp at h2
  have p1 := mkKid_pr (x := x) n1 fun c hc => hk c (by simp [hc])
  have p2 := mkKid_pr (x := y) n2 fun c hc => hk c (by simp [hc])
  have hD : D = d + 1 := by rw [h.dep]; rfl
  refine ⟨mkKid z [mkKid x L1, mkKid y L2], ?_, ?_, ?_, ?_⟩
  · rw [← hov, updO_self]; rfl
  · rw [hD, if_neg (by omega)]
    refine mkKid_rep (by rw [hz1]; simp [p1, p2]) (by simp) (by simp) ?_
    intro c hc
    simp only [List.mem_cons, List.not_mem_nil, or_false] at hc
    rcases hc with rfl | rfl
    · exact r1
    · exact r2
  · have := h.es
    simp only [lefts, rights, List.nil_append, List.append_nil] at this
    rw [← this]
    simp [mkKid]
  · rw [List.perm_iff_count]
    intro q
    simp only [whs, mkKid, hsOf_append, hsOf_cons, hsOf_nil, List.count_cons, List.count_append, List.append_nil]
    omega
end Go.Td
