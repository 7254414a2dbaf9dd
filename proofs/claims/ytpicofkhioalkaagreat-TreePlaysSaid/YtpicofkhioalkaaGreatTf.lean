
/- What beside comes to: the entries of the next leaf, or of the last one ahead. -/
import Derived.Test.YtpicofkhioalkaaGreatTt
set_option maxRecDepth 100000
namespace Go.Td
open Go Go.Hm Go.Kd
def side (fw : Bool) (bs : List Fr) : List Ent := if fw then rights bs else lefts bs
def Near (fw : Bool) (all es : List Ent) : Prop := ∃ rest, all = if fw then es ++ rest else rest ++ es
theorem lefts_app : ∀ (P r : List Fr), lefts (P ++ r) = lefts r ++ lefts P
 | [], r => by simp [lefts]
 | f :: P, r => by simp [lefts, lefts_app P r]
theorem rights_app : ∀ (P r : List Fr), rights (P ++ r) = rights P ++ rights r
 | [], r => by simp [rights]
 | f :: P, r => by simp [rights, rights_app P r]
theorem side_app (fw : Bool) (P r : List Fr) (h : side fw P = []) : side fw (P ++ r) = side fw r := by
 cases fw
 ·have h : lefts P = [] := h
  show lefts (P ++ r) = lefts r
  rw [lefts_app, h, List.append_nil]
 ·have h : rights P = [] := h
  show rights (P ++ r) = rights r
  rw [rights_app, h, List.nil_append]
theorem zip_tail {ov : Lk} : ∀ {P r : List Fr} {d : Nat} {p : Nat × Nat}, Zip ov (P ++ r) d p -> ∃ q, Zip ov r (d + P.length) q
 | [], _, _, p, h => ⟨p, h⟩
 | f :: P, r, d, p, ⟨_, _, _, h⟩ => by
  obtain ⟨q, h⟩ := zip_tail h
  have e : d + (f :: P).length = d + 1 + P.length := by simp only [List.length_cons]; omega
  rw [e]
  exact ⟨q, h⟩
theorem Near.first {fw : Bool} {all : List Ent} {c a : Kid} {L : List Kid} (h : Near fw all c.es) (hc : c.es = esOf L) (ha : if fw then ∃ r, L = a :: r else ∃ r, L = r ++ [a]) : Near fw all a.es := by
 obtain ⟨rest, h⟩ := h
 cases fw
 ·obtain ⟨r, ha⟩ := ha
  exact ⟨rest ++ esOf r, by rw [h, hc, ha]; simp⟩
 ·obtain ⟨r, ha⟩ := ha
  exact ⟨esOf r ++ rest, by rw [h, hc, ha]; simp⟩
theorem beside_kid (fw : Bool) (f : Fr) : (side fw [f] = [] /\ (if fw then f.B = [] else f.A = [])) ∨ ∃ (c : Kid) (i : Nat), (i : Int) = f.A.length + (if fw then 1 else -1) /\ f.l[i]? = some c.pr /\ (c ∈ f.A ∨ c ∈ f.B) /\ ∀ r, Near fw (side fw (f :: r)) c.es := by
 cases fw
 ·rcases List.eq_nil_or_concat f.A with h | ⟨A, c, h⟩
  ·left
   refine ⟨?_, by simpa using h⟩
   show lefts [f] = []
   simp [lefts, h]
  ·right
   have h : f.A = A ++ [c] := by rw [h, List.concat_eq_append]
   refine ⟨c, A.length, by rw [h]; simp; omega, ?_, .inl (by rw [h]; simp), fun r => ⟨lefts r ++ esOf A, ?_⟩⟩
   ·simp [Fr.l, h]
   ·show lefts (f :: r) = _
    simp [lefts, h]
 ·cases h : f.B with
  | nil =>
   left
   refine ⟨?_, by simp⟩
   show rights [f] = []
   simp [rights, h]
  | cons c B =>
   right
   refine ⟨c, f.A.length + 1, by simp, ?_, .inr (by simp), fun r => ⟨esOf B ++ rights r, ?_⟩⟩
   ·unfold Fr.l
    rw [List.getElem?_append_right (by simp), h]
    simp
   ·show rights (f :: r) = _
    simp [rights, h]
end Go.Td
namespace Go.Proofs.YtpicofkhioalkaaGreat
open Go Go.Lw Go.Wd Go.Am Go.Tb Go.Hm Go.Kd Go.Td
section
variable {H : Hp} {v : Value} {b : Nat} {F : List HP} {w : World}
def BesP (H : Hp) (v : Value) (b : Nat) (F : List HP) (fw : Bool) (all : List Ent) (e : Ending) (w' : World) : Prop :=
 (all = [] /\ e = .returned (.slice none 0 0) /\ Sat (HeapH H v b :: F) w') ∨
 ∃ (L : List Kid) (lp : Option Addr) (lc : Nat), L ≠ [] /\ L.length <= 12 /\ Near fw all (esOf L) /\ (∀ a ∈ L, Rep H.ov 0 6 a) /\ e = .returned (.slice lp L.length lc) /\
  Sat (Own 96 2 lp L.length lc (pairsV (L.map Kid.pr)) :: HeapH H v b :: F) w'
set_option maxHeartbeats 1000000 in
theorem beside_c {bs : List Fr} {wp : Option Addr} {wc : Nat} (hs : Sat (Way bs wp wc :: HeapH H v b :: F) w) (t : Nat) {fw : Bool} {by_ : Int} (hby : by_ = if fw then 1 else -1) {p : Nat × Nat} (hz : Zip H.ov bs 1 p) (hbl : bs.length <= 100) :
  Calls Tryz.prog 57 #[trv b t, .slice wp bs.length wc, .int .i64 by_] w (BesP H v b F fw (side fw bs)) := by
 refine S_tree_tree_beside_ok _ _ _ _ _ _ _ _ ?_
 unfold S_tree_tree_beside
 refine NewC.ofRow hs fun d w1 h1 => ?_
 obtain ⟨qs, hqs, h2⟩ := way_open (Sat.p1 h1)
 rw [wrapI64 (n := ((bs.length : Nat) : Int) - 1) (by omega) (by omega)]
 have h2 : Sat (Own 152 3 wp bs.length wc (stepsV bs qs) :: LsH bs qs :: HeapH H v b :: Row d (trc b t) 73 :: F) w1 := Sat.pull (Sat.pull (Sat.pull h2 3 rfl) 2 rfl) 2 rfl
 refine ⟨fun i w' => ∃ (P r : List Fr) (qp qr : List (Option Addr × Nat)), bs = P ++ r /\ qs = qp ++ qr /\ qp.length = P.length /\ qr.length = r.length /\ i = (r.length : Int) - 1 /\ side fw P = [] /\
   Sat (Own 152 3 wp bs.length wc (stepsV bs qs) :: LsH r qr :: HeapH H v b :: Row d (trc b t) 73 :: F) w', fun i _ => (i + 1).toNat,
  ⟨[], bs, [], qs, rfl, rfl, rfl, hqs, rfl, by cases fw <;> rfl, h2⟩, ?_⟩
 rintro i w2 ⟨P, r, qp, qr, hP, hq, hqp, hqr, rfl, hsd, h3⟩
 unfold S_tree_tree_beside_l1
 cases r with
 | nil =>
  refine cond_f (by simp) (.inl ⟨?_, rfl, Sat.drop (Sat.pull h3.drop.drop 1 rfl)⟩)
  rw [hP, List.append_nil]; exact hsd
 | cons f r =>
  cases qr with
  | nil => simp at hqr
  | cons q qr =>
   have hqr' : qr.length = r.length := by simpa using hqr
   refine cond_t (by simp) ?_
   have ei : (((f :: r).length : Nat) : Int) - 1 = ((r.length : Nat) : Int) := by simp
   rw [ei]
   have hbl2 : r.length < bs.length := by rw [hP]; simp; omega
   have hbl3 : bs.length = P.length + (r.length + 1) := by rw [hP]; simp
   obtain ⟨hcap, h4⟩ := lsH_cons (Sat.p1 h3)
   have hst : ∀ {j : Nat} {u : Value}, (stepV f q)[j]? = some u -> (stepsV bs qs)[r.length * 3 + j]? = some u := fun hj => by rw [hP, hq]; exact stepsV_get hqp hqr' hj
   obtain ⟨pz, hzf⟩ := zip_tail (hP ▸ hz)
   obtain ⟨_, hok, _, _⟩ := hzf
   have hfl := f.l_len
   have hf12 : f.l.length <= 12 := by rw [hfl]; exact hok.2.2.2.2
   intro k1 hk1
   have next : side fw [f] = [] -> ∀ w3, Sat (LsH r qr :: Own 152 3 wp bs.length wc (stepsV bs qs) :: HeapH H v b :: Row d (trc b t) 73 :: F) w3 -> k1 w3 := by
    intro hf w3 h5
    refine hk1 w3 ?_
    unfold S_tree_tree_beside_j1
    rw [wrapI64 (n := ((r.length : Nat) : Int) - 1) (by omega) (by omega)]
    refine ⟨⟨P ++ [f], r, qp ++ [q], qr, by rw [hP]; simp, by rw [hq]; simp, by simp [hqp], hqr', rfl, ?_, Sat.p1 h5⟩, by dsimp only; omega⟩
    rw [side_app fw P [f] hsd]; exact hf
   refine IdxC.ownAt h4 2 rfl hbl2 fun g hg => ?_
   refine LdI.at (n := (f.A.length : Nat)) (Sat.ownAt h4 2 rfl hg (off := r.length * 3 + 2) (hst rfl)) ?_
   have hby1 : -1 <= by_ /\ by_ <= 1 := by rw [hby]; cases fw <;> simp
   rw [wrapI64 (n := (f.A.length : Nat) + by_) (by omega) (by omega)]
   rcases beside_kid fw f with ⟨hn, hn2⟩ | ⟨c, i, hi, hget, hmem, hedge⟩
   ·cases fw
    ·have hn2 : f.A = [] := by simpa using hn2
     refine cond_t (by rw [hby, hn2]; decide) (next hn _ h4.drop)
    ·have hn2 : f.B = [] := by simpa using hn2
     refine cond_f (by rw [hby]; simp; omega) ?_
     refine IdxC.ownAt h4 2 rfl hbl2 fun g2 hg2 => ?_
     refine LdS.at (p := q.1) (l := f.l.length) (c := q.2) (Sat.ownAt h4 2 rfl hg2 (off := r.length * 3 + 1) (hst rfl)) ?_
     refine cond_t (by rw [hby, hfl, hn2]; simp) (next hn _ h4.drop)
   ·have hil := get_lt hget
    rw [<- hby] at hi
    rw [<- hi]
    refine cond_f (by simp) ?_
    refine IdxC.ownAt h4 2 rfl hbl2 fun g2 hg2 => ?_
    refine LdS.at (p := q.1) (l := f.l.length) (c := q.2) (Sat.ownAt h4 2 rfl hg2 (off := r.length * 3 + 1) (hst rfl)) ?_
    refine cond_f (by simp; omega) ?_
    refine IdxC.ownAt h4 2 rfl hbl2 fun g3 hg3 => ?_
    refine LdS.at (p := q.1) (l := f.l.length) (c := q.2) (Sat.ownAt h4 2 rfl hg3 (off := r.length * 3 + 1) (hst rfl)) ?_
    refine IdxC.ownAt h4 0 rfl hil fun g4 hg4 => ?_
    refine LdI.at (n := (c.x : Int)) (Sat.ownAt h4 0 rfl hg4 (off := i * 2 + 1) (pairsV_get1 hget)) ?_
    have hrc : Rep H.ov (1 + P.length) 6 c := hmem.elim (hok.2.1 c) (hok.2.2.1 c)
    have hedge := hedge r
    rw [<- side_app fw P (f :: r) hsd, <- hP] at hedge
    rw [wrapI64 (n := ((r.length : Nat) : Int) + 1) (by omega) (by omega)]
    refine ⟨fun x j w' => ∃ (e : Nat) (c : Kid), x = (c.x : Int) /\ j = (bs.length : Int) - e /\ e <= bs.length /\ Rep H.ov (e + 1) 6 c /\ Near fw (side fw bs) c.es /\ Sat (HeapH H v b :: Row d (trc b t) 73 :: F) w', fun x j _ => ((bs.length : Int) - j).toNat,
     ⟨P.length, c, rfl, by omega, by omega, by rw [Nat.add_comm]; exact hrc, hedge, Sat.drop (Sat.drop (Sat.drop h4))⟩, ?_⟩
    clear hget hmem hedge hi hrc h4 hg hg2 hg3 hg4 h2 h1 h3
    rintro x j w3 ⟨e, c, rfl, rfl, he, hrc, hedge, h5⟩
    unfold S_tree_tree_beside_l0
    cases e with
    | zero =>
     refine cond_f (by simp) ?_
     refine LdP.of h5 1 rfl (off := 0) rfl rfl (LdI.of h5 1 rfl (off := 1) rfl (add_mk _ _ _) ?_)
     obtain ⟨L, g1, g2, g3, g4, g5, g6⟩ := hrc
     have g1 : H.ov c.x = some (nodeO false (L.map Kid.pr)) := by rw [g1]; simp
     refine (pairs_c h5 t (by simpa using g5) g1).mono ?_
     rintro e1 w4 ⟨lp, lc, rfl, hlc, h6⟩
     rw [List.length_map] at h6 ⊢
     refine ⟨_, _, _, rfl, .inr ⟨L, lp, lc, ?_, g5, ?_, g6, rfl, ?_⟩⟩
     ·intro e0; rw [e0] at g4; simp at g4
     ·rw [<- g2]; exact hedge
     ·exact Sat.p1 (Sat.drop (Sat.p2 (Sat.p1 h6)) |> fun g => by exact g)
    | succ e =>
     refine cond_t (by simp; omega) ?_
     intro k2 hk2
     refine LdP.of h5 1 rfl (off := 0) rfl rfl (LdI.of h5 1 rfl (off := 1) rfl (add_mk _ _ _) ?_)
     obtain ⟨L, g1, g2, g3, g4, g5, g6⟩ := hrc
     have g1 : H.ov c.x = some (nodeO true (L.map Kid.pr)) := by rw [g1]; simp
     refine (pairs_c h5 t (by simpa using g5) g1).mono ?_
     rintro e1 w4 ⟨lp, lc, rfl, hlc, h6⟩
     rw [List.length_map] at h6 ⊢
     refine ⟨_, _, _, rfl, ?_⟩
     refine (must_c 4 (by simp; omega)).mono ?_
     rintro e2 w5 ⟨rfl, rfl⟩
     refine ⟨rfl, ?_⟩
     have go : ∀ a : Kid, a ∈ L -> (if fw then ∃ r, L = a :: r else ∃ r, L = r ++ [a]) -> k2 (a.x : Int) w5 := by
      intro a ha hfa
      refine hk2 _ _ ?_
      unfold S_tree_tree_beside_j0
      refine ⟨⟨e, a, rfl, ?_, by omega, g6 a ha, hedge.first g2 hfa, h6.drop⟩, ?_⟩
      ·rw [wrapI64 (by omega) (by omega)]; omega
      ·rw [wrapI64 (by omega) (by omega)]; dsimp only; omega
     have hL0 : 0 < L.length := by omega
     obtain ⟨a0, r0, hL⟩ := List.exists_cons_of_ne_nil (List.length_pos_iff.1 hL0)
     refine IdxC.ownAt (k := 0) h6 0 rfl hL0 fun g4 hg4 => ?_
     have hg0 : (L.map Kid.pr)[0]? = some a0.pr := by rw [hL]; rfl
     refine LdI.at (n := (a0.x : Int)) (Sat.ownAt h6 0 rfl hg4 (off := 0 * 2 + 1) (pairsV_get1 hg0)) ?_
     cases fw
     ·refine cond_t (by rw [hby]; decide) ?_
      rcases List.eq_nil_or_concat L with h | ⟨L', a, h⟩
      ·rw [h] at hL0; simp at hL0
      have h : L = L' ++ [a] := by rw [h, List.concat_eq_append]
      have hgl : (L.map Kid.pr)[L'.length]? = some a.pr := by rw [h]; simp
      have el : IntKind.wrap .i64 (((L.length : Nat) : Int) - 1) = ((L'.length : Nat) : Int) := by rw [wrapI64 (by omega) (by omega), h]; simp
      rw [el]
      refine IdxC.ownAt h6 0 rfl (by rw [h]; simp) fun g5 hg5 => ?_
      refine LdI.at (n := (a.x : Int)) (Sat.ownAt h6 0 rfl hg5 (off := L'.length * 2 + 1) (pairsV_get1 hgl)) ?_
      exact go a (by rw [h]; simp) (by simpa using ⟨L', h⟩)
     ·refine cond_f (by rw [hby]; decide) ?_
      exact go a0 (by rw [hL]; simp) (by simpa using ⟨r0, hL⟩)
end
end Go.Proofs.YtpicofkhioalkaaGreat
