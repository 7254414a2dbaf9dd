
/- What first comes to: the least keys above a node made right. -/
import Derived.Test.YtpicofkhioalkaaGreatTx
set_option maxRecDepth 100000
namespace Go.Proofs.YtpicofkhioalkaaGreat
open Go Go.Lw Go.Wd Go.Am Go.Tb Go.Hm Go.Kd Go.Td

theorem stepsV_len : ∀ {bs : List Fr} {qs : List (Option Addr × Nat)}, qs.length = bs.length → (stepsV bs qs).length = bs.length * 3
  | [], [], _ => rfl
  | [], _ :: _, h => by simp at h
  | _ :: _, [], h => by simp at h
  | f :: r, q :: qs, h => by
    simp only [stepsV, List.length_append, stepsV_len (by simpa using h : qs.length = r.length), List.length_cons]
    simp [stepV]; omega
theorem stepsV_app : ∀ {P r : List Fr} {qp qr : List (Option Addr × Nat)}, qp.length = P.length → stepsV (P ++ r) (qp ++ qr) = stepsV r qr ++ stepsV P qp
  | [], r, [], qr, _ => by simp [stepsV]
  | [], _, _ :: _, _, h => by simp at h
  | _ :: _, _, [], _, h => by simp at h
  | f :: P, r, q :: qp, qr, h => by
    simp only [List.cons_append, stepsV, stepsV_app (by simpa using h : qp.length = P.length), List.append_assoc]
/-- a step's cells. -/
theorem stepsV_get {P r : List Fr} {f : Fr} {qp qr : List (Option Addr × Nat)} {q : Option Addr × Nat} (h1 : qp.length = P.length) (h2 : qr.length = r.length) {j : Nat} {u : Value} (hj : (stepV f q)[j]? = some u) :
    (stepsV (P ++ f :: r) (qp ++ q :: qr))[r.length * 3 + j]? = some u := by
  rw [stepsV_app h1]
  have hl := stepsV_len h2
  have hj3 := get_lt hj
  show (stepsV r qr ++ stepV f q ++ stepsV P qp)[_]? = _
  rw [List.append_assoc, List.getElem?_append_right (by omega), hl, Nat.add_sub_cancel_left, List.getElem?_append_left hj3]
  exact hj
theorem lsH_cons {f : Fr} {r : List Fr} {q : Option Addr × Nat} {qs : List (Option Addr × Nat)} {L : List HP} {w : World} (h : Sat (LsH (f :: r) (q :: qs) :: L) w) : f.l.length + 1 ≤ q.2 ∧ Sat (Own 96 2 q.1 f.l.length q.2 (pairsV f.l) :: LsH r qs :: L) w := by
  obtain ⟨h1, h2⟩ := (Sat.split h).pureOf
  exact ⟨h1, h2⟩
theorem _root_.Go.Td.Fr.get (f : Fr) : f.l[f.A.length]? = some f.p := by simp [Fr.l]
theorem _root_.Go.Td.Fr.set_l (f : Fr) (k : Nat) : f.l.set f.A.length (k, f.p.2) = (f.with k).l := by simp [Fr.l, Fr.with]
theorem _root_.Go.Td.Fr.with_len (f : Fr) (k : Nat) : (f.with k).l.length = f.l.length := by simp [Fr.l, Fr.with]

/-- what may be written into the nodes of a way. -/
def OkW {v : Value} {b : Nat} (E : Eng v b) (s : E.σ) (bs : List Fr) : Prop := ∀ f ∈ bs, E.ok s f.x ∧ (∃ l, E.ov s f.x = some (nodeO true l) ∧ l.length ≤ 12) ∧ f.l.length ≤ 12 ∧ ∀ p ∈ f.l, (p.1 = 0 ∨ E.ok s p.1) ∧ (p.2 = 0 ∨ E.ok s p.2)
section
variable {v : Value} {b : Nat} {E : Eng v b} {s : E.σ} {F : List HP} {w : World}
theorem okw_updO {s s' : E.σ} {bs : List Fr} {x k m : Nat} {l : List (Nat × Nat)} (h : OkW E s bs) (hm : E.Mv s s' k m) (hl : l.length ≤ 12) (ho : E.ov s' = updO (E.ov s) x (nodeO true l)) : OkW E s' bs := by
  intro f hf
  obtain ⟨h1, ⟨l', h2, h3⟩, h4, h5⟩ := h f hf
  refine ⟨hm.ok _ h1, ?_, h4, fun p hp => ⟨hm.some (h5 p hp).1, hm.some (h5 p hp).2⟩⟩
  rw [ho]
  by_cases e : f.x = x
  · exact ⟨l, by rw [e, updO_self], hl⟩
  · exact ⟨l', by rw [updO_ne _ _ e]; exact h2, h3⟩
theorem with_ok {k : Nat} {f : Fr} (h : ∀ p ∈ f.l, (p.1 = 0 ∨ E.ok s p.1) ∧ (p.2 = 0 ∨ E.ok s p.2)) (hk : E.ok s k) : ∀ p ∈ (f.with k).l, (p.1 = 0 ∨ E.ok s p.1) ∧ (p.2 = 0 ∨ E.ok s p.2) := by
  intro p hp
  have hf : f.p ∈ f.l := by simp [Fr.l]
  simp only [Fr.l, Fr.with, List.mem_append, List.mem_cons] at hp
  rcases hp with hp | rfl | hp
  · exact h p (by simp only [Fr.l, List.mem_append]; exact .inl hp)
  · exact ⟨.inr hk, (h _ hf).2⟩
  · exact h p (by simp only [Fr.l, List.mem_append, List.mem_cons]; exact .inr (.inr hp))

theorem tfirst_c {bs : List Fr} {wp : Option Addr} {wc k : Nat} (hs : Sat (Way bs wp wc :: E.S s F) w) (hi : E.inv s) (t : Nat) (hk : E.ok s k) (hbl : bs.length ≤ 100) (hok : OkW E s bs) :
    Calls Tryz.prog 137 #[trv b t, .slice wp bs.length wc, .int .u64 (k : Int)] w fun e w' =>
      ∃ s', e = .returned (.tuple #[]) ∧ E.Mv s s' 0 0 ∧ E.ov s' = fixO (E.ov s) bs k ∧ Sat (E.S s' F) w' := by
  refine S_tree_tree_first_ok _ _ _ _ _ _ _ _ ?_
  unfold S_tree_tree_first
  refine NewC.ofRow hs fun d w1 h1 => ?_
  obtain ⟨qs, hqs, h2⟩ := way_open (Sat.p1 h1)
  rw [wrapI64 (n := ((bs.length : Nat) : Int) - 1) (by omega) (by omega)]
  have h2 : Sat (Own 152 3 wp bs.length wc (stepsV bs qs) :: LsH bs qs :: E.S s (Row d (trc b t) 73 :: F)) w1 :=
    ((((Sat.pull h2 2 rfl).pull 4 rfl).pull 4 rfl).pull 4 rfl).pull 4 rfl
  refine ⟨fun i w' => ∃ (P r : List Fr) (qp qr : List (Option Addr × Nat)) (s1 : E.σ), bs = P ++ r ∧ qs = qp ++ qr ∧ qp.length = P.length ∧ qr.length = r.length ∧ i = (r.length : Int) - 1 ∧ E.Mv s s1 0 0 ∧ OkW E s1 r ∧ fixO (E.ov s1) r k = fixO (E.ov s) bs k ∧
      Sat (Own 152 3 wp bs.length wc (stepsV bs qs) :: LsH r qr :: E.S s1 (Row d (trc b t) 73 :: F)) w', fun i _ => (i + 1).toNat,
    ⟨[], bs, [], qs, s, rfl, rfl, rfl, hqs, rfl, .refl hi, hok, rfl, h2⟩, ?_⟩
  rintro i w2 ⟨P, r, qp, qr, s1, hP, hq, hqp, hqr, rfl, m1, ok1, fx, h3⟩
  unfold S_tree_tree_first_l0
  have fin : ∀ s2 w3 {L : List HP}, E.Mv s1 s2 0 0 → E.ov s2 = fixO (E.ov s1) r k → Sat (E.S s2 (Row d (trc b t) 73 :: F)) w3 → ∃ s', (Ending.returned (.tuple #[])) = .returned (.tuple #[]) ∧ E.Mv s s' 0 0 ∧ E.ov s' = fixO (E.ov s) bs k ∧ Sat (E.S s' F) w3 := by
    intro s2 w3 _ a1 a2 a3
    exact ⟨s2, rfl, by simpa using m1.trans a1, by rw [a2, fx], (outS a3).drop⟩
  cases r with
  | nil => exact cond_f (by simp) (fin (L := []) s1 w2 (.refl m1.inv) rfl h3.drop.drop)
  | cons f r =>
    cases qr with
    | nil => simp at hqr
    | cons q qr =>
      have hqr' : qr.length = r.length := by simpa using hqr
      refine cond_t (by simp) ?_
      have ei : (((f :: r).length : Nat) : Int) - 1 = ((r.length : Nat) : Int) := by simp
      rw [ei]
      have hbl2 : r.length < bs.length := by rw [hP]; simp; omega
      obtain ⟨okx, ⟨l0, ol0, ll0⟩, lf, okl⟩ := ok1 f (by simp)
      obtain ⟨hcap, h4⟩ := lsH_cons (Sat.p1 h3)
      have hst : ∀ {j : Nat} {u : Value}, (stepV f q)[j]? = some u → (stepsV bs qs)[r.length * 3 + j]? = some u := fun hj => by rw [hP, hq]; exact stepsV_get hqp hqr' hj
      refine IdxC.ownAt h4 2 rfl hbl2 fun g hg => ?_
      refine LdI.at (n := (f.x : Int)) (Sat.ownAt h4 2 rfl hg (off := r.length * 3 + 0) (hst rfl)) ?_
      refine LdS.at (p := q.1) (l := f.l.length) (c := q.2) (Sat.ownAt h4 2 rfl hg (off := r.length * 3 + 1) (hst rfl)) ?_
      refine LdI.at (n := (f.A.length : Nat)) (Sat.ownAt h4 2 rfl hg (off := r.length * 3 + 2) (hst rfl)) ?_
      refine NewC.ofRow h4 fun d2 w3 h5 => ?_
      refine StC.of h5 0 rfl (off := 0) rfl rfl fun w4 h6 => StC.of h6 0 rfl (off := 1) rfl (add_mk _ _ _) fun w5 h7 => StC.of h7 0 rfl (off := 2) rfl (add_mk _ _ _) fun w6 h8 => ?_
      refine LdS.of h8 0 rfl (off := 1) rfl (add_mk _ _ _) (LdI.of h8 0 rfl (off := 2) rfl (add_mk _ _ _) ?_)
      have hfl : f.A.length < f.l.length := by rw [Fr.l_len]; omega
      have hne : f.l ≠ [] := fun e => by rw [e] at hfl; simp at hfl
      refine IdxC.ownAt h8 1 rfl hfl fun g2 hg2 => ?_
      refine LdI.at (n := (f.p.1 : Int)) (Sat.ownAt h8 1 rfl hg2 (off := f.A.length * 2) (pairsV_get0 f.get)) ?_
      by_cases hpk : f.p.1 = k
      · refine cond_t (by simp [hpk]) (fin (L := []) s1 w6 (.refl m1.inv) (by rw [fixO, if_pos hpk]) ?_)
        exact h8.drop.drop.drop.drop
      · refine cond_f (by simpa using fun e => hpk (by omega)) ?_
        refine LdS.of h8 0 rfl (off := 1) rfl (add_mk _ _ _) (LdI.of h8 0 rfl (off := 2) rfl (add_mk _ _ _) ?_)
        refine IdxC.ownAt h8 1 rfl hfl fun g3 hg3 => ?_
        refine StC.ownAt h8 1 rfl hg3 (off := f.A.length * 2) (v0 := .int .u64 (f.p.1 : Int)) (pairsV_get0 f.get) rfl fun w7 h9 => ?_
        simp only [List.set_cons_succ, List.set_cons_zero] at h9
        rw [pairsV_set0 k f.get, f.set_l k] at h9
        refine LdP.of h9 6 rfl (off := 0) rfl rfl (LdI.of h9 6 rfl (off := 1) rfl (add_mk _ _ _) (LdI.of h9 0 rfl (off := 0) rfl rfl (LdS.of h9 0 rfl (off := 1) rfl (add_mk _ _ _) ?_)))
        have h10 : Sat (E.S s1 (Row d2 [.int .u64 (f.x : Int), .slice q.1 f.l.length q.2, .int .i64 (f.A.length : Nat)] 152 :: Own 96 2 q.1 f.l.length q.2 (pairsV (f.with k).l) :: LsH r qr :: Own 152 3 wp bs.length wc (stepsV bs qs) :: Row d (trc b t) 73 :: F)) w7 :=
          (Sat.pull h9 5 rfl).pull 5 rfl
        have hrd : RdP (Row d2 [.int .u64 (f.x : Int), .slice q.1 f.l.length q.2, .int .i64 (f.A.length : Nat)] 152 :: Own 96 2 q.1 f.l.length q.2 (pairsV (f.with k).l) :: LsH r qr :: Own 152 3 wp bs.length wc (stepsV bs qs) :: Row d (trc b t) 73 :: F) q.1 (f.with k).l :=
          ⟨fun w' h' => h'.reads 1 rfl, fun _ => ⟨_, hg2⟩⟩
        refine (write_c h10 m1.inv t (x := f.x) (tag := 22) (ws := nodeW l0) ol0 (nodeW_len ll0) okx (by rw [f.with_len]; exact lf) (with_ok okl (m1.ok _ hk)) (f.with_len k).symm hrd).mono ?_
        rintro e w8 ⟨s2, rfl, m2, o2, h11⟩
        have o2 : E.ov s2 = updO (E.ov s1) f.x (nodeO true (f.with k).l) := o2
        refine ⟨rfl, ?_⟩
        refine LdI.of h11 2 rfl (off := 2) rfl (add_mk _ _ _) ?_
        by_cases hA : f.A = []
        · refine cond_f (by simp [hA]) ?_
          refine ⟨⟨P ++ [f], r, qp ++ [q], qr, s2, by rw [hP]; simp, by rw [hq]; simp, by simp [hqp], hqr', by rw [wrapI64 (by omega) (by omega)], by simpa using m1.trans m2, ?_, ?_, ?_⟩, ?_⟩
          · exact okw_updO (fun f' hf' => ok1 f' (by simp [hf'])) m2 (by rw [f.with_len]; exact lf) o2
          · rw [← fx, fixO, if_neg hpk, if_pos hA, o2]
          · exact Sat.pull (Sat.pull (outS (outS h11).drop).drop 2 rfl) 3 rfl
          · simp only [wrapI64 (n := (r.length : Int) - 1) (by omega) (by omega)]; omega
        · have hA0 := List.length_pos_iff.2 hA
          refine cond_t (by simp; omega) (fin (L := []) s2 w8 m2 ?_ ?_)
          · rw [o2, fixO, if_neg hpk, if_neg hA]
          · exact (outS (outS (outS (outS h11).drop).drop).drop).drop
end
end Go.Proofs.YtpicofkhioalkaaGreat
