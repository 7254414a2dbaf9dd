
/- The way down a tree: what it is in memory, and what down comes to. -/
import Derived.Test.YtpicofkhioalkaaGreatTs
set_option maxRecDepth 100000
namespace Go.Proofs.YtpicofkhioalkaaGreat
open Go Go.Lw Go.Wd Go.Am Go.Tb Go.Hm Go.Kd Go.Td

def stepV (f : Fr) (q : Option Addr × Nat) : List Value := [.int .u64 (f.x : Int), .slice q.1 f.l.length q.2, .int .i64 (f.A.length : Int)]
def stepsV : List Fr → List (Option Addr × Nat) → List Value
  | f :: r, q :: qs => stepsV r qs ++ stepV f q
  | _, _ => []
def LsH : List Fr → List (Option Addr × Nat) → HP
  | f :: r, q :: qs => star (HAnd (f.l.length + 1 ≤ q.2) (Own 96 2 q.1 f.l.length q.2 (pairsV f.l))) (LsH r qs)
  | _, _ => hemp
/-- a way in memory. -/
def Way (bs : List Fr) (p : Option Addr) (c : Nat) : HP := HEx fun qs : List (Option Addr × Nat) => HAnd (qs.length = bs.length) (star (Own 152 3 p bs.length c (stepsV bs qs)) (LsH bs qs))
theorem _root_.Go.Lw.Sat.emp {L : List HP} {w : World} (h : Sat L w) : Sat (hemp :: L) w := by
  obtain ⟨h0, h1, h2⟩ := h
  exact ⟨h0, h1, ⟨fun _ => none, h0, fun _ => .inl rfl, fun _ => by simp, fun _ => rfl, h2⟩⟩
theorem way_nil {L : List HP} {w : World} (h : Sat L w) : Sat (Way [] none 0 :: L) w :=
  Sat.mkEx [] (Sat.mkPure rfl (Sat.join ((h.emp).ownNil _ _)))
theorem way_open {bs : List Fr} {p : Option Addr} {c : Nat} {L : List HP} {w : World} (h : Sat (Way bs p c :: L) w) : ∃ qs : List (Option Addr × Nat), qs.length = bs.length ∧ Sat (Own 152 3 p bs.length c (stepsV bs qs) :: LsH bs qs :: L) w := by
  obtain ⟨qs, h⟩ := h.ex
  obtain ⟨h1, h⟩ := h.pureOf
  exact ⟨qs, h1, h.split⟩
theorem way_shut {bs : List Fr} {p : Option Addr} {c : Nat} {L : List HP} {w : World} {qs : List (Option Addr × Nat)} (hq : qs.length = bs.length) (h : Sat (Own 152 3 p bs.length c (stepsV bs qs) :: LsH bs qs :: L) w) : Sat (Way bs p c :: L) w :=
  Sat.mkEx qs (Sat.mkPure hq h.join)

/-- what a choice function does. -/
def Chooses (H : Hp) (v : Value) (b : Nat) (f : Nat) (cs : Array Value) (F : List HP) (P : List Kid → Kid → List Kid → Prop) : Prop :=
  ∀ (L : List Kid) (A : HP) (w : World) (p : Option Addr) (c : Nat), L ≠ [] → L.length ≤ 12 → Srt (esOf L) → (∀ a ∈ L, KeyOK H.ov a) → RdP (A :: F) p (L.map Kid.pr) → Sat (HeapH H v b :: A :: F) w →
    FnQ Tryz.prog f ((#[] ++ #[.slice p L.length c]) ++ cs) w fun E w' => ∃ X a Y, L = X ++ a :: Y ∧ P X a Y ∧ E (.int .i64 (X.length : Nat)) ∧ Sat (HeapH H v b :: A :: F) w'

section
variable {H : Hp} {v : Value} {b : Nat} {F : List HP} {w : World}
theorem down_c (hs : Sat (HeapH H v b :: F) w) {t d n : Nat} {c : Kid} (ho : H.ov t = some (treeO c.x n (d + 1))) (hd : d + 1 ≤ 12) (hx0 : c.x ≠ 0) (hrep : Rep H.ov (d + 1) (if d = 0 then 1 else 2) c) (hsrt : Srt c.es)
    {f : Nat} {cs : Array Value} {P : List Kid → Kid → List Kid → Prop} {I : List Ent → Kid → List Ent → Prop} (hch : Chooses H v b f cs F P)
    (hP : ∀ le k ri X a Y, I le k ri → k.es = esOf (X ++ a :: Y) → P X a Y → I (le ++ esOf X) a (esOf Y ++ ri)) (hI : I [] c []) :
    Calls Tryz.prog 53 #[trv b t, .func (.func f) #[] cs] w fun e w' => ∃ (bs : List Fr) (k : Kid) (L : List Kid) (wp lp : Option Addr) (wc lc : Nat),
      e = .returned (.tuple #[.slice wp bs.length wc, .int .u64 (k.x : Int), .slice lp L.length lc]) ∧ Dn H.ov c (if d = 0 then 1 else 2) I bs k 1 ∧ bs.length = d ∧
      H.ov k.x = some (nodeO false (L.map Kid.pr)) ∧ k.es = esOf L ∧ k.hs = k.x :: hsOf L ∧ (if bs = [] then 1 else 6) ≤ L.length ∧ L.length ≤ 12 ∧ (∀ a ∈ L, Rep H.ov 0 6 a) ∧ L.length + 1 ≤ lc ∧
      Sat (Own 96 2 lp L.length lc (pairsV (L.map Kid.pr)) :: Way bs wp wc :: HeapH H v b :: F) w' := by
  refine S_tree_tree_down_ok _ _ _ _ _ _ ?_
  unfold S_tree_tree_down
  refine NewC.ofRow hs fun r w1 h1 => ?_
  refine LdP.of h1 0 rfl (off := 0) rfl rfl (LdI.of h1 0 rfl (off := 1) rfl (add_mk _ _ _) ?_)
  refine (ttop_c (h1.pull 1 rfl) ho).mono ?_
  rintro e w2 ⟨rfl, h2⟩
  refine ⟨_, rfl, cond_f (by simpa using fun h => hx0 (by omega)) ?_⟩
  refine LdP.of h2 1 rfl (off := 0) rfl rfl (LdI.of h2 1 rfl (off := 1) rfl (add_mk _ _ _) ?_)
  refine (tdepth_c h2 ho hd).mono ?_
  rintro e w3 ⟨rfl, h3⟩
  refine ⟨_, rfl, ?_⟩
  refine ⟨fun wp wl wc x j w' => ∃ (bs : List Fr) (k : Kid), wl = bs.length ∧ x = (k.x : Int) ∧ j = (bs.length : Nat) ∧ bs.length ≤ d ∧ Dn H.ov c (if d = 0 then 1 else 2) I bs k (d + 1 - bs.length) ∧
      Sat (Way bs wp wc :: HeapH H v b :: Row r (trc b t) 73 :: F) w', fun _ _ _ _ j _ => ((d : Int) - j).toNat,
    ⟨[], c, rfl, rfl, rfl, by simp, Dn.start hrep hI, way_nil h3⟩, ?_⟩
  rintro wp wl wc x j w4 ⟨bs, k, rfl, rfl, rfl, hbd, hD, h4⟩
  unfold S_tree_tree_down_l0
  rw [wrapI64 (n := ((d + 1 : Nat) : Int) - 1) (by omega) (by omega)]
  have hD0 := hD
  by_cases hlt : bs.length < d
  · refine cond_t (by simp; omega) ?_
    obtain ⟨e, he⟩ : ∃ e, d + 1 - bs.length = e + 2 := ⟨d - 1 - bs.length, by omega⟩
    rw [he] at hD
    have hd0 : d ≠ 0 := by omega
    rw [if_neg hd0] at hD
    obtain ⟨L, g1, g2, g3, g4, g5, g6⟩ := hD.rep
    have g1 : H.ov k.x = some (nodeO true (L.map Kid.pr)) := by rw [g1]; simp
    have h4' := Sat.p1 h4
    refine LdP.of h4 2 rfl (off := 0) rfl rfl (LdI.of h4 2 rfl (off := 1) rfl (add_mk _ _ _) ?_)
    refine (pairs_c h4' t (by simpa using g5) g1).mono ?_
    rintro e1 w5 ⟨lp, lc, rfl, hlc, h5⟩
    have hL : L ≠ [] := by
      intro e0; rw [e0] at g4
      split at g4 <;> simp at g4
    refine ⟨_, _, _, rfl, ?_⟩
    refine (must_c 4 (by simpa using List.length_pos_iff.2 hL)).mono ?_
    rintro e1 w6 ⟨rfl, rfl⟩
    refine ⟨rfl, ?_⟩
    rw [List.length_map] at hlc h5 ⊢
    have hrr := own_ne (l := L.map Kid.pr) (k := 0) h5 (by rw [List.length_map]; rfl)
    have h6 : Sat (HeapH H v b :: star (Own 96 2 lp L.length lc (pairsV (L.map Kid.pr))) (star (Way bs wp wc) (Row r (trc b t) 73)) :: F) w6 :=
      Sat.p1 (Sat.join (Sat.pull (Sat.join ((Sat.pull h5 3 rfl).pull 3 rfl)) 1 rfl))
    have hkey : ∀ a ∈ L, KeyOK H.ov a := fun a ha => (g6 a ha).keyOK (by omega)
    have hsL : Srt (esOf L) := by
      rw [hD.es, g2] at hsrt
      exact (srt_append.1 (srt_append.1 hsrt).1).2.1
    refine FnQ.mono (hch L _ w6 lp lc hL g5 hsL hkey ⟨fun w' hw' => ?_, hrr⟩ h6) ?_
    · exact (Sat.split hw').reads 0 rfl
    rintro E w7 ⟨X, a, Y, rfl, hPx, hE, h7⟩
    refine ⟨_, hE, ?_⟩
    obtain ⟨qs, hqs, h8⟩ := way_open (Sat.split (Sat.pull (Sat.split (Sat.p1 h7)) 1 rfl))
    refine RunS.one eok_step h8 0 rfl rfl (by rfl) (by omega) (by simp only [maxLen]; omega) fun wp' wc' w8 h9 => ?_
    have hxl : X.length < (X ++ a :: Y).length := by simp
    refine IdxC.ownAt h9 3 rfl hxl fun g hp => ?_
    have hga : ((X ++ a :: Y).map Kid.pr)[X.length]? = some a.pr := by simp
    refine LdI.at (Sat.ownAt h9 3 rfl hp (off := X.length * 2 + 1) (pairsV_get1 hga)) ?_
    refine ⟨⟨⟨k.x, X, a.pr, Y⟩ :: bs, a, rfl, rfl, by rw [wrapI64 (by omega) (by omega)]; simp, by simp only [List.length_cons]; omega, ?_, ?_⟩, ?_⟩
    · rw [if_neg hd0]
      have e2 : d + 1 - ((⟨k.x, X, a.pr, Y⟩ : Fr) :: bs).length = e + 1 := by simp only [List.length_cons]; omega
      rw [e2]
      exact hD.step (Nat.le_refl 2) hP g1 g2 g3 g4 g5 g6 hPx
    · have hfl : (⟨k.x, X, a.pr, Y⟩ : Fr).l = (X ++ a :: Y).map Kid.pr := by simp [Fr.l]
      refine way_shut (qs := (lp, lc) :: qs) (by simp [hqs]) ?_
      have h10 : Sat (Own 96 2 lp (X ++ a :: Y).length lc (pairsV ((X ++ a :: Y).map Kid.pr)) :: LsH bs qs :: Own 152 3 wp' (bs.length + 1) wc' (stepsV bs qs ++ [.int .u64 (k.x : Int), .slice lp (X ++ a :: Y).length lc, .int .i64 (X.length : Nat)]) :: HeapH H v b :: Row r (trc b t) 73 :: F) w8 :=
        ((((Sat.pull h9 2 rfl).pull 4 rfl).pull 2 rfl).pull 3 rfl).pull 4 rfl
      show Sat (Own 152 3 wp' (bs.length + 1) wc' (stepsV bs qs ++ stepV ⟨k.x, X, a.pr, Y⟩ (lp, lc)) :: star (HAnd (_ ≤ lc) (Own 96 2 lp _ lc (pairsV _))) (LsH bs qs) :: _) w8
      unfold stepV
      rw [hfl, List.length_map]
      exact Sat.p1 (Sat.join (Sat.mkPure hlc h10))
    · simp only [wrapI64 (n := ((bs.length : Nat) : Int) + 1) (by omega) (by omega)]; omega
  · have hbl : bs.length = d := by omega
    refine cond_f (by simp; omega) ?_
    have e1 : d + 1 - bs.length = 1 := by omega
    rw [e1] at hD
    obtain ⟨L, g1, g2, g3, g4, g5, g6⟩ := hD.rep
    have g1 : H.ov k.x = some (nodeO false (L.map Kid.pr)) := by rw [g1]; simp
    refine LdP.of h4 2 rfl (off := 0) rfl rfl (LdI.of h4 2 rfl (off := 1) rfl (add_mk _ _ _) ?_)
    refine (pairs_c (Sat.p1 h4) t (by simpa using g5) g1).mono ?_
    rintro e1 w5 ⟨lp, lc, rfl, hlc, h5⟩
    rw [List.length_map] at hlc h5 ⊢
    refine ⟨_, _, _, rfl, bs, k, L, wp, lp, wc, lc, rfl, hD, hbl, g1, g2, g3, ?_, g5, g6, hlc, ?_⟩
    · cases bs with
      | nil => simp only [List.length_nil] at hbl; subst hbl; simpa using g4
      | cons _ _ => simpa using g4
    · exact (h5.pull 3 rfl).drop |> fun g => (g.p2).p1 |> fun g => by exact g
end
end Go.Proofs.YtpicofkhioalkaaGreat
