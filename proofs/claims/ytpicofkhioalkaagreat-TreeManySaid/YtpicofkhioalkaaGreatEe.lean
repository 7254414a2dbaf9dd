
/- What Last comes to. -/
import Derived.Test.YtpicofkhioalkaaGreatEc
set_option maxRecDepth 100000
namespace Go.Proofs.YtpicofkhioalkaaGreat
open Go Go.Lw Go.Wd Go.Am Go.Tb Go.Hm Go.Kd Go.Td
def InLast (key : K) (le : List Ent) (k : Kid) (ri : List Ent) : Prop := if key = [] then ri = [] else InKey key le k ri
theorem inLast_step {key : K} : ∀ le k ri X a Y, InLast key le k ri → k.es = esOf (X ++ a :: Y) → ByLast key X a Y → InLast key (le ++ esOf X) a (esOf Y ++ ri) := by
  intro le k ri X a Y h1 h2 h3
  unfold InLast ByLast at *
  by_cases hk : key = []
  · rw [if_pos hk] at h1 h3 ⊢
    rw [h3.1, h1]; rfl
  · rw [if_neg hk] at h1 h3 ⊢
    exact inKey_step le k ri X a Y h1 h2 h3
section
variable {H : Hp} {v : Value} {b : Nat} {F : List HP} {w : World}
set_option maxHeartbeats 1000000 in
theorem tlast_c (hs : Sat (HeapH H v b :: F) w) {t : Nat} {es : List Ent} {us : List Nat} (hT : Tree H.ov t es us) (hn : es.length ≤ 1000000) {key : K} (hkl : key.length ≤ 16384) {kp : Option Addr} {kl kc : Nat} (hl : kl = key.length) (hk : RdB F kp key) :
    Calls Tryz.prog 14 #[.pointer (some ⟨b, 0, none⟩), .int .u64 (t : Int), .slice kp kl kc] w (LastP H v b F (kv es) key) := by
  obtain ⟨D, x, hD, ho⟩ := depth_le hT hn
  refine S_tree_Last_ok _ _ _ _ _ _ _ ?_
  unfold S_tree_Last
  refine NewC.ofRow hs fun b0 w1 h1 => NewC.ofRow h1 fun b1 w2 h2 => NewC.ofRow h2 fun b2 w3 h3 => NewC.ofRow h3 fun b3 w4 h4 => ?_
  refine (treeof_ok (h4.pull 4 rfl) _ _ _ (ofE_tree ho (by omega))).mono ?_
  rintro e w3 ⟨rfl, h3⟩
  refine ⟨_, _, _, rfl, ?_⟩
  refine NewC.ofRow h3 fun b4 w4 h4 => ?_
  refine StC.of h4 0 rfl (off := 0) rfl rfl fun w5 h5 => StC.of h5 0 rfl (off := 1) rfl (add_mk _ _ _) fun w6 h6 => ?_
  refine StC.of h6 2 rfl (off := 0) rfl rfl fun w7 h7 => ?_
  refine LdI.of h7 2 rfl (off := 0) rfl rfl (cond_f rfl ?_)
  have hk7 : RdB (Row b4 (trc b t) 73 :: HeapH H v b :: (r4 b0 b1 b2 b3 ++ F)) kp key := hk.tail.tail.tail.tail.tail.tail
  refine hk7.run h7 hl ?_
  refine NewC.ofRow h7 fun b6 w8 h8 => ?_
  refine StC.of h8 0 rfl (off := 0) rfl rfl fun w9 h9 => ?_
  refine LdP.of h9 1 rfl (off := 0) rfl rfl (LdI.of h9 1 rfl (off := 1) rfl (add_mk _ _ _) ?_)
  have g0 : Sat (HeapH H v b :: Row b4 (trc b t) 73 :: Row b6 [.string (str key)] 9 :: (r4 b0 b1 b2 b3 ++ F)) w9 := Sat.pull (Sat.pull h9 1 rfl) 2 rfl
  have hz := ov_zero (sat_wf hs)
  rcases hT.at_ with ⟨e1, e2, e3⟩ | ⟨d, c, e1, e2, e3, e4⟩
  · refine (down0_c g0 e3 _ _).mono ?_
    rintro e w10 ⟨rfl, h10⟩
    refine ⟨_, _, _, _, _, _, _, rfl, cond_t rfl ?_⟩
    have h11 := (h10.del 1 rfl).del 1 rfl
    refine ans_none (G := HeapH H v b :: F) (Sat.pull (Sat.pull (Sat.pull (Sat.pull h11 4 rfl) 4 rfl) 4 rfl) 4 rfl) fun w' h' => ?_
    exact ⟨[], [], by rw [e1]; rfl, fun _ => rfl, fun _ => ⟨by simp, by simp⟩, rfl, h'⟩
  · have hdD : D = d + 1 := by
      rw [ho] at e1
      simp only [treeO, Option.some.injEq, Ov.mk.injEq, List.cons.injEq] at e1
      exact e1.2.2.2.2.1
    refine (down_c g0 e1 (by omega) (xne hz e2) e2 (by rw [← e3]; exact hT.srt) choose_last inLast_step (by unfold InLast; split; rfl; exact ⟨by simp, by simp, .inl rfl⟩)).mono ?_
    rintro e w10 ⟨bs, k, L, wp, lp, wc, lc, rfl, hDn, hbl, ho1, hkes, hkhs, hmin, hl12, hreps, hcap, h10⟩
    refine ⟨_, _, _, _, _, _, _, rfl, ?_⟩
    have hLf := leafR_of hT.srt e3 hDn hkes hmin hreps
    have hkx : k.x ≠ 0 := fun e0 => by rw [e0, hz] at ho1; cases ho1
    refine cond_f (by simpa using fun h => hkx (by omega)) ?_
    have h11 := Sat.pull h10 2 rfl
    have hlp : L.map Kid.pr ≠ [] → ∃ a, lp = some a := fun _ => by obtain ⟨g, hg⟩ := h10.own_some 0 rfl (List.length_pos_iff.2 hLf.ne); exact ⟨_, hg⟩
    have hI := hDn.i
    have hL0 := List.length_pos_iff.2 hLf.ne
    -- the entry ahead of a place in the leaf
    have tell : ∀ (i : Nat) (A C : KV) w', 0 < i → i ≤ L.length → A = kv (lefts bs ++ esOf (L.take i)) → kv es = A ++ C → (key = [] → C = []) → (key ≠ [] → (∀ a ∈ A, lt a.1 key = true) ∧ (∀ c ∈ C, lt c.1 key = false)) →
        Sat (Row b4 (trc b t) 73 :: Own 96 2 lp L.length lc (pairsV (L.map Kid.pr)) :: HeapH H v b :: (r4 b0 b1 b2 b3 ++ F)) w' → S_tree_Last_j0 (LastP H v b F (kv es) key) b0 b1 b2 b3 b4 lp L.length (i : Int) w' := by
      intro i A C w' hi0 hil hA hAC hc1 hc2 g
      unfold S_tree_Last_j0
      refine cond_f (by simp; omega) ?_
      obtain ⟨ci, hci⟩ : ∃ ci, L[i - 1]? = some ci := ⟨_, List.getElem?_eq_getElem (by omega)⟩
      have htk : L.take i = L.take (i - 1) ++ [ci] := by
        have : i = i - 1 + 1 := by omega
        rw [this, List.take_add_one, hci]; rfl
      obtain ⟨e0, q1, q2, q3, q4, q5⟩ := last_esOf (rest := lefts bs) htk (fun a ha => hreps a (List.mem_of_mem_take ha))
      rw [show IntKind.wrap .i64 ((i : Int) - 1) = ((i - 1 : Nat) : Int) by rw [wrapI64 (by omega) (by omega)]; omega]
      refine ans_some (i := i - 1) (F := F) g hci rfl q2 q3 q4 q5 fun g cc w' h' => ?_
      refine ⟨A, C, hAC, hc1, hc2, ?_⟩
      rw [hA, q1]
      exact ⟨g, cc, rfl, q5, h'⟩
    intro k0 hk0
    by_cases hkn : key = []
    · refine LdStr.of h11 4 rfl (off := 0) rfl rfl ?_
      rw [str_nil]
      refine cond_f (by simp [hkn]) (hk0 _ _ ?_)
      unfold S_tree_Last_j1
      intro k1 hk1
      refine cond_f (by simpa using hLf.ne) (hk1 _ _ _ _ _ ?_)
      have hr : rights bs = [] := by unfold InLast at hI; rw [if_pos hkn] at hI; exact hI
      refine tell L.length (kv es) [] w10 hL0 (Nat.le_refl _) ?_ (by simp) (fun _ => rfl) (fun h => absurd hkn h) ?_
      · rw [List.take_length, hLf.eq, hr, List.append_nil]
      · exact Sat.pull (Sat.pull (((h11.del 2 rfl).del 3 rfl)) 1 rfl) 2 rfl
    · refine LdStr.of h11 4 rfl (off := 0) rfl rfl ?_
      rw [str_nil]
      refine cond_t (by simp [hkn]) ?_
      refine LdP.of h11 3 rfl (off := 0) rfl rfl (LdI.of h11 3 rfl (off := 1) rfl (add_mk _ _ _) (LdStr.of h11 4 rfl (off := 0) rfl rfl ?_))
      refine (tat_c (L := L) h11 (srt_kids hLf.srt fun a ha => (hreps a ha).ne (by omega)) (fun a ha => (hreps a ha).keyOK (by omega)) rfl (by omega) (RdP.own (k := 0) rfl (by simp) hlp)).mono ?_
      rintro e w12 ⟨i, hAt, rfl, h12⟩
      refine ⟨_, _, rfl, hk0 _ _ ?_⟩
      have hI : InKey key (lefts bs) k (rights bs) := by unfold InLast at hI; rw [if_neg hkn] at hI; exact hI
      obtain ⟨f1, f2, f3, f4, f5⟩ := found_cut hLf hI hAt
      have hkv : kv es = kv (lefts bs ++ esOf (L.take i)) ++ kv (esOf (L.drop i) ++ rights bs) := by rw [← kv_append, ← f3]
      unfold S_tree_Last_j1
      intro k1 hk1
      by_cases hi0 : i = 0
      · subst hi0
        refine cond_t rfl ?_
        have h13 : Sat (Way bs wp wc :: HeapH H v b :: Row b4 (trc b t) 73 :: (r4 b0 b1 b2 b3 ++ F)) w12 := Sat.pull ((h12.del 1 rfl).del 3 rfl) 1 rfl
        refine LdP.of h13 2 rfl (off := 0) rfl rfl (LdI.of h13 2 rfl (off := 1) rfl (add_mk _ _ _) ?_)
        refine (beside_c (fw := false) h13 t rfl hLf.zip (by omega)).mono ?_
        have f1 : ∀ a ∈ kv (lefts bs), lt a.1 key = true := by simpa using f1
        have hkv : kv es = kv (lefts bs) ++ kv (esOf (L.drop 0) ++ rights bs) := by simpa using hkv
        rintro e w14 (⟨hn0, rfl, h14⟩ | ⟨L', lp', lc', hne', hl', hedge, hr', rfl, h14⟩)
        · refine ⟨_, _, _, rfl, hk1 _ _ _ _ _ ?_⟩
          unfold S_tree_Last_j0
          refine cond_t rfl ?_
          have h15 := h14.del 1 rfl
          refine ans_none (G := HeapH H v b :: F) (Sat.pull (Sat.pull (Sat.pull (Sat.pull h15 4 rfl) 4 rfl) 4 rfl) 4 rfl) fun w' h' => ?_
          have hn0 : lefts bs = [] := hn0
          rw [hn0] at hkv
          exact ⟨[], _, hkv, fun h => absurd h hkn, fun _ => ⟨by simp, f2⟩, rfl, h'⟩
        · refine ⟨_, _, _, rfl, hk1 _ _ _ _ _ ?_⟩
          have hl0 := List.length_pos_iff.2 hne'
          obtain ⟨r', c', hL'⟩ : ∃ r c, L' = r ++ [c] := ⟨L'.dropLast, L'.getLast hne', (List.dropLast_concat_getLast hne').symm⟩
          obtain ⟨rest, hrest⟩ := hedge
          have hrest : lefts bs = rest ++ esOf L' := hrest
          obtain ⟨e0, q1, q2, q3, q4, q5⟩ := last_esOf (rest := rest) hL' hr'
          unfold S_tree_Last_j0
          refine cond_f (by simp; omega) ?_
          rw [show IntKind.wrap .i64 (((L'.length : Nat) : Int) - 1) = ((r'.length : Nat) : Int) by rw [wrapI64 (by omega) (by omega), hL']; simp]
          refine ans_some (i := r'.length) (F := F) (Sat.pull h14 2 rfl) (by rw [hL']; simp) rfl q2 q3 q4 q5 fun g cc w' h' => ?_
          refine ⟨_, _, hkv, fun h => absurd h hkn, fun _ => ⟨f1, f2⟩, ?_⟩
          rw [hrest, q1]
          exact ⟨g, cc, rfl, q5, h'⟩
      · refine cond_f (by simp; omega) (hk1 _ _ _ _ _ ?_)
        exact tell i _ _ w12 (by omega) hAt.1 rfl hkv (fun h => absurd h hkn) (fun _ => ⟨f1, f2⟩) (Sat.pull (Sat.pull (((h12.del 2 rfl).del 3 rfl)) 1 rfl) 2 rfl)
end
end Go.Proofs.YtpicofkhioalkaaGreat
