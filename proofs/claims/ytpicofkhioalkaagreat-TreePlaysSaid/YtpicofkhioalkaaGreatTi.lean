
/- What slices.Insert, slices.Delete and slices.Clone come to over pairs that are owned. -/
import Derived.Test.YtpicofkhioalkaaGreatTs
import Derived.Test.YtpicofkhioalkaaGreatDl
import Derived.Lib.Overlaps
set_option maxRecDepth 100000
namespace Go.Lw
theorem RunI.copyN {P : Program} {L : List HP} {w : World} {dT sT e ty g o dl dc sl sc s : Nat} {a : Addr} {cs news : List Value} {K : Int -> World -> Prop} (hu : P.underlying dT = some (.slice e)) (h1 : (P.info? e).map (·.size) = some s) (hs : Sat L w)
  (i : Nat) (hi : L[i]? = some (Row g cs e)) (hn : Reads w (some a) news) (hl : news.length = min sl dl * s) (hfit : o + news.length <= cs.length) (hone : ∀ v ∈ news, v.oneCell' = true)
  (h : ∀ w', Sat (L.set i (Row g (cs.take o ++ news ++ cs.drop (o + news.length)) e)) w' -> K (min sl dl : Nat) w') :
  RunI P .i64 (Builtin.copy_ #[dT, sT] ty #[.slice (some ⟨g, o, none⟩) dl dc, .slice (some a) sl sc]) w K := by
 have hst := run_storeCells_at P g o e news 0 cs.toArray w (hs.blk i hi) (by simpa using hfit) hone
 refine ⟨_, _, ?_, h _ (hs.setRow i hi)⟩
 cases hq : P.info? e with
 | none => simp [hq] at h1
 | some t =>
  have ht : t.size = s := by simpa [hq] using h1
  have hf := run_firstCells_some (P := P) w s (Nat.min sl dl) a sl sc news hl (fun j v hj => hn a rfl j v hj)
  simp [Builtin.copy_, run_underlying hu, Builtin.lenOf, sizeOf, typeInfo, hq, ht, hf, hst, goInt]
theorem Sat.ne {a b : Nat} {cs ds : List Value} {S T : TypeId} {L : List HP} {w : World} (h : Sat (Row a cs S :: Row b ds T :: L) w) : a ≠ b := by
 rintro rfl
 obtain ⟨h0, _, h1, h2, hd, _, hA, h3, h4, hd2, ho2, hB, _⟩ := h
 have ha := hA a
 have hb := hB a
 rw [if_pos rfl] at ha hb
 have hc := ho2 a
 rw [hb] at hc
 rcases hd a with h | h
 ·rw [ha] at h; cases h
 ·rw [h] at hc; cases hc
end Go.Lw
namespace Go.Proofs.YtpicofkhioalkaaGreat
open Go Go.Lw Go.Wd Go.Am Go.Tb Go.Hm Go.Kd Go.Td
theorem pairsV_one (l : List (Nat × Nat)) : ∀ u ∈ pairsV l, u.oneCell' = true := by
 intro u hu
 simp only [pairsV, List.mem_flatMap, pairV] at hu
 obtain ⟨p, _, h⟩ := hu
 simp only [List.mem_cons, List.not_mem_nil, or_false] at h
 rcases h with rfl | rfl <;> rfl
theorem pairsV_take (l : List (Nat × Nat)) (i : Nat) : (pairsV l).take (i * 2) = pairsV (l.take i) := by
 induction l generalizing i with
 | nil => simp
 | cons p l ih =>
  cases i with
  | zero => simp
  | succ i =>
   have : (i + 1) * 2 = i * 2 + 1 + 1 := by omega
   rw [this, pairsV_cons, List.take_succ_cons, List.take_succ_cons, ih]; rfl
theorem pairsV_drop (l : List (Nat × Nat)) (i : Nat) : (pairsV l).drop (i * 2) = pairsV (l.drop i) := by
 induction l generalizing i with
 | nil => simp
 | cons p l ih =>
  cases i with
  | zero => simp
  | succ i =>
   have : (i + 1) * 2 = i * 2 + 1 + 1 := by omega
   rw [this, pairsV_cons, List.drop_succ_cons, List.drop_succ_cons, ih]; rfl
theorem run_over (a b : Addr) (la ca lb cb : Nat) (w : World) (h : (Extern.SlicesOverlaps.overlaps #[86, 86] #[4] #[.slice (some a) la ca, .slice (some b) lb cb]).run Tryz.prog w = .ok (.bool false) w) :
  (callFunc 140 #[.slice (some a) la ca, .slice (some b) lb cb]).run Tryz.prog w = .ok (.value (.bool false)) w := by
 have e : (callFunc 140 #[.slice (some a) la ca, .slice (some b) lb cb]).run Tryz.prog w = ((Extern.SlicesOverlaps.overlaps #[86, 86] #[4] #[.slice (some a) la ca, .slice (some b) lb cb]) >>= fun v => pure (.value v)).run Tryz.prog w := by kernel_rfl
 rw [e, Sem.run_bind, h]; rfl
theorem insert_c {F : List HP} {w : World} {l : List (Nat × Nat)} {q : Nat × Nat} {p : Option Addr} {c i bq : Nat} (hs : Sat (Own 96 2 p l.length c (pairsV l) :: Row bq (pairV q) 96 :: F) w)
  (hc : l.length + 1 <= c) (hi : i <= l.length) (hl : l.length <= 1000) {n : Nat} {j : Int} (hn : n = l.length) (hj : j = i) :
  Calls Tryz.prog 102 #[.slice p n c, .int .i64 j, .slice (some ⟨bq, 0, none⟩) 1 1] w fun e w' =>
   ∃ p' c', e = .returned (.slice p' (l.length + 1) c') /\ Sat (Own 96 2 p' (l.length + 1) c' (pairsV (l.take i ++ q :: l.drop i)) :: F) w' := by
 subst hn; subst hj
 refine S_slices_Insert_tree_pair_tree_pair_ok _ _ _ _ _ _ _ _ _ ?_
 unfold S_slices_Insert_tree_pair_tree_pair
 have hrq : Reads w (some ⟨bq, 0, none⟩) (pairV q) := by
  intro a ha k v hk
  cases ha
  rw [add_mk, Nat.zero_add]
  exact hs.cell 1 rfl hk
 have hq1 : ∀ u ∈ pairV q, u.oneCell' = true := fun u hu => pairsV_one [q] u (by simpa [pairsV] using hu)
 obtain ⟨hol, ⟨h0, h1, h2, _⟩ | ⟨g, rest, rfl, hlc, hcm, hcl, hr⟩⟩ := hs.own 0 rfl
 ·omega
 have hxl := pairsV_len l
 refine SlC.of i l.length c rfl rfl rfl hi hlc (Nat.le_refl _) ?_
 refine cond_f rfl ?_
 by_cases hin : i = l.length
 ·subst hin
  refine cond_t (by simp) ?_
  refine RunS.own eok_pair hs 0 rfl (news := pairV q) hrq (by rfl) hq1 (by omega) (by simp only [maxLen]; omega) fun p' c' w1 h3 => ?_
  refine ⟨p', c', rfl, ?_⟩
  rw [List.take_of_length_le (Nat.le_refl _), List.drop_eq_nil_of_le (Nat.le_refl _), pairsV_append]
  exact (Sat.p1 h3).drop
 ·refine cond_f (by simpa using fun h => hin (by omega)) (cond_f (by rw [wrapI64 (by omega) (by omega)]; simp; omega) ?_)
  refine SlC.of 0 (l.length + 1) c rfl (by rw [wrapI64 (by omega) (by omega)]; omega) rfl (by omega) hc (Nat.le_refl _) ?_
  simp only [slAddr_zero, Nat.sub_zero]
  refine SlC.of (i + 1) (l.length + 1) c (by rw [wrapI64 (by omega) (by omega)]; omega) rfl rfl (by omega) hc (Nat.le_refl _) ?_
  have hsl : ∀ k, k < c -> slAddr (some ⟨g, 0, none⟩) c k 2 = some ⟨g, k * 2, none⟩ := by
   intro k hk
   unfold slAddr
   rw [if_neg (by omega)]
   simp [add_mk]
  rw [hsl (i + 1) (by omega)]
  have hne : bq ≠ g := fun e => (Sat.ne hr) e.symm
  have hbg : w.heap[g]? = some (.cells (pairsV l ++ rest).toArray 96 (0, 0)) := hr.blk 0 rfl
  have hbb : w.heap[bq]? = some (.cells (pairV q).toArray 96 (0, 0)) := hr.blk 1 rfl
  have hlen : (pairsV l ++ rest).length = (pairsV l).length + rest.length := List.length_append
  refine ⟨false, run_over _ _ _ _ _ _ _ (Go.Lib.run_overlaps_apart w 86 4 96 (by kernel_rfl) 2 (fun w => by kernel_rfl) ⟨bq, 0, none⟩ ⟨g, (i + 1) * 2, none⟩ 1 1 _ _ hne 96 96 2 (pairsV l ++ rest).length ?_ ?_ ?_ ?_ ?_), cond_t rfl ?_⟩
  ·simp [World.shape?, hbb, pairV]
  ·simp [World.shape?, hbg]
  ·rw [hlen]; omega
  ·simp [World.frozen?, hbb]
  ·simp [World.frozen?, hbb]
  refine SlC.of (i + 1) (l.length + 1) c (by rw [wrapI64 (by omega) (by omega)]; omega) rfl rfl (by omega) hc (Nat.le_refl _) ?_
  refine SlC.of i (l.length + 1) c rfl rfl rfl (by omega) hc (Nat.le_refl _) ?_
  rw [hsl (i + 1) (by omega), hsl i (by omega)]
  have hsrc : Reads w.drew (some ⟨g, i * 2, none⟩) ((pairsV l).drop (i * 2)) := by
   intro a ha k v hk
   cases ha
   rw [List.getElem?_drop] at hk
   rw [add_mk]
   exact hr.drew.cell 0 rfl (by rw [List.getElem?_append_left (get_lt hk)]; exact hk)
  have hmin : min (l.length + 1 - i) (l.length + 1 - (i + 1)) = l.length - i := by omega
  have hdl : ((pairsV l).drop (i * 2)).length = (l.length - i) * 2 := by rw [List.length_drop, hxl]; omega
  refine RunI.copyN (s := 2) (by kernel_rfl) (by kernel_rfl) hr.drew 0 rfl hsrc (by rw [hmin, hdl]) (by rw [hdl, hlen]; omega) (fun u hu => pairsV_one l u (List.mem_of_mem_drop hu)) fun w1 h3 => ?_
  simp only [List.set_cons_zero] at h3
  refine SlC.of i (l.length + 1) c rfl rfl rfl (by omega) hc (Nat.le_refl _) ?_
  rw [hsl i (by omega)]
  have hrq1 : Reads w1 (some ⟨bq, 0, none⟩) (pairV q) := by
   intro a ha k v hk
   cases ha
   rw [add_mk, Nat.zero_add]
   exact h3.cell 1 rfl hk
  have hmin2 : min 1 (l.length + 1 - i) = 1 := by omega
  generalize hT : (pairsV l ++ rest).drop ((i + 1) * 2 + ((pairsV l).drop (i * 2)).length) = T at h3
  have hT0 : ((pairsV l ++ rest).take ((i + 1) * 2)).length = (i + 1) * 2 := by rw [List.length_take, hlen]; omega
  have htk : (pairsV l ++ rest).take (i * 2) = (pairsV l).take (i * 2) := List.take_append_of_le_length (by omega)
  have hTl : T.length = (pairsV l).length + rest.length - ((i + 1) * 2 + (l.length - i) * 2) := by rw [<- hT, List.length_drop, hlen, hdl]
  refine RunI.copyN (s := 2) (by kernel_rfl) (by kernel_rfl) h3 0 rfl hrq1 (by rw [hmin2]; rfl) (by simp only [List.length_append, hT0, hdl]; simp [pairV]; omega) hq1 fun w2 h4 => ?_
  simp only [List.set_cons_zero] at h4
  refine ⟨_, c, rfl, ?_⟩
  have e1 : ((pairsV l ++ rest).take ((i + 1) * 2) ++ (pairsV l).drop (i * 2) ++ T).take (i * 2) = (pairsV l).take (i * 2) := by
   rw [List.append_assoc, List.take_append_of_le_length (by omega), List.take_take, Nat.min_eq_left (by omega), htk]
  have e2 : ((pairsV l ++ rest).take ((i + 1) * 2) ++ (pairsV l).drop (i * 2) ++ T).drop (i * 2 + (pairV q).length) = (pairsV l).drop (i * 2) ++ T := by
   have : i * 2 + (pairV q).length = ((pairsV l ++ rest).take ((i + 1) * 2)).length := by rw [hT0]; simp [pairV]; omega
   rw [this, List.append_assoc, List.drop_left]
  rw [e1, e2, pairsV_take, pairsV_drop] at h4
  have e3 : pairsV (l.take i) ++ pairV q ++ (pairsV (l.drop i) ++ T) = pairsV (l.take i ++ q :: l.drop i) ++ T := by
   rw [pairsV_append]; simp [pairV]
  rw [e3] at h4
  have hfl : (pairsV (l.take i ++ q :: l.drop i)).length = (l.length + 1) * 2 := by rw [pairsV_len]; simp; omega
  have h5 := Sat.mkOwn (s := 2) (l := l.length + 1) (c := c) h4 0 rfl hfl hc hcm (by rw [List.length_append, hfl, hTl]; omega)
  simp only [List.set_cons_zero] at h5
  exact (Sat.p1 h5).drop
theorem delete_c {F : List HP} {w : World} {l : List (Nat × Nat)} {p : Option Addr} {c i : Nat} (hs : Sat (Own 96 2 p l.length c (pairsV l) :: F) w) (hi : i < l.length) (hl : l.length <= 1000) {n : Nat} {j k : Int} (hn : n = l.length) (hj : j = i) (hk : k = ((i + 1 : Nat) : Int)) :
  Calls Tryz.prog 96 #[.slice p n c, .int .i64 j, .int .i64 k] w fun e w' =>
   ∃ p', e = .returned (.slice p' (l.length - 1) c) /\ Sat (Own 96 2 p' (l.length - 1) c (pairsV (l.take i ++ l.drop (i + 1))) :: F) w' := by
 subst hn
 refine S_slices_Delete_tree_pair_tree_pair_ok _ _ _ _ _ _ _ ?_
 unfold S_slices_Delete_tree_pair_tree_pair
 have hlc : l.length <= c := by
  obtain ⟨_, ⟨_, h2, h3, _⟩ | ⟨g, rest, _, h2, _⟩⟩ := hs.own 0 rfl
  ·omega
  ·exact h2
 refine SlC.of i (i + 1) l.length hj hk rfl (by omega) (by omega) hlc ?_
 refine cond_f (by rw [hj, hk]; simp; omega) ?_
 obtain ⟨g, rfl⟩ := hs.own_some 0 rfl (by omega)
 refine RunS.deleteOne eok_pair (z := .agg #[.int .u64 0, .int .u64 0]) ⟨_, rfl, rfl⟩ rfl rfl hs.drew 0 rfl (pairsV_one l) hi hj hk fun w1 h1 => ?_
 refine ⟨_, rfl, ?_⟩
 have e : (pairsV l).take (i * 2) ++ (pairsV l).drop ((i + 1) * 2) = pairsV (l.take i ++ l.drop (i + 1)) := by rw [pairsV_take, pairsV_drop, pairsV_append]
 rw [e] at h1
 exact h1
theorem clone_c {F : List HP} {w : World} {l : List (Nat × Nat)} {p : Option Addr} {c : Nat} (hs : Sat F w) (hr : RdP F p l) (hl : l.length <= 1000) {n : Nat} (hn : n = l.length) :
  Calls Tryz.prog 138 #[.slice p n c] w fun e w' =>
   ∃ p' c', e = .returned (.slice p' l.length c') /\ Sat (Own 96 2 p' l.length c' (pairsV l) :: F) w' := by
 subst hn
 refine S_slices_Clone_tree_pair_tree_pair_ok _ _ _ _ _ ?_
 unfold S_slices_Clone_tree_pair_tree_pair
 cases p with
 | none =>
  have : l = [] := by
   cases l with
   | nil => rfl
   | cons q l => obtain ⟨a, ha⟩ := hr.some (by simp); cases ha
  subst this
  exact cond_t rfl ⟨_, _, rfl, hs.ownNil _ _⟩
 | some a =>
  refine cond_f rfl ?_
  refine NewC.ofRow hs fun d w1 h1 => ?_
  have h2 : Sat (Own 96 2 (some ⟨d, 0, none⟩) 0 0 [] :: F) w1 := by
   have h1' : Sat (Row d ([] ++ []) 96 :: F) w1 := h1
   exact Sat.mkOwn (s := 2) (l := 0) (c := 0) h1' 0 rfl rfl (Nat.le_refl _) (by simp only [maxLen]; omega) (by simp)
  refine RunS.own eok_pair h2 0 rfl (news := pairsV l) (hr.reads w1 h1.drop) (pairsV_len l) (pairsV_one l) (by omega) (by simp only [maxLen]; omega) fun p' c' w2 h3 => ?_
  rw [Nat.zero_add] at h3 ⊢
  exact ⟨_, _, rfl, h3⟩
end Go.Proofs.YtpicofkhioalkaaGreat
