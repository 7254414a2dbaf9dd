
/- 'Play': a deed done to a heap that may be watched, and to the document's. -/
import Derived.Test.YtdfdmboljidhnaaHPa
set_option maxRecDepth 100000
namespace Go.Proofs.Ytdfdmboljidhnaa
open Go Go.Lw Go.Wd Go.Am Go.Tb Go.Hm

section
variable {v : Value} {b : Nat} {σ : Type} {T : Wt v b σ} {H : Hp} {s : σ} {hs : List Nat} {r : Rh} {om : List (R9 × Gq)} {w W : World} {S S0 : Mem} {F : List HP} {P : Hp × σ × List Nat} {d : Dd} {b0 b1 b2 : Nat}
theorem play_ret2 (hP : P = (H, s, hs)) {X1 X2 : HP} (h : Sat (HeapH H v b :: T.at_ s :: Row b2 Rh.zero.cells 44 :: X1 :: X2 :: Ro W S :: F) w) (hE : Ext S0 S) (hM : Mir S H hs r om) {tp : Option Addr} {tc : Nat} (hT : CRs S 1 (words hs) tp hs.length tc) (hi : T.fin H s) {B : Bool} (hB : B = true) :
    St_tidemarkref9_Heap w ⟨b2, 0, none⟩ r.p r.l r.c r.a0 r.a1 r.a2 r.a3 r.a4 r.a5 r.a6 r.a7 r.a8 r.a9 r.a10 r.a11 r.a12 r.a13 r.a14 r.a15 fun w9 =>
      Ld_tidemarkref9_Heap w9 (⟨b2, 0, none⟩) fun p l c n0 n1 n2 n3 n4 n5 n6 n7 n8 n9 n10 n11 n12 n13 n14 n15 =>
      PlayPost T P W S0 F (.returned (.tuple #[.agg #[.slice p l c, .int .u64 n0, .int .u64 n1, .int .u64 n2, .int .u64 n3, .int .u64 n4, .int .u64 n5, .int .u64 n6, .int .u64 n7, .int .u64 n8, .int .u64 n9, .int .u64 n10, .int .u64 n11, .int .u64 n12, .int .u64 n13, .int .u64 n14, .int .u64 n15], .slice tp hs.length tc, .bool B])) w9 := by
  subst hP
  subst hB
  refine stRh rfl h 2 rfl fun w' h1 => ?_
  refine ldRh h1 2 rfl ?_
  refine ⟨S, r, om, tp, tc, rfl, hE, hM, hT, hi, ?_⟩
  have h2 : Sat (HeapH H v b :: T.at_ s :: Row b2 r.cells 44 :: X1 :: X2 :: Ro W S :: F) w' := h1
  exact (((((h2.pull 2 rfl).drop.pull 2 rfl).drop.pull 2 rfl).drop.p1.p1))
theorem play_ret (hP : P = (H, s, hs)) (h : Sat (PlS T H s r d b0 b1 b2 W S F) w) (hE : Ext S0 S) (hM : Mir S H hs r om) {tp : Option Addr} {tc : Nat} (hT : CRs S 1 (words hs) tp hs.length tc) (hi : T.fin H s) {B : Bool} (hB : B = true) :
    Ld_tidemarkref9_Heap w ⟨b0, 0, none⟩ fun p l c n0 n1 n2 n3 n4 n5 n6 n7 n8 n9 n10 n11 n12 n13 n14 n15 => St_tidemarkref9_Heap w ⟨b2, 0, none⟩ p l c n0 n1 n2 n3 n4 n5 n6 n7 n8 n9 n10 n11 n12 n13 n14 n15 fun w9 =>
      Ld_tidemarkref9_Heap w9 (⟨b2, 0, none⟩) fun p l c n0 n1 n2 n3 n4 n5 n6 n7 n8 n9 n10 n11 n12 n13 n14 n15 =>
      PlayPost T P W S0 F (.returned (.tuple #[.agg #[.slice p l c, .int .u64 n0, .int .u64 n1, .int .u64 n2, .int .u64 n3, .int .u64 n4, .int .u64 n5, .int .u64 n6, .int .u64 n7, .int .u64 n8, .int .u64 n9, .int .u64 n10, .int .u64 n11, .int .u64 n12, .int .u64 n13, .int .u64 n14, .int .u64 n15], .slice tp hs.length tc, .bool B])) w9 :=
  ldRh h 4 rfl (play_ret2 hP h hE hM hT hi hB)
/-- the end of a making. -/
theorem play_mk {n : Nat} {hs' : List Nat} (hs'e : hs' = hs ++ [n]) (hP : P = (H, s, hs')) {X1 X2 : HP} {tp : Option Addr} {tc : Nat} (h : Sat (Own 24 1 tp (hs.length + 1) tc (words hs ++ [.int .u64 (n : Int)]) :: Ro W S :: HeapH H v b :: T.at_ s :: Row b2 Rh.zero.cells 44 :: X1 :: X2 :: F) w) (hl : hs.length < 1048576) (hE : Ext S0 S) (hM : Mir S H hs' r om) (hi : T.fin H s) :
    St_tidemarkref9_Heap w ⟨b2, 0, none⟩ r.p r.l r.c r.a0 r.a1 r.a2 r.a3 r.a4 r.a5 r.a6 r.a7 r.a8 r.a9 r.a10 r.a11 r.a12 r.a13 r.a14 r.a15 fun w9 =>
      Ld_tidemarkref9_Heap w9 (⟨b2, 0, none⟩) fun p l c n0 n1 n2 n3 n4 n5 n6 n7 n8 n9 n10 n11 n12 n13 n14 n15 =>
      PlayPost T P W S0 F (.returned (.tuple #[.agg #[.slice p l c, .int .u64 n0, .int .u64 n1, .int .u64 n2, .int .u64 n3, .int .u64 n4, .int .u64 n5, .int .u64 n6, .int .u64 n7, .int .u64 n8, .int .u64 n9, .int .u64 n10, .int .u64 n11, .int .u64 n12, .int .u64 n13, .int .u64 n14, .int .u64 n15], .slice tp (hs.length + 1) tc, .bool true])) w9 := by
  subst hs'e
  subst hP
  refine stRh rfl h 4 rfl fun w' h1 => ?_
  refine ldRh h1 4 rfl ?_
  have h2 : Sat (Own 24 1 tp (hs.length + 1) tc (words (hs ++ [n])) :: Ro W S :: HeapH H v b :: T.at_ s :: Row b2 r.cells 44 :: X1 :: X2 :: F) w' := by
    rw [words_snoc]; exact h1
  obtain ⟨S2, hE2, hC, h3⟩ := Sat.freezeCRs h2 (by omega) (words_one _)
  have hl : (hs ++ [n]).length = hs.length + 1 := by simp
  refine ⟨S2, r, om, tp, tc, by rw [hl]; rfl, hE.trans hE2, hM.mono hE2, by rw [hl]; exact hC, hi, ?_⟩
  have h4 := ((h3.pull 2 rfl).pull 2 rfl)
  exact (((h4.pull 3 rfl).drop.pull 3 rfl).drop.pull 3 rfl).drop

theorem rob_fresh {H : Hp} {n tag refs size slot : Nat} (h : H.look n = some (Fresh tag refs size slot)) (hr : refs ≤ size) : rob H n = ⟨n, tag, List.replicate refs 0, List.replicate (size - refs) 0⟩ := by
  unfold rob
  rw [h]
  simp only [Fresh, List.take_replicate, List.drop_replicate]
  rw [Nat.min_eq_left hr]
theorem rob_look {H H' : Hp} {x : Nat} (h : H.look x = H'.look x) : rob H x = rob H' x := by
  unfold rob
  rw [h]
/-- a slice that stands and has no room, and one word more. -/
theorem RunS.told {L : List HP} {l : List Nat} {p : Option Addr} {c n : Nat} {K : Option Addr → Nat → Nat → World → Prop} {x : Nat} (h : Sat L w) (k : Nat) (hk : L[k]? = some (Ro W S)) (hT : CRs S 1 (words l) p l.length c) (i : Nat) (hi : L[i]? = some (Row n [.int .u64 (x : Int)] 24))
    (hK : ∀ p' c' w', Sat (Own 24 1 p' (l.length + 1) c' (words l ++ [.int .u64 (x : Int)]) :: L) w' → K p' (l.length + 1) c' w') :
    RunS Try.prog (Builtin.append_ #[45, 45] 45 #[.slice p l.length l.length, .slice (some ⟨n, 0, none⟩) 1 1]) w K := by
  have hlim := hT.lim
  refine RunS.grow eok_u64 h (olds := words l) (reads_CRs hT (h.has k hk)) (by rw [words_len]; omega) (fun hp => ?_) (news := [.int .u64 (x : Int)]) ?_ rfl (by omega) (by omega) (by simp only [maxLen]; omega) hK
  · have : l.length = 0 := by
      rcases Nat.eq_zero_or_pos l.length with h | h
      · exact h
      · obtain ⟨a, ha⟩ := some_CRs hT h; rw [hp] at ha; cases ha
    exact ⟨this, this⟩
  · intro a ha j u hj
    cases ha
    have := h.cell i hi (off := j) (v := u) hj
    rw [add_mk, Nat.zero_add]; exact this

set_option maxHeartbeats 4000000 in
theorem play_c (hS : Sat (HeapH H v b :: T.at_ s :: Ro W S :: F) w) (hi : T.inv H s) (hM : Mir S H hs r om) (hl : hs.length ≤ H.t.n) {tp : Option Addr} {tc : Nat} (hT : CRs S 1 (words hs) tp hs.length tc) (hw : d.w < 18446744073709551616) (hy64 : -9223372036854775808 ≤ d.y ∧ d.y ≤ 9223372036854775807) :
    Calls Try.prog 39 #[.pointer (some ⟨b, 0, none⟩), r.agg, .slice tp hs.length tc, d.agg] w (PlayPost T (playF T H s hs d) W S F) := by
  have hm := sat_wf hS
  have hcn := live_le hm hM.nd hM.live
  have hf := T.inv_fin hi
  have hmost := hm.tab.most
  have hl20 : hs.length ≤ 1048576 := by omega
  refine S_law9_Play_ok (some ⟨b, 0, none⟩) r.p r.l r.c r.a0 r.a1 r.a2 r.a3 r.a4 r.a5 r.a6 r.a7 r.a8 r.a9 r.a10 r.a11 r.a12 r.a13 r.a14 r.a15 tp hs.length tc d.d d.x d.y d.i d.j d.w w _ ?_
  unfold S_law9_Play
  refine NewC.ofRow hS fun b0 w1 h1 => ?_
  refine NewC.ofRow h1 fun b1 w2 h2 => ?_
  refine NewC.ofRow h2 fun b2 w3 h3 => ?_
  have h4 : Sat (PlS T H s r d b0 b1 b2 W S F) w3 := (Sat.pull h3 4 rfl).pull 4 rfl
  clear h1 h2 h3 hS
  refine LdI.of h4 3 rfl (off := 1) rfl (add_mk _ _ _) ?_
  refine (pick_c h4 5 rfl hT d.x).mono ?_
  rintro e w4 ⟨rfl, rfl⟩
  refine ⟨_, rfl, ?_⟩
  refine LdI.of h4 3 rfl (off := 2) rfl (add_mk _ _ _) ?_
  refine (pick_c h4 5 rfl hT d.y).mono ?_
  rintro e w4 ⟨rfl, rfl⟩
  refine ⟨_, rfl, ?_⟩
  have hxl : ∀ i, pickN hs i = 0 ∨ (H.look (pickN hs i)).isSome = true := fun i => by
    by_cases h : pickN hs i = 0
    · exact .inl h
    · exact .inr (hM.live _ (pickN_mem h))
  have hxu : ∀ i, pickN hs i < 18446744073709551616 := fun i => by
    rcases hxl i with h | h
    · rw [h]; omega
    · obtain ⟨o, ho⟩ := Option.isSome_iff_exists.1 h
      exact look_lt hm ho
  have hxs : ∀ i, (H.look (pickN hs i)).isSome = true → pickN hs i ∈ hs := fun i hh => by
    by_cases h : pickN hs i = 0
    · rw [h, look_zero hm] at hh; cases hh
    · exact pickN_mem h
  have hxin := hxs d.x
  have hyn := hxs d.y
  clear hxs
  generalize hx : pickN hs d.x = x at hxin
  generalize hy : pickN hs d.y = y at hyn
  have hxu' := hxu d.x
  have hyu := hxu d.y
  have hyl := hxl d.y
  rw [hx] at hxu'
  rw [hy] at hyu hyl
  have hmy : H.may y = true := by
    unfold Hp.may
    rcases hyl with h | h
    · simp [h]
    · simp [h]
  refine ldRh h4 4 rfl ?_
  refine (at9_c (r := r) h4 5 rfl hM hl20 x).mono ?_
  rintro e w5 ⟨rfl, h5⟩
  have h5 : Sat (PlS T H s r d b0 b1 b2 W S F) w5 := h5
  clear h4
  refine ⟨_, rfl, ?_⟩
  refine LdI.of h5 3 rfl (off := 0) rfl rfl ?_
  by_cases d2 : d.d ≤ 2
  · refine cond_t (by simpa using d2) ?_
    refine LdI.of h5 3 rfl (off := 3) rfl (add_mk _ _ _) (LdI.of h5 3 rfl (off := 4) rfl (add_mk _ _ _) (LdI.of h5 3 rfl (off := 2) rfl (add_mk _ _ _) ?_))
    by_cases hE0 : Hp.makeE H d.i d.j d.y = 0
    · as_aux_lemma =>
      -- it is made
      have hP : playF T H s hs d = ((T.made (H.made d.i.toNat d.j.toNat d.y.toNat) s (nextH H.t)).1, (T.made (H.made d.i.toNat d.j.toNat d.y.toNat) s (nextH H.t)).2, hs ++ [nextH H.t]) := by
        unfold playF; rw [if_pos d2, if_pos hE0]
      have hE1 := hE0
      unfold Hp.makeE at hE1
      have hfit : 1 ≤ d.i ∧ d.i ≤ 255 ∧ 0 ≤ d.y ∧ d.y ≤ 4096 ∧ 0 ≤ d.j ∧ d.j ≤ d.y := by
        by_cases h : 1 ≤ d.i ∧ d.i ≤ 255 ∧ 0 ≤ d.y ∧ d.y ≤ 4096 ∧ 0 ≤ d.j ∧ d.j ≤ d.y
        · exact h
        · rw [if_neg h] at hE1; cases hE1
      rw [if_pos hfit] at hE1
      have hroom : ¬ ((H.m.n : Int) < H.m.top + 1 + d.y ∨ H.t.count = H.t.n) := fun h => by rw [if_pos h] at hE1; cases hE1
      obtain ⟨tag, ht⟩ := Int.eq_ofNat_of_zero_le (a := d.i) (by omega)
      obtain ⟨refs, hr⟩ := Int.eq_ofNat_of_zero_le (a := d.j) (by omega)
      obtain ⟨size, hz⟩ := Int.eq_ofNat_of_zero_le (a := d.y) (by omega)
      rw [ht, hr, hz] at hE0 hP
      simp only [Int.toNat_natCast] at hP
      have hcl := count_le hm.tab
      have hc1 : H.t.count ≠ H.t.n := fun h => hroom (.inr h)
      have hnf := not_full hm (by omega)
      have hnp := next_pos H.t
      have hnu := next_u64 hm hnf
      have hmw := made_wf hm (tag := tag) (refs := refs) (size := size) (by omega) (by omega) (by omega) hnf (by have : ¬ ((H.m.n : Int) < H.m.top + 1 + d.y) := fun h => hroom (.inl h); omega)
      obtain ⟨hk1, hk2, hk3⟩ := T.made_ok (tag := tag) (refs := refs) (size := size) hi hm hnf hmw
      have hlk := made_look hm (tag := tag) (refs := refs) (size := size) hnf
      have hnone := next_look hm hnf
      have hnin : nextH H.t ∉ hs := fun hh => by have := hM.live _ hh; rw [hnone] at this; cases this
      rw [ht, hr, hz]
      as_aux_lemma =>
      refine (make_yes h5 hE0 (Q := Sat (PlS T (T.made (H.made tag refs size) s (nextH H.t)).1 (T.made (H.made tag refs size) s (nextH H.t)).2 r d b0 b1 b2 W S F)) fun w' h' => hk3 _ _ h').mono ?_
      rintro e w6 ⟨rfl, h6⟩
      generalize hgen : T.made (H.made tag refs size) s (nextH H.t) = HS at h6 hP hk1 hk2
      obtain ⟨H2, s2⟩ := HS
      dsimp only at h6 hP hk1 hk2
      -- the document's
      have hrob : rob H2 (nextH H.t) = ⟨nextH H.t, tag, List.replicate refs 0, List.replicate (size - refs) 0⟩ := (hk1.rob _).trans (rob_fresh (by rw [hlk, if_pos rfl]) (by omega))
      have hroo : ∀ z ∈ hs, rob H2 z = rob H z := fun z hz => by
        have hne : z ≠ nextH H.t := fun e => hnin (by rw [← e]; exact hz)
        exact (hk1.rob z).trans (rob_look (by rw [hlk, if_neg hne]))
      have hlive : ∀ z, (H2.look z).isSome = true ↔ ((H.look z).isSome = true ∨ z = nextH H.t) := fun z => by
        rw [hk1.isSome, hlk]
        by_cases e : z = nextH H.t
        · rw [if_pos e]; simp [e]
        · rw [if_neg e]; simp [e]
      have hrn : ∀ y ∈ refsOf H2 (nextH H.t), y = 0 := fun y hy => by
        rw [← rob_refs, hrob] at hy
        exact List.eq_of_mem_replicate hy
      have h20 : H2.look 0 = none := hk1.none (look_zero hmw)
      as_aux_lemma =>
      generalize nextH H.t = n at *
      refine ⟨_, _, rfl, ?_⟩
      refine LdI.of h6 3 rfl (off := 3) rfl (add_mk _ _ _) ?_
      refine cond_f (decide_eq_false (by omega)) (LdI.of h6 3 rfl (off := 3) rfl (add_mk _ _ _) ?_)
      refine cond_f (decide_eq_false (by omega)) (LdI.of h6 3 rfl (off := 2) rfl (add_mk _ _ _) ?_)
      refine cond_f (decide_eq_false (by omega)) (LdI.of h6 3 rfl (off := 2) rfl (add_mk _ _ _) ?_)
      refine cond_f (decide_eq_false (by omega)) (LdI.of h6 3 rfl (off := 4) rfl (add_mk _ _ _) ?_)
      refine cond_f (decide_eq_false (by omega)) (LdI.of h6 3 rfl (off := 4) rfl (add_mk _ _ _) (LdI.of h6 3 rfl (off := 2) rfl (add_mk _ _ _) ?_))
      refine cond_f (decide_eq_false (by omega)) ?_
      refine cond_f rfl (cond_f rfl (cond_f (by simpa using hnp) ?_))
      refine ldRh h6 4 rfl ?_
      as_aux_lemma =>
      refine (at9_c (r := r) h6 5 rfl hM hl20 n).mono ?_
      rintro e w7 ⟨rfl, h7⟩
      have h7 : Sat (PlS T H2 s2 r d b0 b1 b2 W S F) w7 := h7
      refine ⟨_, rfl, ?_⟩
      rw [numI_none hnin]
      refine cond_f rfl ?_
      have h8 := h7.drew
      generalize w7.drew = w8 at h8
      as_aux_lemma =>
      refine ⟨fun w => ∃ L, Sat (Row b0 r.cells 44 :: Row b1 d.cells 68 :: L) w, ⟨_, (h8.pull 3 rfl).pull 4 rfl⟩, ?_⟩
      refine qRh (r := r) (b := b0) (T := 44) (fun w ⟨L, hw⟩ => ⟨_, hw⟩) ?_
      refine LdIQ.row (fun w ⟨L, hw⟩ => ⟨_, Sat.p1 hw⟩) (off := 3) rfl (add_mk _ _ _) ?_
      refine LdIQ.row (fun w ⟨L, hw⟩ => ⟨_, Sat.p1 hw⟩) (off := 4) rfl (add_mk _ _ _) ?_
      refine LdIQ.row (fun w ⟨L, hw⟩ => ⟨_, Sat.p1 hw⟩) (off := 2) rfl (add_mk _ _ _) ?_
      refine LdIQ.row (fun w ⟨L, hw⟩ => ⟨_, Sat.p1 hw⟩) (off := 4) rfl (add_mk _ _ _) ?_
      have htc := hT.cap
      refine SlC.of 0 hs.length hs.length rfl rfl rfl (by omega) (Nat.le_refl _) htc ?_
      rw [slAddr_zero, Nat.sub_zero]
      have hsub : IntKind.wrap .i64 (d.y - d.j) = ((size - refs : Nat) : Int) := by rw [wrapI64 (by omega) (by omega)]; omega
      rw [hsub, ht, hr]
      have hlh : hs.length < 1048576 := by omega
      have hpost : ∀ {S' : Mem} {p : Option Addr} {l c : Nat} {y : R9 × Gq}, R9s S' (hs.map (rob H) ++ [⟨n, tag, List.replicate refs 0, List.replicate (size - refs) 0⟩]) (om ++ [y]) p l c → Mir S' H2 (hs ++ [n]) (r.withL p l c) (om ++ [y]) := fun h => by
        refine hM.more hk1.roots hnin hlive hroo hrn h20 ?_
        rw [hrob]; exact h
      as_aux_lemma =>
      refine ⟨?_, ?_⟩
      · as_aux_lemma =>
        refine (make9_c (r := r) (h8.pull 5 rfl) hM.objs (x := n) (tag := tag) (refs := refs) (size := size - refs) (by omega) (by omega) (by rw [List.length_map]; omega)).mono ?_
        rintro e w9 ⟨S', p, l, c, z, rfl, hEx, hRs, h9⟩
        refine ⟨_, _, _, _, _, _, _, _, _, _, _, _, _, _, _, _, _, _, _, rfl, ?_⟩
        refine NewC.ofRow h9 fun b3 w10 h10 => ?_
        refine RunS.told h10 1 rfl (hT.mono hEx) 0 rfl fun p' c' w11 h11 => ?_
        have h12 : Sat (Own 24 1 p' (hs.length + 1) c' (words hs ++ [.int .u64 (n : Int)]) :: Ro W S' :: HeapH H2 v b :: T.at_ s2 :: Row b2 Rh.zero.cells 44 :: Row b1 d.cells 68 :: Row b0 r.cells 44 :: F) w11 := (Sat.p1 h11).drop
        exact play_mk (r := r.withL p l c) rfl hP h12 hlh hEx (hpost hRs) hk2
      · as_aux_lemma =>
        refine NewC.ofRow h8 fun b4 w9 h9 => ?_
        refine ⟨⟨_, (Sat.pull h9 4 rfl).pull 5 rfl⟩, ?_⟩
        refine (make9_c (r := r) (Sat.pull h9 6 rfl) hM.objs (x := n) (tag := tag) (refs := refs) (size := size - refs) (by omega) (by omega) (by rw [List.length_map]; omega)).mono ?_
        rintro e w10 ⟨S', p, l, c, z, rfl, hEx, hRs, h10⟩
        refine ⟨_, _, _, _, _, _, _, _, _, _, _, _, _, _, _, _, _, _, _, rfl, ?_⟩
        refine RunS.told h10 0 rfl (hT.mono hEx) 1 rfl fun p' c' w11 h11 => ?_
        have h12 : Sat (Own 24 1 p' (hs.length + 1) c' (words hs ++ [.int .u64 (n : Int)]) :: Ro W S' :: HeapH H2 v b :: T.at_ s2 :: Row b2 Rh.zero.cells 44 :: Row b1 d.cells 68 :: Row b0 r.cells 44 :: F) w11 := (Sat.pull h11 2 rfl).drop
        exact play_mk (r := r.withL p l c) rfl hP h12 hlh hEx (hpost hRs) hk2
    · as_aux_lemma =>
      -- it is refused
      have hP : playF T H s hs d = (H, s, hs) := by unfold playF; rw [if_pos d2, if_neg hE0]
      refine (make_no h5 hE0).mono ?_
      rintro e w6 ⟨rfl, h6⟩
      have h6 : Sat (PlS T H s r d b0 b1 b2 W S F) w6 := h6
      refine ⟨_, _, rfl, ?_⟩
      have hE1 := hE0
      unfold Hp.makeE at hE1 ⊢
      have ret := fun {B : Bool} (hB : B = true) => play_ret2 (T := T) (r := r) hP h6 (Ext.refl S) hM hT hf hB
      refine LdI.of h6 3 rfl (off := 3) rfl (add_mk _ _ _) ?_
      by_cases c1 : d.i < 1
      · rw [if_neg (by omega)]
        exact cond_t (by simpa using c1) (ldRh h6 4 rfl (cond_t rfl (ret rfl)))
      refine cond_f (by simpa using c1) (LdI.of h6 3 rfl (off := 3) rfl (add_mk _ _ _) ?_)
      by_cases c2 : d.i > 255
      · rw [if_neg (by omega)]
        exact cond_t (by simpa using c2) (ldRh h6 4 rfl (cond_t rfl (ret rfl)))
      refine cond_f (by simpa using c2) (LdI.of h6 3 rfl (off := 2) rfl (add_mk _ _ _) ?_)
      by_cases c3 : d.y < 0
      · rw [if_neg (by omega)]
        exact cond_t (by simpa using c3) (ldRh h6 4 rfl (cond_t rfl (ret rfl)))
      refine cond_f (by simpa using c3) (LdI.of h6 3 rfl (off := 2) rfl (add_mk _ _ _) ?_)
      by_cases c4 : d.y > 4096
      · rw [if_neg (by omega)]
        exact cond_t (by simpa using c4) (ldRh h6 4 rfl (cond_t rfl (ret rfl)))
      refine cond_f (by simpa using c4) (LdI.of h6 3 rfl (off := 4) rfl (add_mk _ _ _) ?_)
      by_cases c5 : d.j < 0
      · rw [if_neg (by omega)]
        exact cond_t (by simpa using c5) (ldRh h6 4 rfl (cond_t rfl (ret rfl)))
      refine cond_f (by simpa using c5) (LdI.of h6 3 rfl (off := 4) rfl (add_mk _ _ _) (LdI.of h6 3 rfl (off := 2) rfl (add_mk _ _ _) ?_))
      by_cases c6 : d.j > d.y
      · rw [if_neg (by omega)]
        exact cond_t (by simpa using c6) (ldRh h6 4 rfl (cond_t rfl (ret rfl)))
      refine cond_f (by simpa using c6) ?_
      rw [if_pos (by omega)] at hE1 ⊢
      have hfull : (H.m.n : Int) < H.m.top + 1 + d.y ∨ H.t.count = H.t.n := by
        by_cases h : (H.m.n : Int) < H.m.top + 1 + d.y ∨ H.t.count = H.t.n
        · exact h
        · rw [if_neg h] at hE1; exact absurd rfl hE1
      rw [if_pos hfull]
      refine cond_t rfl ?_
      have h7 : Sat (PlS T H s r d b0 b1 b2 W S F) w6.drew := h6.drew
      generalize w6.drew = w7 at h7
      refine ⟨fun w => Sat (PlS T H s r d b0 b1 b2 W S F) w, h7, ?_⟩
      refine qRh (r := r) (b := b0) (T := 44) (fun w hw => ⟨_, Sat.pull hw 4 rfl⟩) ?_
      refine cond_t rfl ?_
      refine LdIQ.row (fun w hw => ⟨_, Sat.pull hw 3 rfl⟩) (off := 2) rfl (add_mk _ _ _) ?_
      refine (harena_c h7).mono ?_
      rintro e w8 ⟨rfl, ba, bt, rfl, h8⟩
      refine ⟨_, rfl, h7, ?_⟩
      refine (free2 (h8.pull 1 rfl)).mono ?_
      rintro e w8 ⟨rfl, h9⟩
      have h9 : Sat (PlS T H s r d b0 b1 b2 W S F) w8 := heap_shut hm (ba := ba) (bt := bt) (Sat.p1 h9)
      refine ⟨_, rfl, h9, ?_⟩
      have ht := hm.am.top; have hmo := hm.am.most
      rw [wrapI64 (n := d.y + 1) (by omega) (by omega)]
      by_cases hr : (H.m.n : Int) < H.m.top + 1 + d.y
      · exact cond_t (decide_eq_true (by omega)) (play_ret2 (T := T) (r := r) hP h9 (Ext.refl S) hM hT hf rfl)
      · have hc := hfull.resolve_left hr
        refine cond_f (decide_eq_false (by omega)) ?_
        refine (htable_c h9).mono ?_
        rintro e w9 ⟨rfl, ba, bt, rfl, h10⟩
        refine ⟨_, rfl, h9, ?_⟩
        refine (count_c (h10.pull 2 rfl)).mono ?_
        rintro e w9 ⟨rfl, rfl⟩
        refine ⟨_, rfl, h9, ?_⟩
        refine (htable_c h9).mono ?_
        rintro e w9 ⟨rfl, ba2, bt2, rfl, h11⟩
        refine ⟨_, rfl, h9, ?_⟩
        refine (slots_c (h11.pull 2 rfl)).mono ?_
        rintro e w9 ⟨rfl, rfl⟩
        refine ⟨_, rfl, h9, ?_⟩
        exact play_ret2 (T := T) (r := r) hP h9 (Ext.refl S) hM hT hf (by rw [hc]; simp)
  as_aux_lemma =>
  refine cond_f (by simpa using d2) (LdI.of h5 3 rfl (off := 0) rfl rfl ?_)
  have hcur : ∀ {o : Ob}, H.look x = some o → x ∈ hs := fun h => hxin (by rw [h]; rfl)
  by_cases d4 : d.d ≤ 4
  · -- a ref is set
    refine cond_t (by simpa using d4) (LdI.of h5 3 rfl (off := 3) rfl (add_mk _ _ _) ?_)
    cases hlk : H.look x with
    | none => as_aux_lemma =>
      have hE : Hp.refE H x d.i y = 6 := by simp only [Hp.refE, hlk]
      have hP : playF T H s hs d = (H, s, hs) := by unfold playF; rw [if_neg d2, if_pos d4, hx, hy, if_neg (by rw [hE]; decide)]
      refine (setref_c h5 hxu' d.i hyu (Q := fun _ => True) (fun h => by rw [hE] at h; cases h)).mono ?_
      rintro e w6 ⟨rfl, h6⟩
      unfold Post at h6
      rw [hE, if_neg (by decide)] at h6
      rw [hE]
      refine ⟨_, rfl, ?_⟩
      have hnin : x ∉ hs := fun hh => by have := hM.live x hh; rw [hlk] at this; cases this
      rw [numI_none hnin]
      exact cond_t rfl (play_ret hP h6 (Ext.refl S) hM hT hf rfl)
    | some o => as_aux_lemma =>
      obtain ⟨q, hq, hqx⟩ := numI_some (hcur hlk)
      have hok := look_ok hm hlk
      have hro3 := hok.refs; have hro4 := hok.size
      have hro : rob H x = ⟨x, o.tag, o.w.take o.refs, o.w.drop o.refs⟩ := by unfold rob; rw [hlk]
      have lr : (o.w.take o.refs).length = o.refs := by rw [List.length_take]; omega
      have lw : (o.w.drop o.refs).length = o.w.length - o.refs := List.length_drop
      by_cases hri : 0 ≤ d.i ∧ d.i < (o.refs : Int)
      · as_aux_lemma =>
        have hE : Hp.refE H x d.i y = 0 := by simp only [Hp.refE, hlk]; rw [if_pos hri, if_pos hmy]
        have hS1 : Hp.setRef H x d.i y = H.set x (o.put d.i.toNat y) := by simp only [Hp.setRef, hlk]
        obtain ⟨i, hii⟩ := Int.eq_ofNat_of_zero_le hri.1
        have hP : playF T H s hs d = ((T.lk (H.set x (o.put i y)) s y).1, (T.lk (H.set x (o.put i y)) s y).2, hs) := by
          unfold playF; rw [if_neg d2, if_pos d4, hx, hy, if_pos hE, hS1, hii, Int.toNat_natCast]
        have hlen1 : (o.put i y).w.length = o.w.length := by simp [Ob.put]
        have hmw : (H.set x (o.put i y)).WF := set_wf hm hlk hlen1 rfl (Ob.put_ok hok i hyu)
        obtain ⟨g1, g2, g3⟩ := wt_link T (y := y) (T.inv_set (i := i) (y := y) hi hm hlk) hmw (by rw [set_isSome hm hlk hlen1]; exact hyl)
        rw [hii] at hE hS1 hri ⊢
        rw [Int.toNat_natCast] at hS1
        refine (setref_c h5 hxu' i hyu (Q := Sat (PlS T (T.lk (H.set x (o.put i y)) s y).1 (T.lk (H.set x (o.put i y)) s y).2 r d b0 b1 b2 W S F)) (fun _ w' h' => by rw [hS1] at h'; exact g3 _ _ h')).mono ?_
        rintro e w6 ⟨rfl, h6⟩
        unfold Post at h6
        rw [hE, if_pos rfl] at h6
        rw [hE]
        generalize T.lk (H.set x (o.put i y)) s y = HS at h6 hP g1 g2
        obtain ⟨H2, s2⟩ := HS
        dsimp only at h6 hP g1 g2
        refine ⟨_, rfl, ?_⟩
        rw [hq]
        refine cond_f (by simp) ?_
        refine LdS.of h6 4 rfl (off := 0) rfl rfl ?_
        have hw6 := h6.has 5 rfl
        refine rd_ob hM hw6 hqx rfl fun a z hz1 hz2 hz3 hc => ?_
        obtain ⟨c0, c1, c2, c3⟩ := hc w6 hw6
        rw [hro] at c1 c2 c3 hz2
        dsimp only at c1 c2 c3
        have hyr := hz3.refs
        have hyw := hz3.words
        rw [hz2] at hyr hyw
        dsimp only at hyr hyw
        rw [lr] at c2 hyr
        rw [lw] at c3 hyw
        refine LdI.cell c0 (LdI.cell c1 (LdS.cell c2 (LdS.cell c3 ?_)))
        refine NewC.ofRow h6 fun b5 w7 h7 => ?_
        refine StC.of h7 0 rfl (off := 0) rfl rfl fun w8 h8 => ?_
        refine StC.of h8 0 rfl (off := 1) rfl (add_mk _ _ _) fun w9 h9 => ?_
        refine StC.of h9 0 rfl (off := 2) rfl (add_mk _ _ _) fun w10 h10 => ?_
        refine StC.of h10 0 rfl (off := 3) rfl (add_mk _ _ _) fun w11 h11 => ?_
        have h12 : Sat (Row b5 [.int .u64 (x : Int), .int .i64 (o.tag : Int), .slice z.2.pr o.refs z.2.cr, .slice z.2.pw (o.w.length - o.refs) z.2.cw] 133 :: PlS T H2 s2 r d b0 b1 b2 W S F) w11 := h11
        clear h6 h7 h8 h9 h10 h11
        refine LdI.of h12 4 rfl (off := 3) rfl (add_mk _ _ _) ?_
        rw [hii]
        refine cond_f (by simp) ?_
        refine LdI.of h12 4 rfl (off := 3) rfl (add_mk _ _ _) ?_
        refine LdS.of h12 0 rfl (off := 2) rfl (add_mk _ _ _) ?_
        rw [hii]
        refine cond_f (decide_eq_false (by omega)) ?_
        intro k0 hk0
        have fin : ∀ w, Sat (Row b5 [.int .u64 (x : Int), .int .i64 (o.tag : Int), .slice z.2.pr o.refs z.2.cr, .slice z.2.pw (o.w.length - o.refs) z.2.cw] 133 :: PlS T H2 s2 r d b0 b1 b2 W S F) w → k0 w := by
          intro w h13
          refine hk0 _ ?_
          unfold S_law9_Play_j0
          refine LdS.of h13 0 rfl (off := 2) rfl (add_mk _ _ _) ?_
          have h14 := Sat.ownNil h13 24 1
          refine RunS.appRo eok_u64 h14 0 rfl 7 rfl hyr (by omega) (by omega) fun p c w14 h15 => ?_
          rw [Nat.zero_add] at h15 ⊢
          refine StC.of h15 1 rfl (off := 2) rfl (add_mk _ _ _) fun w15 h16 => ?_
          have h16 : Sat (Own 24 1 p o.refs c (words (o.w.take o.refs)) :: Row b5 [.int .u64 (x : Int), .int .i64 (o.tag : Int), .slice p o.refs c, .slice z.2.pw (o.w.length - o.refs) z.2.cw] 133 :: PlS T H2 s2 r d b0 b1 b2 W S F) w15 := h16
          refine LdS.of h16 1 rfl (off := 2) rfl (add_mk _ _ _) ?_
          refine LdI.of h16 5 rfl (off := 3) rfl (add_mk _ _ _) ?_
          rw [hii]
          refine IdxC.ownAt h16 0 rfl (by omega) fun g hg => ?_
          refine StC.ownAt h16 0 rfl hg (off := i * 1) (v0 := .int .u64 (o.w.getD i 0 : Nat)) (by rw [Nat.mul_one]; unfold words; rw [List.getElem?_map, List.getElem?_take_of_lt (by omega), List.getD_eq_getElem?_getD, List.getElem?_eq_getElem (by omega)]; rfl) rfl fun w16 h17 => ?_
          have hset : (words (o.w.take o.refs)).set (i * 1) (.int .u64 (y : Int)) = words ((o.w.take o.refs).set i y) := by rw [Nat.mul_one]; simp [words, List.map_set]
          simp only [List.set_cons_zero, hset] at h17
          refine ldRh h17 6 rfl ?_
          refine LdI.of h17 1 rfl (off := 0) rfl rfl (LdI.of h17 1 rfl (off := 1) rfl (add_mk _ _ _) (LdS.of h17 1 rfl (off := 2) rfl (add_mk _ _ _) (LdS.of h17 1 rfl (off := 3) rfl (add_mk _ _ _) ?_)))
          have h18 : Sat (Own 24 1 p o.refs c (words ((o.w.take o.refs).set i y)) :: Ro W S :: Row b5 [.int .u64 (x : Int), .int .i64 (o.tag : Int), .slice p o.refs c, .slice z.2.pw (o.w.length - o.refs) z.2.cw] 133 :: HeapH H2 v b :: T.at_ s2 :: Row b2 Rh.zero.cells 44 :: Row b1 d.cells 68 :: Row b0 r.cells 44 :: F) w16 := (Sat.pull h17 7 rfl).p1
          obtain ⟨S1, hEx1, hC1, h19⟩ := Sat.freezeCRs h18 (by omega) (words_one _)
          have ls : ((o.w.take o.refs).set i y).length = o.refs := by rw [List.length_set, lr]
          have hyR : R9R S1 ((⟨x, o.tag, (o.w.take o.refs).set i y, o.w.drop o.refs⟩, ⟨p, c, z.2.pw, z.2.cw⟩) : R9 × Gq) := by
            refine ⟨?_, ?_⟩
            · dsimp only; rw [ls]; exact hC1
            · dsimp only; rw [lw]; exact hyw.mono hEx1
          have hag : ragg ((⟨x, o.tag, (o.w.take o.refs).set i y, o.w.drop o.refs⟩, ⟨p, c, z.2.pw, z.2.cw⟩) : R9 × Gq) = .agg #[.int .u64 (x : Int), .int .i64 (o.tag : Int), .slice p o.refs c, .slice z.2.pw (o.w.length - o.refs) z.2.cw] := by
            unfold ragg; dsimp only; rw [ls, lw]
          rw [← hag]
          refine (with9_c (r := r) h19 (hM.objs.mono hEx1) rfl (by rw [List.length_map]; exact get_lt hqx) hyR).mono ?_
          rintro e w17 ⟨S2, p2, l2, c2, rfl, hEx2, hRs, h20⟩
          refine ⟨_, _, _, _, _, _, _, _, _, _, _, _, _, _, _, _, _, _, _, rfl, ?_⟩
          have h21 : Sat (HeapH H2 v b :: T.at_ s2 :: Row b2 Rh.zero.cells 44 :: Row b1 d.cells 68 :: Row b0 r.cells 44 :: Ro W S2 :: F) w17 := by
            have a1 := (Sat.p1 h20).drop
            exact ((((a1.pull 5 rfl).pull 5 rfl).pull 5 rfl).pull 5 rfl).pull 5 rfl
          have hrx0 : ∀ u ∈ refsOf H2 x, u ∈ refsOf H x ∨ u = 0 ∨ u ∈ hs := fun u hu => by
            have e1 : (o.put i y).w.take (o.put i y).refs = (o.w.take o.refs).set i y := by simp only [Ob.put, List.take_set]
            rw [← rob_refs, g1.rob, rob_set hm hlk hlen1, e1] at hu
            rcases List.mem_or_eq_of_mem_set hu with a | a
            · refine .inl ?_
              rw [← rob_refs, hro]; exact a
            · subst a
              rcases hyl with b | b
              · exact .inr (.inl b)
              · exact .inr (.inr (hyn b))
          have hM2 : Mir S2 H2 hs (r.withL p2 l2 c2) (om.set q ((⟨x, o.tag, (o.w.take o.refs).set i y, o.w.drop o.refs⟩, ⟨p, c, z.2.pw, z.2.cw⟩) : R9 × Gq)) := by
            refine hM.one (q := q) (x := x) (g1.roots.trans rfl) (fun z => (g1.isSome z).trans (set_isSome hm hlk hlen1 z)) hqx (fun z hz => (g1.rob z).trans (rob_set_ne hm hlk hlen1 hz)) hrx0 (look_zero hm) ?_
            rw [g1.rob, rob_set hm hlk hlen1]
            have e1 : (o.put i y).w.take (o.put i y).refs = (o.w.take o.refs).set i y := by simp only [Ob.put, List.take_set]
            have e2 : (o.put i y).w.drop (o.put i y).refs = o.w.drop o.refs := by simp only [Ob.put]; rw [List.drop_set_of_lt (by omega)]
            rw [e1, e2]
            exact hRs
          exact play_ret2 (T := T) (r := r.withL p2 l2 c2) hP h21 (hEx1.trans hEx2) hM2 (hT.mono (hEx1.trans hEx2)) g2 rfl
        by_cases hy0 : y = 0
        · exact cond_f (by simp [hy0]) (fin _ h12)
        · refine cond_t (by simpa using hy0) ?_
          refine ldRh h12 5 rfl ?_
          refine (at9_c (r := r) h12 6 rfl hM hl20 y).mono ?_
          rintro e w12 ⟨rfl, h13⟩
          refine ⟨_, rfl, ?_⟩
          have hyin : y ∈ hs := hyn (hyl.resolve_left hy0)
          exact cond_f (by simpa using fun hh => numI_neg.1 hh hyin) (fin _ h13)
      · as_aux_lemma =>
        have hE : Hp.refE H x d.i y = 1 := by simp only [Hp.refE, hlk]; rw [if_neg hri]
        have hP : playF T H s hs d = (H, s, hs) := by unfold playF; rw [if_neg d2, if_pos d4, hx, hy, if_neg (by rw [hE]; decide)]
        refine (setref_c h5 hxu' d.i hyu (Q := fun _ => True) (fun h => by rw [hE] at h; cases h)).mono ?_
        rintro e w6 ⟨rfl, h6⟩
        unfold Post at h6
        rw [hE, if_neg (by decide)] at h6
        have h6 : Sat (PlS T H s r d b0 b1 b2 W S F) w6 := h6
        rw [hE]
        refine ⟨_, rfl, ?_⟩
        rw [hq]
        refine cond_f (by simp) ?_
        refine LdS.of h6 4 rfl (off := 0) rfl rfl ?_
        have hw6 := h6.has 5 rfl
        refine rd_ob hM hw6 hqx rfl fun a z hz1 hz2 hz3 hc => ?_
        obtain ⟨c0, c1, c2, c3⟩ := hc w6 hw6
        rw [hro] at c1 c2 c3
        dsimp only at c1 c2 c3
        rw [lr] at c2
        refine LdI.cell c0 (LdI.cell c1 (LdS.cell c2 (LdS.cell c3 ?_)))
        refine NewC.ofRow h6 fun b5 w7 h7 => ?_
        refine StC.of h7 0 rfl (off := 0) rfl rfl fun w8 h8 => ?_
        refine StC.of h8 0 rfl (off := 1) rfl (add_mk _ _ _) fun w9 h9 => ?_
        refine StC.of h9 0 rfl (off := 2) rfl (add_mk _ _ _) fun w10 h10 => ?_
        refine StC.of h10 0 rfl (off := 3) rfl (add_mk _ _ _) fun w11 h11 => ?_
        have h12 : Sat (Row b5 [.int .u64 (x : Int), .int .i64 (o.tag : Int), .slice z.2.pr o.refs z.2.cr, .slice z.2.pw (o.w.drop o.refs).length z.2.cw] 133 :: PlS T H s r d b0 b1 b2 W S F) w11 := h11
        refine LdI.of h12 4 rfl (off := 3) rfl (add_mk _ _ _) ?_
        have h13 := h12.drop
        by_cases hi0 : d.i < 0
        · exact cond_t (by simpa using hi0) (ldRh h12 5 rfl (play_ret2 (T := T) (r := r) hP h13 (Ext.refl S) hM hT hf rfl))
        · refine cond_f (by simpa using hi0) (LdI.of h12 4 rfl (off := 3) rfl (add_mk _ _ _) (LdS.of h12 0 rfl (off := 2) rfl (add_mk _ _ _) ?_))
          exact cond_t (decide_eq_true (by omega)) (ldRh h12 5 rfl (play_ret2 (T := T) (r := r) hP h13 (Ext.refl S) hM hT hf rfl))
  as_aux_lemma =>
  refine cond_f (by simpa using d4) (LdI.of h5 3 rfl (off := 0) rfl rfl ?_)
  by_cases d5 : d.d = 5
  · as_aux_lemma =>
    -- a word is set
    refine cond_t (by simpa using d5) (LdI.of h5 3 rfl (off := 3) rfl (add_mk _ _ _) (LdI.of h5 3 rfl (off := 5) rfl (add_mk _ _ _) ?_))
    refine (setword_c h5 hxu' d.i hw).mono ?_
    rintro e w6 ⟨rfl, h6⟩
    cases hlk : H.look x with
    | none => as_aux_lemma =>
      have hE : Hp.wordE H x d.i = 6 := by simp only [Hp.wordE, hlk]
      have hP : playF T H s hs d = (H, s, hs) := by unfold playF; rw [if_neg d2, if_neg d4, if_pos d5, hx, if_neg (by rw [hE]; decide)]
      rw [hE] at h6 ⊢
      rw [if_neg (by decide)] at h6
      refine ⟨_, rfl, ?_⟩
      have hnin : x ∉ hs := fun hh => by have := hM.live x hh; rw [hlk] at this; cases this
      rw [numI_none hnin]
      exact cond_t rfl (play_ret hP h6 (Ext.refl S) hM hT hf rfl)
    | some o => as_aux_lemma =>
      obtain ⟨q, hq, hqx⟩ := numI_some (hcur hlk)
      have hok := look_ok hm hlk
      have hro3 := hok.refs; have hro4 := hok.size
      have hro : rob H x = ⟨x, o.tag, o.w.take o.refs, o.w.drop o.refs⟩ := by unfold rob; rw [hlk]
      have lr : (o.w.take o.refs).length = o.refs := by rw [List.length_take]; omega
      have lw : (o.w.drop o.refs).length = o.w.length - o.refs := List.length_drop
      -- what is common: the object is read into a variable
      have go : ∀ {H2 : Hp} {E : Nat} {w6 : World}, Sat (PlS T H2 s r d b0 b1 b2 W S F) w6 →
          ∀ {K : Nat → Option Addr → Nat → Option Addr → Nat → World → Prop}, (∀ b5 pr cr pw cw w11, CRs S 1 (words (o.w.take o.refs)) pr o.refs cr → CRs S 1 (words (o.w.drop o.refs)) pw (o.w.length - o.refs) cw → Sat (Row b5 [.int .u64 (x : Int), .int .i64 (o.tag : Int), .slice pr o.refs cr, .slice pw (o.w.length - o.refs) cw] 133 :: PlS T H2 s r d b0 b1 b2 W S F) w11 → K b5 pr cr pw cw w11) →
          LdS w6 (⟨b0, 0, none⟩) fun s60p s60l _ => IdxC s60p s60l (q : Int) 4 fun a2 => LdI .u64 w6 a2 fun n798 => LdI .i64 w6 (Addr.add a2 1) fun n799 => LdS w6 (Addr.add a2 2) fun s61p s61l s61c => LdS w6 (Addr.add a2 3) fun s62p s62l s62c =>
            NewC (.cells #[.int .u64 0, .int .i64 0, .slice none 0 0, .slice none 0 0] 133 (0, 0)) w6 fun b6 w61 => StC w61 (⟨b6, 0, none⟩) (.int .u64 n798) fun w62 => StC w62 (Addr.add (⟨b6, 0, none⟩) 1) (.int .i64 n799) fun w63 =>
            StC w63 (Addr.add (⟨b6, 0, none⟩) 2) (.slice s61p s61l s61c) fun w64 => StC w64 (Addr.add (⟨b6, 0, none⟩) 3) (.slice s62p s62l s62c) fun w65 => K b6 s61p s61c s62p s62c w65 := by
        intro H2 E w6 h6 K hK
        refine LdS.of h6 4 rfl (off := 0) rfl rfl ?_
        have hw6 := h6.has 5 rfl
        refine rd_ob hM hw6 hqx rfl fun a z hz1 hz2 hz3 hc => ?_
        obtain ⟨c0, c1, c2, c3⟩ := hc w6 hw6
        rw [hro] at c1 c2 c3 hz2
        dsimp only at c1 c2 c3
        have hyr := hz3.refs
        have hyw := hz3.words
        rw [hz2] at hyr hyw
        dsimp only at hyr hyw
        rw [lr] at c2 hyr
        rw [lw] at c3 hyw
        refine LdI.cell c0 (LdI.cell c1 (LdS.cell c2 (LdS.cell c3 ?_)))
        refine NewC.ofRow h6 fun b5 w7 h7 => ?_
        refine StC.of h7 0 rfl (off := 0) rfl rfl fun w8 h8 => ?_
        refine StC.of h8 0 rfl (off := 1) rfl (add_mk _ _ _) fun w9 h9 => ?_
        refine StC.of h9 0 rfl (off := 2) rfl (add_mk _ _ _) fun w10 h10 => ?_
        refine StC.of h10 0 rfl (off := 3) rfl (add_mk _ _ _) fun w11 h11 => ?_
        exact hK b5 _ _ _ _ w11 hyr hyw h11
      by_cases hri : 0 ≤ d.i ∧ d.i < (o.w.length : Int) - o.refs
      · as_aux_lemma =>
        have hE : Hp.wordE H x d.i = 0 := by simp only [Hp.wordE, hlk]; rw [if_pos hri]
        obtain ⟨i, hii⟩ := Int.eq_ofNat_of_zero_le hri.1
        have hS1 : Hp.setWord H x d.i d.w = H.set x (o.put (o.refs + i) d.w) := by simp only [Hp.setWord, hlk]; rw [hii, Int.toNat_natCast]
        have hP : playF T H s hs d = (H.set x (o.put (o.refs + i) d.w), s, hs) := by
          unfold playF; rw [if_neg d2, if_neg d4, if_pos d5, hx, if_pos hE, hS1]
        have hlen1 : (o.put (o.refs + i) d.w).w.length = o.w.length := by simp [Ob.put]
        have hi2 := T.inv_fin (T.inv_set (i := o.refs + i) (y := d.w) hi hm hlk)
        rw [hE, if_pos rfl, hS1] at h6
        rw [hE]
        refine ⟨_, rfl, ?_⟩
        rw [hq]
        refine cond_f (by simp) ?_
        refine go (E := 0) h6 fun b6 pr cr pw cw w11 hyr hyw h12 => ?_
        refine LdI.of h12 4 rfl (off := 3) rfl (add_mk _ _ _) ?_
        rw [hii]
        refine cond_f (by simp) ?_
        refine LdI.of h12 4 rfl (off := 3) rfl (add_mk _ _ _) (LdS.of h12 0 rfl (off := 3) rfl (add_mk _ _ _) ?_)
        rw [hii]
        refine cond_f (decide_eq_false (by omega)) ?_
        refine LdS.of h12 0 rfl (off := 3) rfl (add_mk _ _ _) ?_
        have h14 := Sat.ownNil h12 24 1
        refine RunS.appRo eok_u64 h14 0 rfl 7 rfl hyw (by omega) (by omega) fun p c w14 h15 => ?_
        rw [Nat.zero_add] at h15 ⊢
        refine StC.of h15 1 rfl (off := 3) rfl (add_mk _ _ _) fun w15 h16 => ?_
        have h16 : Sat (Own 24 1 p (o.w.length - o.refs) c (words (o.w.drop o.refs)) :: Row b6 [.int .u64 (x : Int), .int .i64 (o.tag : Int), .slice pr o.refs cr, .slice p (o.w.length - o.refs) c] 133 :: PlS T (H.set x (o.put (o.refs + i) d.w)) s r d b0 b1 b2 W S F) w15 := h16
        refine LdS.of h16 1 rfl (off := 3) rfl (add_mk _ _ _) ?_
        refine LdI.of h16 5 rfl (off := 3) rfl (add_mk _ _ _) (LdI.of h16 5 rfl (off := 5) rfl (add_mk _ _ _) ?_)
        rw [hii]
        refine IdxC.ownAt h16 0 rfl (by omega) fun g hg => ?_
        refine StC.ownAt h16 0 rfl hg (off := i * 1) (v0 := .int .u64 (o.w.getD (o.refs + i) 0 : Nat)) (by rw [Nat.mul_one]; unfold words; rw [List.getElem?_map, List.getElem?_drop, List.getD_eq_getElem?_getD, List.getElem?_eq_getElem (by omega)]; rfl) rfl fun w16 h17 => ?_
        have hset : (words (o.w.drop o.refs)).set (i * 1) (.int .u64 (d.w : Int)) = words ((o.w.drop o.refs).set i d.w) := by rw [Nat.mul_one]; simp [words, List.map_set]
        simp only [List.set_cons_zero, hset] at h17
        refine ldRh h17 6 rfl ?_
        refine LdI.of h17 1 rfl (off := 0) rfl rfl (LdI.of h17 1 rfl (off := 1) rfl (add_mk _ _ _) (LdS.of h17 1 rfl (off := 2) rfl (add_mk _ _ _) (LdS.of h17 1 rfl (off := 3) rfl (add_mk _ _ _) ?_)))
        have h18 : Sat (Own 24 1 p (o.w.length - o.refs) c (words ((o.w.drop o.refs).set i d.w)) :: Ro W S :: Row b6 [.int .u64 (x : Int), .int .i64 (o.tag : Int), .slice pr o.refs cr, .slice p (o.w.length - o.refs) c] 133 :: HeapH (H.set x (o.put (o.refs + i) d.w)) v b :: T.at_ s :: Row b2 Rh.zero.cells 44 :: Row b1 d.cells 68 :: Row b0 r.cells 44 :: F) w16 := (Sat.pull h17 7 rfl).p1
        obtain ⟨S1, hEx1, hC1, h19⟩ := Sat.freezeCRs h18 (by omega) (words_one _)
        have ls : ((o.w.drop o.refs).set i d.w).length = o.w.length - o.refs := by rw [List.length_set, lw]
        have hyR : R9R S1 ((⟨x, o.tag, o.w.take o.refs, (o.w.drop o.refs).set i d.w⟩, ⟨pr, cr, p, c⟩) : R9 × Gq) := by
          refine ⟨?_, ?_⟩
          · dsimp only; rw [lr]; exact hyr.mono hEx1
          · dsimp only; rw [ls]; exact hC1
        have hag : ragg ((⟨x, o.tag, o.w.take o.refs, (o.w.drop o.refs).set i d.w⟩, ⟨pr, cr, p, c⟩) : R9 × Gq) = .agg #[.int .u64 (x : Int), .int .i64 (o.tag : Int), .slice pr o.refs cr, .slice p (o.w.length - o.refs) c] := by
          unfold ragg; dsimp only; rw [ls, lr]
        rw [← hag]
        refine (with9_c (r := r) h19 (hM.objs.mono hEx1) rfl (by rw [List.length_map]; exact get_lt hqx) hyR).mono ?_
        rintro e w17 ⟨S2, p2, l2, c2, rfl, hEx2, hRs, h20⟩
        refine ⟨_, _, _, _, _, _, _, _, _, _, _, _, _, _, _, _, _, _, _, rfl, ?_⟩
        have h21 : Sat (HeapH (H.set x (o.put (o.refs + i) d.w)) v b :: T.at_ s :: Row b2 Rh.zero.cells 44 :: Row b1 d.cells 68 :: Row b0 r.cells 44 :: Ro W S2 :: F) w17 := by
          have a1 := (Sat.p1 h20).drop
          exact ((((a1.pull 5 rfl).pull 5 rfl).pull 5 rfl).pull 5 rfl).pull 5 rfl
        have hrx0 : ∀ u ∈ refsOf (H.set x (o.put (o.refs + i) d.w)) x, u ∈ refsOf H x ∨ u = 0 ∨ u ∈ hs := fun u hu => by
          have e1 : (o.put (o.refs + i) d.w).w.take (o.put (o.refs + i) d.w).refs = o.w.take o.refs := by simp only [Ob.put]; rw [List.take_set, List.set_eq_of_length_le (by rw [List.length_take]; omega)]
          rw [← rob_refs, rob_set hm hlk hlen1, e1] at hu
          refine .inl ?_
          rw [← rob_refs, hro]; exact hu
        have hM2 : Mir S2 (H.set x (o.put (o.refs + i) d.w)) hs (r.withL p2 l2 c2) (om.set q ((⟨x, o.tag, o.w.take o.refs, (o.w.drop o.refs).set i d.w⟩, ⟨pr, cr, p, c⟩) : R9 × Gq)) := by
          refine hM.one (q := q) (x := x) (H' := H.set x (o.put (o.refs + i) d.w)) rfl (fun z => set_isSome hm hlk hlen1 z) hqx (fun z hz => rob_set_ne hm hlk hlen1 hz) hrx0 (look_zero hm) ?_
          rw [rob_set hm hlk hlen1]
          have e1 : (o.put (o.refs + i) d.w).w.take (o.put (o.refs + i) d.w).refs = o.w.take o.refs := by simp only [Ob.put]; rw [List.take_set, List.set_eq_of_length_le (by rw [List.length_take]; omega)]
          have e2 : (o.put (o.refs + i) d.w).w.drop (o.put (o.refs + i) d.w).refs = (o.w.drop o.refs).set i d.w := by
            simp only [Ob.put]; rw [List.drop_set, if_neg (by omega)]; congr 1; omega
          rw [e1, e2]
          exact hRs
        exact play_ret2 (T := T) (r := r.withL p2 l2 c2) hP h21 (hEx1.trans hEx2) hM2 (hT.mono (hEx1.trans hEx2)) hi2 rfl
      · as_aux_lemma =>
        have hE : Hp.wordE H x d.i = 1 := by simp only [Hp.wordE, hlk]; rw [if_neg hri]
        have hP : playF T H s hs d = (H, s, hs) := by unfold playF; rw [if_neg d2, if_neg d4, if_pos d5, hx, if_neg (by rw [hE]; decide)]
        rw [hE] at h6 ⊢
        rw [if_neg (by decide)] at h6
        refine ⟨_, rfl, ?_⟩
        rw [hq]
        refine cond_f (by simp) ?_
        refine go (E := 1) h6 fun b6 pr cr pw cw w11 hyr hyw h12 => ?_
        refine LdI.of h12 4 rfl (off := 3) rfl (add_mk _ _ _) ?_
        have h13 := h12.drop
        by_cases hi0 : d.i < 0
        · exact cond_t (by simpa using hi0) (ldRh h12 5 rfl (play_ret2 (T := T) (r := r) hP h13 (Ext.refl S) hM hT hf rfl))
        · refine cond_f (by simpa using hi0) (LdI.of h12 4 rfl (off := 3) rfl (add_mk _ _ _) (LdS.of h12 0 rfl (off := 3) rfl (add_mk _ _ _) ?_))
          exact cond_t (decide_eq_true (by omega)) (ldRh h12 5 rfl (play_ret2 (T := T) (r := r) hP h13 (Ext.refl S) hM hT hf rfl))
  as_aux_lemma =>
  refine cond_f (by simpa using d5) (LdI.of h5 3 rfl (off := 0) rfl rfl ?_)
  by_cases d7 : d.d ≤ 7
  · as_aux_lemma =>
    -- a root is set
    refine cond_t (by simpa using d7) (LdI.of h5 3 rfl (off := 3) rfl (add_mk _ _ _) ?_)
    by_cases hri : 0 ≤ d.i ∧ d.i < 16
    · as_aux_lemma =>
      have hE : Hp.rootE H d.i y = 0 := by unfold Hp.rootE; rw [if_pos hri, if_pos hmy]
      obtain ⟨i, hii⟩ := Int.eq_ofNat_of_zero_le hri.1
      have hP : playF T H s hs d = ((T.lk (H.rooted i y) s y).1, (T.lk (H.rooted i y) s y).2, hs) := by
        unfold playF; rw [if_neg d2, if_neg d4, if_neg d5, if_pos d7, hy, if_pos hE, hii, Int.toNat_natCast]
      obtain ⟨g1, g2, g3⟩ := wt_link T (y := y) (T.inv_root (i := i) (x := y) hi) (rooted_wf hm hyu) hyl
      rw [hii] at hE hri ⊢
      refine (setroot_c h5 i hyu (Q := Sat (PlS T (T.lk (H.rooted i y) s y).1 (T.lk (H.rooted i y) s y).2 r d b0 b1 b2 W S F)) (fun _ w' h' => by rw [Int.toNat_natCast] at h'; exact g3 _ _ h')).mono ?_
      rintro e w6 ⟨rfl, h6⟩
      unfold Post at h6
      rw [hE, if_pos rfl] at h6
      rw [hE]
      generalize T.lk (H.rooted i y) s y = HS at h6 hP g1 g2
      obtain ⟨H2, s2⟩ := HS
      dsimp only at h6 hP g1 g2
      refine ⟨_, rfl, ?_⟩
      refine LdI.of h6 3 rfl (off := 3) rfl (add_mk _ _ _) ?_
      rw [hii]
      refine cond_f (by simp) (LdI.of h6 3 rfl (off := 3) rfl (add_mk _ _ _) ?_)
      rw [hii]
      refine cond_f (decide_eq_false (by omega)) ?_
      intro k1 hk1
      have hi16 : i < 16 := by omega
      have fin : ∀ w, Sat (PlS T H2 s2 r d b0 b1 b2 W S F) w → k1 w := by
        intro w h7
        refine hk1 _ ?_
        unfold S_law9_Play_j1
        refine LdI.of h7 3 rfl (off := 3) rfl (add_mk _ _ _) ?_
        rw [hii]
        refine IdxF.of (by omega) (by omega) ?_
        have hcell : r.cells[1 + i]? = some (.int .u64 (r.rs.getD i 0 : Nat)) := by
          unfold Rh.cells
          rw [Nat.add_comm, List.getElem?_cons_succ]
          unfold words
          rw [List.getElem?_map, List.getD_eq_getElem?_getD, List.getElem?_eq_getElem (by rw [Rh.rs_len]; exact hi16)]
          rfl
        refine StC.of h7 4 rfl (off := 1 + i) hcell (by rw [add_mk, add_mk]; simp) fun w8 h8 => ?_
        have h8 : Sat (HeapH H2 v b :: T.at_ s2 :: Row b2 Rh.zero.cells 44 :: Row b1 d.cells 68 :: Row b0 (r.cells.set (1 + i) (.int .u64 (y : Int))) 44 :: Ro W S :: F) w8 := h8
        rw [cells_root r hi16] at h8
        have hM2 : Mir S H2 hs (r.root i y) om := (hM.rooted hi16 hyn).sm g1
        exact ldRh h8 4 rfl (play_ret2 (T := T) (r := r.root i y) hP h8 (Ext.refl S) hM2 hT g2 rfl)
      by_cases hy0 : y = 0
      · exact cond_f (by simp [hy0]) (fin _ h6)
      · refine cond_t (by simpa using hy0) ?_
        refine ldRh h6 4 rfl ?_
        refine (at9_c (r := r) h6 5 rfl hM hl20 y).mono ?_
        rintro e w12 ⟨rfl, h13⟩
        refine ⟨_, rfl, ?_⟩
        have hyin : y ∈ hs := hyn (hyl.resolve_left hy0)
        exact cond_f (by simpa using fun hh => numI_neg.1 hh hyin) (fin _ h13)
    · as_aux_lemma =>
      have hE : Hp.rootE H d.i y = 1 := by unfold Hp.rootE; rw [if_neg hri]
      have hP : playF T H s hs d = (H, s, hs) := by unfold playF; rw [if_neg d2, if_neg d4, if_neg d5, if_pos d7, hy, if_neg (by rw [hE]; decide)]
      refine (setroot_c h5 d.i hyu (Q := fun _ => True) (fun h => by rw [hE] at h; cases h)).mono ?_
      rintro e w6 ⟨rfl, h6⟩
      unfold Post at h6
      rw [hE, if_neg (by decide)] at h6
      have h6 : Sat (PlS T H s r d b0 b1 b2 W S F) w6 := h6
      rw [hE]
      refine ⟨_, rfl, ?_⟩
      refine LdI.of h6 3 rfl (off := 3) rfl (add_mk _ _ _) ?_
      by_cases hi0 : d.i < 0
      · exact cond_t (by simpa using hi0) (play_ret hP h6 (Ext.refl S) hM hT hf rfl)
      · refine cond_f (by simpa using hi0) (LdI.of h6 3 rfl (off := 3) rfl (add_mk _ _ _) ?_)
        exact cond_t (decide_eq_true (by omega)) (play_ret hP h6 (Ext.refl S) hM hT hf rfl)
  -- it is asked
  as_aux_lemma =>
  refine cond_f (by simpa using d7) ?_
  have hP : playF T H s hs d = (H, s, hs) := by unfold playF; rw [if_neg d2, if_neg d4, if_neg d5, if_neg d7]
  have h6 := h5.drew
  generalize w5.drew = w6 at h6
  refine ⟨fun w => Sat (PlS T H s r d b0 b1 b2 W S F) w, h6, ?_⟩
  refine qRh (r := r) (b := b0) (T := 44) (fun w hw => ⟨_, Sat.pull hw 4 rfl⟩) ?_
  refine qRh (r := r) (b := b0) (T := 44) (fun w hw => ⟨_, Sat.pull hw 4 rfl⟩) ?_
  refine LdIQ.row (fun w hw => ⟨_, Sat.pull hw 3 rfl⟩) (off := 3) rfl (add_mk _ _ _) ?_
  refine (asks_c (r := r) h6 4 rfl hM hl20 hxu' hxin d.i).mono ?_
  rintro e w7 ⟨rfl, h7⟩
  refine ⟨_, rfl, h7, ?_⟩
  exact play_ret2 (T := T) (r := r) hP h7 (Ext.refl S) hM hT hf rfl
end
end Go.Proofs.Ytdfdmboljidhnaa
