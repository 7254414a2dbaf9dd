
/- 'TreeRoom' answers true: with as many words and slots free as Need says nothing is refused; refused, nothing is changed; a tree takes no more words than it may. No conditions. -/
import Derived.Test.YtpicofkhioalkaaGreatZc
import Derived.Test.YtpicofkhioalkaaGreatDg
set_option maxRecDepth 100000
namespace Go.Proofs.YtpicofkhioalkaaGreat
open Go Go.Lw Go.Wd Go.Am Go.Tb Go.Hm Go.Kd Go.Td Go.ChangeShapes Go.WideShapes Go.ChangeAt Go.RowKit
theorem need_c (n : Nat) (hn : n ≤ 1000000) (w : World) : Calls Tryz.prog 17 #[.int .i64 (n : Int)] w fun e w' => e = .returned (.int .i64 ((600 + n / 8 : Nat) : Int)) ∧ w' = w := by
  refine S_tree_Need_ok _ _ _ ?_
  unfold S_tree_Need
  refine ⟨by omega, ?_, rfl⟩
  have e1 : iMax 0 (n : Int) = (n : Int) := by unfold iMax; split <;> omega
  rw [e1, show Int.tdiv (n : Int) 8 = ((n / 8 : Nat) : Int) from tdiv_nat n 8, wrapI64 (n := ((n / 8 : Nat) : Int)) (by omega) (by omega), wrapI64 (by omega) (by omega)]
  congr 2
section
variable {n k c t r x2 ro mv b cb mb : Nat} {H : Hp} {xs us : List Nat} {es : List Ent} {F : List HP} {w : World}
/-- a full collection. -/
theorem rfull_c (h : Rt n k H c t r x2 xs es us) (hs : Sat (HeapH H .nilIface b :: CoR b cb mb 0 ro mv :: MkH b mb [] false :: F) w) (hc : c ≤ 1000000) (hro : ro ≤ 1000000) (hmv : mv ≤ 1048576 * 1000000) :
    Calls Tryz.prog 27 #[.pointer (some ⟨cb, 0, none⟩)] w fun e w' => ∃ (d : Int) (H' : Hp) (mv' : Nat), e = .returned (.tuple #[.int .i64 d, .int .i64 0]) ∧ Rt n k H' c t r x2 xs es us ∧ 8 * H'.m.top ≤ 192 + 128 + 72 * es.length + bytesE es ∧ mv' ≤ mv + 1048576 ∧
      Sat (HeapH H' .nilIface b :: CoR b cb mb 0 (ro + 1) mv' :: MkH b mb [] false :: F) w' := by
  have hm := sat_wf hs
  have hB : 2 * c + 2 < 4294967296 := by omega
  have ci : Ci (2 * c) ⟨H, [], 0, ro, mv⟩ := ci_new hm h.j.1 h.j.2.2 h.j.2.1 ro mv
  have h7 : Sat (CL ⟨H, [], 0, ro, mv⟩ b cb mb F) w := hs
  have hb1 : roB ⟨H, [], 0, ro, mv⟩ = ro := by unfold roB; rw [if_pos rfl, Nat.add_zero]
  have hb2 : mvB ⟨H, [], 0, ro, mv⟩ = mv := by unfold mvB; rw [if_pos rfl, Nat.add_zero]
  refine (sfull_c h7 hB ci pkc_zero (by rw [hb1]; omega) (by rw [hb2]; omega)).mono ?_
  rintro e w7 ⟨rfl, h8⟩
  have hf : Fl (2 * c) H (fullC ⟨H, [], 0, ro, mv⟩) := fl_of (c := ⟨H, [], 0, ro, mv⟩) hB ci rfl (Less.refl _)
  have hr : (fullC ⟨H, [], 0, ro, mv⟩).ro = ro + 1 := end_ro (start_ok ci rfl).ci (by show 1 ≠ 0; decide)
  have hv : (fullC ⟨H, [], 0, ro, mv⟩).mv ≤ mv + 1048576 := by
    have s1 := start_ok ci rfl
    have a1 := (mvB_end hB s1.ci).1
    have a2 := objs_le s1.ci.wf
    have e : mvB (startC ⟨H, [], 0, ro, mv⟩) = mv + ((startC ⟨H, [], 0, ro, mv⟩).H.m.low.length + (startC ⟨H, [], 0, ro, mv⟩).H.m.high.length) := rfl
    have e2 : fullC ⟨H, [], 0, ro, mv⟩ = endC (startC ⟨H, [], 0, ro, mv⟩) := rfl
    rw [e2]
    omega
  generalize fullC ⟨H, [], 0, ro, mv⟩ = f at h8 hf hr hv
  obtain ⟨g1, g2⟩ := h.full hm hf
  have hwd := h.words hm
  have hst := (hf.ci.ph0 hf.ph).1
  obtain ⟨H1, st, ph, ro1, mv1⟩ := f
  have hph : ph = 0 := hf.ph
  dsimp only at hr hv hst g1 g2
  subst hph hst hr
  have h9 : Sat (HeapH H1 .nilIface b :: CoR b cb mb 0 (ro + 1) mv1 :: MkH b mb [] false :: F) w7 := h8
  exact ⟨_, H1, mv1, rfl, g1, by rw [g2]; exact hwd, hv, h9⟩
/-- put or taken: the heap and the model's list. -/
def roomDeed (tp xp : Option Addr) (b b0 : Nat) (lp : Option Addr) (ll lc : Nat) (w15 : World) (k1 : Option Addr → Nat → Nat → Int → World → Prop) : Prop :=
  LdI .i64 w15 (⟨b0, 0, none⟩) fun n3 =>
  cond (decide (n3 ≤ 3))
  (∃ C0 : World → Prop, C0 (World.drew w15) ∧
  IdxC tp 1 0 1 fun a1 =>
  LdIQ .u64 C0 a1 fun n4 =>
  LdSQ C0 (Addr.add (⟨b0, 0, none⟩) 3) fun s3p s3l s3c =>
  IdxC xp 5 2 1 fun a2 =>
  LdIQ .u64 C0 a2 fun n5 =>
  Calls Tryz.prog 11 #[.pointer (some ⟨b, 0, none⟩), .int .u64 n4, .slice s3p s3l s3c, .int .u64 n5] (World.drew w15) fun e10 w16 =>
  ∃ (r13 : Int), ∃ (r14 : Bool), ∃ (r15 : Int), e10 = .returned (.tuple #[.int .u64 r13, .bool r14, .int .i64 r15]) ∧
  ∃ C1 : World → Prop, C1 (World.drew w16) ∧
  LdSQ C1 (Addr.add (⟨b0, 0, none⟩) 3) fun s4p s4l s4c =>
  RunStrQ Tryz.prog C1 (convert 28 9 (.slice s4p s4l s4c)) fun t0 =>
  IdxC xp 5 2 1 fun a3 =>
  LdIQ .u64 C1 a3 fun n6 =>
  Calls Tryz.prog 18 #[.slice lp ll lc, .string t0, .int .u64 n6] (World.drew w16) fun e11 w17 =>
  ∃ (r16p : Option Addr), ∃ (r16l : Nat), ∃ (r16c : Nat), ∃ (r17 : Int), ∃ (r18 : Bool), e11 = .returned (.tuple #[.slice r16p r16l r16c, .int .u64 r17, .bool r18]) ∧
  C1 w17 ∧
  k1 r16p r16l r16c r15 w17)
  (∃ C2 : World → Prop, C2 (World.drew w15) ∧
  IdxC tp 1 0 1 fun a4 =>
  LdIQ .u64 C2 a4 fun n7 =>
  LdSQ C2 (Addr.add (⟨b0, 0, none⟩) 3) fun s5p s5l s5c =>
  Calls Tryz.prog 10 #[.pointer (some ⟨b, 0, none⟩), .int .u64 n7, .slice s5p s5l s5c] (World.drew w15) fun e12 w18 =>
  ∃ (r19 : Int), ∃ (r20 : Bool), ∃ (r21 : Int), e12 = .returned (.tuple #[.int .u64 r19, .bool r20, .int .i64 r21]) ∧
  LdS w18 (Addr.add (⟨b0, 0, none⟩) 3) fun s6p s6l s6c =>
  RunStr Tryz.prog (convert 28 9 (.slice s6p s6l s6c)) w18 fun t1 =>
  Calls Tryz.prog 20 #[.slice lp ll lc, .string t1] w18 fun e13 w19 =>
  ∃ (r22p : Option Addr), ∃ (r22l : Nat), ∃ (r22c : Nat), ∃ (r23 : Int), ∃ (r24 : Bool), e13 = .returned (.tuple #[.slice r22p r22l r22c, .int .u64 r23, .bool r24]) ∧
  k1 r22p r22l r22c r21 w19)
/-- what lies in memory. -/
abbrev RmL (H : Hp) (b cb mb ro mv t : Nat) (tp : Option Addr) (tc : Nat) (xs : List Nat) (xp : Option Addr) (xc : Nat) (lp : Option Addr) (ll lc : Nat) (l : KV) (W : World) : List HP :=
  HeapH H .nilIface b :: CoR b cb mb 0 ro mv :: MkH b mb [] false :: Own 32 1 tp 1 tc (words [t]) :: Own 32 1 xp 5 xc (words xs) :: Own 49 2 lp ll lc (entsV l) :: [Ro W (Mem.of W)]
/-- the deed's own row. -/
abbrev rowD (d : Dd) (kp : Option Addr) (kc : Nat) : List Value := [.int .i64 d.do_, .int .i64 d.tr, .int .i64 d.x, .slice kp d.k.length kc]
set_option maxHeartbeats 2000000 in
theorem roomDeed_c {W : World} {d : Dd} {kp tp xp lp : Option Addr} {kc tc xc lc b0 : Nat} {k1 : Option Addr → Nat → Nat → Int → World → Prop} (h : Rt n k H c t r x2 xs es us) (hx2 : xs[2]? = some x2) (hkl : d.k.length ≤ 200) (hes : es.length ≤ 1000)
    (hkp : d.k ≠ [] → ∃ b, kp = some b) (hkr : ∀ w, Has (Mem.of W) w → Reads w kp (bytesV d.k))
    (hs : Sat (HeapH H .nilIface b :: Row b0 (rowD d kp kc) 30 :: CoR b cb mb 0 ro mv :: MkH b mb [] false :: Own 32 1 tp 1 tc (words [t]) :: Own 32 1 xp 5 xc (words xs) :: Own 49 2 lp (kv es).length lc (entsV (kv es)) :: [Ro W (Mem.of W)]) w)
    (hok : ∀ (H' : Hp) (c' : Nat) (es' : List Ent) (us' : List Nat) np nc w', Rt n k H' c' t r x2 xs es' us' → c' ≤ c + 10 → es'.length ≤ es.length + 1 → Sat (RmL H' b cb mb ro mv t tp tc xs xp xc np (kv es').length nc (kv es') W) w' → k1 np (kv es').length nc 0 w')
    (hno : ∀ np nl nc w', (∃ D, D ≤ 8 ∧ Hp.room H (26 * (D + 1) + 3 + d.k.length / 8) (D + 2) = false) → Sat (RmL H b cb mb ro mv t tp tc xs xp xc lp (kv es).length lc (kv es) W) w' → k1 np nl nc 5 w') :
    roomDeed tp xp b b0 lp (kv es).length lc w k1 := by
  have hm := sat_wf hs
  have hsr := srt_kv.1 h.tree.srt
  have hlk := kv_len es
  have hT := h.trs b
  obtain ⟨A, o, C, hcut⟩ := cut_of d.k hsr
  have hxl := h.xlive h.x2
  have hkey : ∀ p ∈ kv es, p.1.length ≤ 200 := h.key
  have hval := h.val
  unfold roomDeed
  refine LdI.of hs 1 rfl (off := 0) rfl rfl ?_
  by_cases hdo : d.do_ ≤ 3
  · refine cond_t (by simpa using hdo) ?_
    refine ⟨fun w' => ∃ T, Sat (Row b0 (rowD d kp kc) 30 :: Own 32 1 tp 1 tc (words [t]) :: Own 32 1 xp 5 xc (words xs) :: T) w', ⟨_, Sat.pull (Sat.pull (Sat.pull hs.drew 5 rfl) 5 rfl) 3 rfl⟩, ?_⟩
    refine own_wordQ hs 4 rfl (fun w ⟨T, h⟩ => ⟨_, 1, h, rfl⟩) rfl (j := 0) rfl rfl ?_
    refine ⟨_, _, _, fun w' ⟨T, h⟩ => LdS.of h 0 rfl (off := 3) rfl (add_mk _ _ _) rfl, ?_⟩
    refine own_wordQ hs 5 rfl (fun w ⟨T, h⟩ => ⟨_, 2, h, rfl⟩) h.xl.symm hx2 rfl ?_
    -- the model's list
    have put : ∀ {H' : Hp} {e15 : Int} {w16 : World}, Sat (HeapH H' .nilIface b :: Row b0 (rowD d kp kc) 30 :: CoR b cb mb 0 ro mv :: MkH b mb [] false :: Own 32 1 tp 1 tc (words [t]) :: Own 32 1 xp 5 xc (words xs) :: Own 49 2 lp (kv es).length lc (entsV (kv es)) :: [Ro W (Mem.of W)]) w16 →
        (∀ np nc w', Sat (RmL H' b cb mb ro mv t tp tc xs xp xc np (A ++ (d.k, x2) :: C).length nc (A ++ (d.k, x2) :: C) W) w' → Sat (RmL H' b cb mb ro mv t tp tc xs xp xc lp (kv es).length lc (kv es) W) w' → k1 np (A ++ (d.k, x2) :: C).length nc e15 w') →
        ∃ C1 : World → Prop, C1 (World.drew w16) ∧ LdSQ C1 (Addr.add (⟨b0, 0, none⟩) 3) fun s4p s4l s4c =>
        RunStrQ Tryz.prog C1 (convert 28 9 (.slice s4p s4l s4c)) fun t0 => IdxC xp 5 2 1 fun a3 => LdIQ .u64 C1 a3 fun n6 =>
        Calls Tryz.prog 18 #[.slice lp (kv es).length lc, .string t0, .int .u64 n6] (World.drew w16) fun e11 w17 =>
        ∃ (r16p : Option Addr), ∃ (r16l : Nat), ∃ (r16c : Nat), ∃ (r17 : Int), ∃ (r18 : Bool), e11 = .returned (.tuple #[.slice r16p r16l r16c, .int .u64 r17, .bool r18]) ∧ C1 w17 ∧ k1 r16p r16l r16c e15 w17 := by
      intro H' e15 w16 g hk
      refine ⟨fun w' => ∃ T, Sat (Row b0 (rowD d kp kc) 30 :: Own 32 1 xp 5 xc (words xs) :: Ro W (Mem.of W) :: T) w', ⟨_, Sat.pull (Sat.pull (Sat.pull g.drew 7 rfl) 6 rfl) 3 rfl⟩, ?_⟩
      refine ⟨_, _, _, fun w' ⟨T, h⟩ => LdS.of h 0 rfl (off := 3) rfl (add_mk _ _ _) rfl, ?_⟩
      refine ⟨str d.k, fun w' ⟨T, h⟩ => ?_, ?_⟩
      · obtain ⟨bb, hb1, hb2⟩ := (RdB.arg (F := Row b0 (rowD d kp kc) 30 :: Own 32 1 xp 5 xc (words xs) :: Ro W (Mem.of W) :: T) 2 rfl hkp hkr).run h (l := d.k.length) (c := kc) rfl (Q := fun b => b = str d.k) rfl
        rw [hb1, hb2]
      refine own_wordQ g 5 rfl (fun w ⟨T, h⟩ => ⟨_, 1, h, rfl⟩) h.xl.symm hx2 rfl ?_
      refine (lput_c g.drew rfl (RdE.own 6 rfl (ent_some g.drew (k := 6) rfl rfl)) (by omega) hcut hsr).mono ?_
      rintro e w17 ⟨np, nc, old, had, rfl, _, h17⟩
      refine ⟨_, _, _, _, _, rfl, ⟨_, Sat.pull (Sat.pull (Sat.pull h17 8 rfl) 7 rfl) 4 rfl⟩, ?_⟩
      have h18 := h17.del 2 rfl
      refine hk np nc w17 ?_ h18.drop
      exact Sat.pull (Sat.pull (Sat.pull (Sat.pull (Sat.pull (h18.del 6 rfl) 5 rfl) 5 rfl) 5 rfl) 5 rfl) 5 rfl
    obtain ⟨D, y, hD8, ho⟩ := depth_le h.tree (by omega)
    cases hroom : Hp.room H (26 * (D + 1) + 3 + d.k.length / 8) (D + 2) with
    | false =>
      have hfx : ∃ i, H.t.find x2 = some i := by
        cases hf : H.t.find x2 with
        | some i => exact ⟨i, rfl⟩
        | none =>
          rw [(look_none hm).2 hf] at hxl
          cases hxl
      refine (fput_c hs.drew ho (by omega) kp kc (by omega) (.inr hfx) (by
        cases hl : H.look x2 with
        | none => rw [hl] at hxl; cases hxl
        | some o => exact look_lt hm hl) hroom).mono ?_
      rintro e w16 ⟨rfl, h16⟩
      refine ⟨_, _, _, rfl, put h16 fun np nc w' _ h' => ?_⟩
      exact hno _ _ _ _ ⟨D, hD8, hroom⟩ h'
    | true =>
      refine (ePut_c (E := engJ keepsG b) (toS keepsG hs.drew) h.j hT (by omega) (key := d.k) (by omega) rfl (RdB.arg 6 rfl hkp hkr) (.inr hxl) ⟨_, _, ho⟩ hroom).mono ?_
      rintro e w16 ⟨s', es', us', k', m', old, had, A', o', C', rfl, c1, c2, c3, c4, c5, c6, c7, h16⟩
      obtain ⟨rfl, rfl, rfl⟩ := cut_inj hcut c1 hsr
      refine ⟨_, _, _, rfl, put (ofS keepsG h16) fun np nc w' h' _ => ?_⟩
      rw [← c2] at h' ⊢
      have e1 : es'.length = (A' ++ (d.k, x2) :: C').length := by rw [← c2, kv_len]
      have e2 : es.length = (A' ++ o' ++ C').length := by rw [← c1.eq, kv_len]
      refine hok s'.1 (c + k') es' us' np nc w' (h.step c4 c5 ?_ ?_) (by omega) (by simp at e1 e2; omega) h'
      · intro z hz
        rw [c2] at hz
        rcases List.mem_append.1 hz with hz | hz
        · exact hval z (by rw [c1.eq]; simp [hz])
        · rcases List.mem_cons.1 hz with rfl | hz
          · rfl
          · exact hval z (by rw [c1.eq]; simp [hz])
      · intro z hz
        rw [c2] at hz
        rcases List.mem_append.1 hz with hz | hz
        · exact hkey z (by rw [c1.eq]; simp [hz])
        · rcases List.mem_cons.1 hz with rfl | hz
          · exact hkl
          · exact hkey z (by rw [c1.eq]; simp [hz])
  · refine cond_f (by simpa using hdo) ?_
    refine ⟨fun w' => ∃ T, Sat (Row b0 (rowD d kp kc) 30 :: Own 32 1 tp 1 tc (words [t]) :: T) w', ⟨_, Sat.pull (Sat.pull hs.drew 4 rfl) 2 rfl⟩, ?_⟩
    refine own_wordQ hs 4 rfl (fun w ⟨T, h⟩ => ⟨_, 1, h, rfl⟩) rfl (j := 0) rfl rfl ?_
    refine ⟨_, _, _, fun w' ⟨T, h⟩ => LdS.of h 0 rfl (off := 3) rfl (add_mk _ _ _) rfl, ?_⟩
    refine (eTake_c (E := engJ keepsG b) (toS keepsG hs.drew) h.j hT (by omega) (key := d.k) (by omega) rfl (RdB.arg 6 rfl hkp hkr)).mono ?_
    rintro e w16 ⟨s', es', us', old, had, A', o', C', rfl, c1, c2, c3, c4, c5, h16⟩
    obtain ⟨rfl, rfl, rfl⟩ := cut_inj hcut c1 hsr
    have h16 := ofS keepsG h16
    refine ⟨_, _, _, rfl, ?_⟩
    refine LdS.of h16 1 rfl (off := 3) rfl (add_mk _ _ _) ?_
    refine (RdB.arg (F := _) 7 rfl hkp hkr).run h16 rfl ?_
    refine (ltake_c h16 rfl (RdE.own 6 rfl (ent_some h16 (k := 6) rfl rfl)) (by omega) hcut).mono ?_
    rintro e w17 ⟨np, nc, old', had', rfl, _, h17⟩
    refine ⟨_, _, _, _, _, rfl, ?_⟩
    rw [← c2] at h17 ⊢
    have e1 : es'.length = (A' ++ C').length := by rw [← c2, kv_len]
    have e2 : es.length = (A' ++ o' ++ C').length := by rw [← c1.eq, kv_len]
    refine hok s'.1 (c + 0) es' us' np nc w17 (h.step c4 c5 ?_ ?_) (by omega) (by simp at e1 e2; omega) ?_
    · intro z hz
      rw [c2] at hz
      rcases List.mem_append.1 hz with hz | hz <;> exact hval z (by rw [c1.eq]; simp [hz])
    · intro z hz
      rw [c2] at hz
      rcases List.mem_append.1 hz with hz | hz <;> exact hkey z (by rw [c1.eq]; simp [hz])
    · have h18 := (h17.del 2 rfl).del 6 rfl
      exact Sat.pull (Sat.pull (Sat.pull (Sat.pull (Sat.pull h18 5 rfl) 5 rfl) 5 rfl) 5 rfl) 5 rfl
end
def bytesK (l : KV) : Nat := (l.map fun p => p.1.length).sum
theorem bytesK_kv (es : List Ent) : bytesK (kv es) = bytesE es := by simp [bytesK, bytesE, kv, Function.comp_def]
theorem bytesK_take {l : KV} {i : Nat} {p : K × Nat} (h : l[i]? = some p) : bytesK (l.take (i + 1)) = bytesK (l.take i) + p.1.length := by
  rw [List.take_add_one, h]
  simp [bytesK]
theorem bytesK_le : ∀ {l : KV}, (∀ p ∈ l, p.1.length ≤ 200) → bytesK l ≤ 200 * l.length
  | [], _ => by simp [bytesK]
  | p :: l, h => by
    have h1 := h p List.mem_cons_self
    have h2 := bytesK_le fun q hq => h q (List.mem_cons_of_mem _ hq)
    simp only [bytesK, List.map_cons, List.sum_cons, List.length_cons] at h2 ⊢
    omega
set_option maxHeartbeats 4000000 in
theorem room_c (W : World) {p1 : Option Addr} {l1 c1 : Nat} {D : List Dd} (hz : ArgD W p1 l1 D) (words0 : Int) : Calls Tryz.prog 6 #[.slice p1 l1 c1, .int .i64 words0] W (Ret (.bool true) (Go.RowKit.Below W.heap.size W)) := by
  have hll : l1 = D.length := hz.1
  subst hll
  refine S_law13_TreeRoom_ok _ _ _ _ _ _ ?_
  unfold S_law13_TreeRoom
  have hb0 : Sat [Ro W (Mem.of W)] W := Sat.ofBase W
  refine (awake13_c hb0).mono ?_
  rintro e w0 ⟨rfl, h0⟩
  refine ⟨_, rfl, cond_f rfl ?_⟩
  by_cases hD : D.length ≤ 200
  rotate_left
  · exact cond_t (by simp; omega) ⟨rfl, h0.roBelow 0 rfl (Ext.refl _)⟩
  refine cond_f (by simp; omega) ?_
  obtain ⟨a0, ha0, hae0⟩ := bAnd_le words0 8191 (by omega)
  have hae0 : bAnd .i64 words0 8191 = (a0 : Int) := hae0
  have hn0 : IntKind.wrap .i64 (2000 + bAnd .i64 words0 8191) = ((2000 + a0 : Nat) : Int) := by rw [hae0, wrapI64 (by omega) (by omega)]; omega
  rw [hn0]
  refine (ground_c keepsG (n := 2000 + a0) (k := 4000) (m := 1) (by omega) (by omega) (by omega) (by omega) (by omega) h0).mono ?_
  rintro e w1 ⟨b, H0, ts, xs, r, tp, xp, tc, xc, g, hts, hxs, rfl, h1⟩
  refine ⟨_, _, _, _, _, _, _, _, rfl, cond_f rfl ?_⟩
  obtain ⟨t, rfl⟩ : ∃ t, ts = [t] := List.length_eq_one_iff.1 hts
  obtain ⟨x2, hx2⟩ : ∃ x, xs[2]? = some x := ⟨_, List.getElem?_eq_getElem (by omega)⟩
  refine (snew_c h1).mono ?_
  rintro e w2 ⟨cb, mb, rfl, h2⟩
  refine ⟨_, rfl, ?_⟩
  have h2 : Sat (HeapH H0 .nilIface b :: CoR b cb mb 0 0 0 :: MkH b mb [] false :: Own 32 1 tp 1 tc (words [t]) :: Own 32 1 xp 5 xc (words xs) :: [Ro W (Mem.of W)]) w2 := h2
  have rt0 := gnd_rt (ts := []) g hxs (List.mem_of_getElem? hx2)
  refine ⟨fun lp ll lc i w' => ∃ (j ro mv c : Nat) (H : Hp) (es : List Ent) (us : List Nat), i = j ∧ j ≤ D.length ∧ Rt (2000 + a0) 4000 H c t r x2 xs es us ∧ es.length ≤ j ∧ c ≤ 7 + 10 * j ∧ ro ≤ j ∧ mv ≤ 1048576 * j ∧ ll = (kv es).length ∧
      Sat (RmL H b cb mb ro mv t tp tc xs xp xc lp ll lc (kv es) W) w', fun _ _ _ i _ => ((D.length : Int) - i).toNat,
    ⟨0, 0, 0, 7, H0, [], [t], rfl, by omega, rt0, by simp, by omega, by omega, by omega, rfl, ?_⟩, ?_⟩
  · exact Sat.pull (Sat.pull (Sat.pull (Sat.pull (Sat.pull (Sat.ownNil h2 49 2) 5 rfl) 5 rfl) 5 rfl) 5 rfl) 5 rfl
  clear g h2 h1 h0 hb0 rt0
  rintro lp ll lc i w3 ⟨j, ro, mv, c, H, es, us, rfl, hj, rt, hel, hc, hro, hmv, rfl, h3⟩
  unfold S_law13_TreeRoom_l1
  have hkl := kv_len es
  have hkey : ∀ a ∈ kv es, a.1.length ≤ 16383 := fun a ha => by have := rt.key a ha; omega
  have hes6 : es.length ≤ 1000000 := by omega
  by_cases hlt : j < D.length
  · refine cond_t (by simp; omega) ?_
    intro k0 hk0
    obtain ⟨d, hd⟩ : ∃ d, D[j]? = some d := ⟨_, List.getElem?_eq_getElem hlt⟩
    obtain ⟨ad, kp, kc, hI, r0, r1, r2, r3, hkp, hkr⟩ := hz.at hd
    have next : ∀ (H' : Hp) (ro' mv' c' : Nat) (es' : List Ent) (us' : List Nat) np nc w', Rt (2000 + a0) 4000 H' c' t r x2 xs es' us' → es'.length ≤ j + 1 → c' ≤ 7 + 10 * (j + 1) → ro' ≤ j + 1 → mv' ≤ 1048576 * (j + 1) →
        Sat (RmL H' b cb mb ro' mv' t tp tc xs xp xc np (kv es').length nc (kv es') W) w' → k0 np (kv es').length nc w' := by
      intro H' ro' mv' c' es' us' np nc w' g1 g2 g3 g4 g5 g6
      refine hk0 _ _ _ _ ?_
      unfold S_law13_TreeRoom_j2
      exact ⟨⟨j + 1, ro', mv', c', H', es', us', by rw [wrapI64 (by omega) (by omega)]; omega, by omega, g1, g2, g3, g4, g5, rfl, g6⟩, by rw [wrapI64 (by omega) (by omega)]; dsimp only; omega⟩
    refine hI _ _ rfl (LdI.at (r0 _ (h3.has 6 rfl)) (LdI.at (r1 _ (h3.has 6 rfl)) (LdI.at (r2 _ (h3.has 6 rfl)) (LdS.at (r3 _ (h3.has 6 rfl)) ?_))))
    refine NewC.ofRow h3 fun b0 w4 h4 => ?_
    refine StC.of h4 0 rfl (off := 0) rfl rfl fun w5 h5 => StC.of h5 0 rfl (off := 1) rfl (add_mk _ _ _) fun w6 h6 => StC.of h6 0 rfl (off := 2) rfl (add_mk _ _ _) fun w7 h7 => StC.of h7 0 rfl (off := 3) rfl (add_mk _ _ _) fun w8 h8 => ?_
    have g8 : Sat (HeapH H .nilIface b :: Row b0 (rowD d kp kc) 30 :: CoR b cb mb 0 ro mv :: MkH b mb [] false :: Own 32 1 tp 1 tc (words [t]) :: Own 32 1 xp 5 xc (words xs) :: Own 49 2 lp (kv es).length lc (entsV (kv es)) :: [Ro W (Mem.of W)]) w8 := Sat.pull h8 1 rfl
    clear h3 h4 h5 h6 h7 h8
    refine LdS.of g8 1 rfl (off := 3) rfl (add_mk _ _ _) ?_
    by_cases hlong : 200 < d.k.length
    · exact cond_t (by simp; omega) (next H ro mv c es us lp lc w8 rt (by omega) (by omega) (by omega) (by omega) (g8.del 1 rfl))
    refine cond_f (by simp; omega) ?_
    have hm := sat_wf g8
    have hcl := count_le hm.tab
    have ham := hm.am.top
    have ham2 := hm.am.most
    have htn := hm.tab.most
    refine (harena_c g8).mono ?_
    rintro e w9 ⟨rfl, ba, bt, rfl, h9⟩
    refine ⟨_, rfl, ?_⟩
    refine (free2 (h9.pull 1 rfl)).mono ?_
    rintro e w10 ⟨rfl, h10⟩
    have g10 := heap_shut hm (Sat.p1 h10)
    refine ⟨_, rfl, ?_⟩
    refine (htable_c g10).mono ?_
    rintro e w11 ⟨rfl, ba, bt, rfl, h11⟩
    refine ⟨_, rfl, ?_⟩
    refine (slots_c (h11.pull 2 rfl)).mono ?_
    rintro e w12 ⟨rfl, rfl⟩
    refine ⟨_, rfl, ?_⟩
    refine (htable_c (heap_shut hm h11)).mono ?_
    rintro e w13 ⟨rfl, ba, bt, rfl, h13⟩
    refine ⟨_, rfl, ?_⟩
    refine (count_c (h13.pull 2 rfl)).mono ?_
    rintro e w14 ⟨rfl, rfl⟩
    refine ⟨_, rfl, ?_⟩
    have g14 := heap_shut hm h13
    refine LdS.of g14 1 rfl (off := 3) rfl (add_mk _ _ _) ?_
    refine (need_c d.k.length (by omega) _).mono ?_
    rintro e w15 ⟨rfl, rfl⟩
    refine ⟨_, rfl, ?_⟩
    -- refused: nothing is changed; collected, and all is there still
    have no : ∀ w', Sat (RmL H b cb mb ro mv t tp tc xs xp xc lp (kv es).length lc (kv es) W) w' → IdxC tp 1 0 1 fun a5 => LdI .u64 w' a5 fun n8 =>
        Calls Tryz.prog 19 #[.pointer (some ⟨b, 0, none⟩), .int .u64 n8, .slice lp (kv es).length lc] w' fun e15 w21 => ∃ (r25 : Bool), e15 = .returned (.bool r25) ∧
        cond (!r25) (Ret (.bool true) (Go.RowKit.Below W.heap.size W) (.returned (.bool false)) w21)
        (Calls Tryz.prog 27 #[.pointer (some ⟨cb, 0, none⟩)] w21 fun e16 w22 => ∃ (r26 : Int), ∃ (r27 : Int), e16 = .returned (.tuple #[.int .i64 r26, .int .i64 r27]) ∧
        cond (r27 != 0) (Ret (.bool true) (Go.RowKit.Below W.heap.size W) (.returned (.bool false)) w22)
        (IdxC tp 1 0 1 fun a6 => LdI .u64 w22 a6 fun n9 =>
        Calls Tryz.prog 19 #[.pointer (some ⟨b, 0, none⟩), .int .u64 n9, .slice lp (kv es).length lc] w22 fun e17 w23 => ∃ (r28 : Bool), e17 = .returned (.bool r28) ∧
        cond (!r28) (Ret (.bool true) (Go.RowKit.Below W.heap.size W) (.returned (.bool false)) w23) (k0 lp (kv es).length lc w23))) := by
      intro w' h'
      refine own_word h' 3 rfl rfl (j := 0) rfl rfl ?_
      refine (holds_c h' rt.tree hes6 hkey rfl (RdE.own 4 rfl (ent_some h' (k := 5) rfl rfl))).mono ?_
      rintro e w21 ⟨rfl, h21⟩
      refine ⟨_, rfl, cond_f rfl ?_⟩
      refine (rfull_c rt h21 (by omega) (by omega) (by omega)).mono ?_
      rintro e w22 ⟨dd, H', mv', rfl, rt', _, hmv', h22⟩
      refine ⟨_, _, rfl, cond_f rfl ?_⟩
      refine own_word h22 3 rfl rfl (j := 0) rfl rfl ?_
      refine (holds_c h22 rt'.tree hes6 hkey rfl (RdE.own 4 rfl (ent_some h22 (k := 5) rfl rfl))).mono ?_
      rintro e w23 ⟨rfl, h23⟩
      exact ⟨_, rfl, cond_f rfl (next H' (ro + 1) mv' c es us lp lc w23 rt' (by omega) (by omega) (by omega) (by omega) h23)⟩
    have yes : ∀ (H' : Hp) (c' : Nat) (es' : List Ent) (us' : List Nat) np nc w', Rt (2000 + a0) 4000 H' c' t r x2 xs es' us' → c' ≤ c + 10 → es'.length ≤ es.length + 1 → Sat (RmL H' b cb mb ro mv t tp tc xs xp xc np (kv es').length nc (kv es') W) w' → k0 np (kv es').length nc w' :=
      fun H' c' es' us' np nc w' g1 g2 g3 g4 => next H' ro mv c' es' us' np nc w' g1 (by omega) (by omega) (by omega) (by omega) g4
    by_cases hen : 600 + d.k.length / 8 ≤ H.m.n - H.m.top
    · refine cond_t (by simp; omega) ?_
      intro k1 hk1
      show roomDeed tp xp b b0 lp (kv es).length lc _ k1
      refine roomDeed_c rt hx2 (by omega) (by omega) hkp hkr g14 (fun H' c' es' us' np nc w' g1 g2 g3 g4 => ?_) (fun np nl nc w' ⟨Dp, hDp, hrm⟩ h' => ?_)
      · refine hk1 _ _ _ _ _ ?_
        unfold S_law13_TreeRoom_j0
        exact cond_f rfl (cond_f rfl (yes H' c' es' us' np nc w' g1 g2 g3 g4))
      · refine hk1 _ _ _ _ _ ?_
        unfold S_law13_TreeRoom_j0
        refine cond_t rfl (cond_f ?_ (no w' h'))
        unfold Hp.room at hrm
        rw [wrapI64 (by omega) (by omega)]
        simp at hrm ⊢
        omega
    · refine cond_f (by simp; omega) ?_
      intro k1 hk1
      show roomDeed tp xp b b0 lp (kv es).length lc _ k1
      refine roomDeed_c rt hx2 (by omega) (by omega) hkp hkr g14 (fun H' c' es' us' np nc w' g1 g2 g3 g4 => ?_) (fun np nl nc w' ⟨Dp, hDp, hrm⟩ h' => ?_)
      · refine hk1 _ _ _ _ _ ?_
        unfold S_law13_TreeRoom_j1
        exact cond_f rfl (cond_f rfl (yes H' c' es' us' np nc w' g1 g2 g3 g4))
      · refine hk1 _ _ _ _ _ ?_
        unfold S_law13_TreeRoom_j1
        exact cond_t rfl (no w' h')
  refine cond_f (by simp; omega) ?_
  refine (rfull_c rt h3 (by omega) (by omega) (by omega)).mono ?_
  rintro e w4 ⟨dd, H', mv', rfl, rt', htop, hmv', h4⟩
  refine ⟨_, _, rfl, ?_⟩
  have hbk := bytesK_kv es
  have hbl := bytesK_le rt.key
  refine ⟨fun by_ i w' => ∃ q : Nat, i = q ∧ q ≤ (kv es).length ∧ by_ = (bytesK ((kv es).take q) : Nat) ∧ Sat (RmL H' b cb mb (ro + 1) mv' t tp tc xs xp xc lp (kv es).length lc (kv es) W) w', fun _ i _ => (((kv es).length : Int) - i).toNat, ⟨0, rfl, by omega, by simp [bytesK], h4⟩, ?_⟩
  clear h3 h4
  rintro by_ i w5 ⟨q, rfl, hq, rfl, h5⟩
  unfold S_law13_TreeRoom_l0
  by_cases hql : q < (kv es).length
  · refine cond_t (by simp; omega) ?_
    obtain ⟨p, hp⟩ : ∃ p, (kv es)[q]? = some p := ⟨_, List.getElem?_eq_getElem hql⟩
    refine idxE (RdE.own (F := RmL H' b cb mb (ro + 1) mv' t tp tc xs xp xc lp (kv es).length lc (kv es) W) 5 rfl (ent_some h5 (k := 5) rfl rfl)) h5 rfl rfl hp fun a c0 c1 => LdStr.at c0 ?_
    have h200 := rt.key p (List.mem_of_getElem? hp)
    have hbt := bytesK_take hp
    have hb1 := bytesK_le (l := (kv es).take q) fun z hz => rt.key z (List.mem_of_mem_take hz)
    have hb2 : ((kv es).take q).length ≤ 200 := by rw [List.length_take]; omega
    rw [str_size, wrapI64 (n := ((bytesK ((kv es).take q) : Nat) : Int) + (p.1.length : Int)) (by omega) (by omega), wrapI64 (n := (q : Int) + 1) (by omega) (by omega)]
    exact ⟨⟨q + 1, by omega, by omega, by rw [hbt]; omega, h5⟩, by dsimp only; omega⟩
  refine cond_f (by simp; omega) (cond_t rfl ?_)
  refine own_word h5 3 rfl rfl (j := 0) rfl rfl ?_
  refine (holds_c h5 rt'.tree hes6 hkey rfl (RdE.own 4 rfl (ent_some h5 (k := 5) rfl rfl))).mono ?_
  rintro e w6 ⟨rfl, h6⟩
  refine ⟨_, rfl, cond_t rfl ?_⟩
  have hm := sat_wf h6
  have ham2 := hm.am.most
  have ham := hm.am.top
  refine (harena_c h6).mono ?_
  rintro e w7 ⟨rfl, ba, bt, rfl, h7⟩
  refine ⟨_, rfl, ?_⟩
  refine (top2 (h7.pull 1 rfl)).mono ?_
  rintro e w8 ⟨rfl, rfl⟩
  refine ⟨_, rfl, by omega, ?_⟩
  have h8 := heap_shut hm h7
  have hqe : (kv es).take q = kv es := List.take_of_length_le (by omega)
  rw [hqe]
  have ht : Int.tdiv ((bytesK (kv es) : Nat) : Int) 4 = ((bytesK (kv es) / 4 : Nat) : Int) := tdiv_nat _ 4
  rw [ht, wrapI64 (n := (H'.m.top : Int) - 6) (by omega) (by omega), wrapI64 (n := (H'.m.top : Int) - 6 - 10) (by omega) (by omega), wrapI64 (n := 60 * ((kv es).length : Int)) (by omega) (by omega), wrapI64 (n := 60 + 60 * ((kv es).length : Int)) (by omega) (by omega), wrapI64 (n := ((bytesK (kv es) / 4 : Nat) : Int)) (by omega) (by omega), wrapI64 (by omega) (by omega)]
  have hdec : decide ((H'.m.top : Int) - 6 - 10 ≤ 60 + 60 * ((kv es).length : Int) + ((bytesK (kv es) / 4 : Nat) : Int)) = true := by
    rw [← hbk] at htop
    simp
    omega
  rw [hdec]
  exact ⟨rfl, h8.roBelow 6 rfl (Ext.refl _)⟩

set_option maxRecDepth 100000 in
theorem room_lifted (os : Os) (started : os.Started) (H : Type) (enc : TypeId × Value → H) :
    ReturnsInHanded {} Tryz.checked os 6 .any (Rows.treeRoomSpec.pre6 enc Tryz.prog Tryz.f6 Rows.treeRoomRow.domain false) (Rows.treeRoomSpec.post enc Tryz.prog Tryz.f6 false true false false) := by
  refine returnsInHanded_of_change (C := Tryz.checked) own started (by kernel_rfl) Tryz.func6
    (ChangeSpec.witness6 (enc := enc) (C := Tryz.checked) false ⟨#[], #[.slice none 0 0, .int .i64 0], []⟩ 8 (by kernel_rfl) (by kernel_rfl) (by kernel_rfl) (by kernel_rfl)) ?_
  intro W base args ds gs before hval hW hcnd _
  have hval : ∀ (j : Nat) t v, Tryz.f6.params[j]? = some t → args[j]? = some v → Value.okWide Tryz.prog W .any base t v := hval
  have hW' : DataW.Whole enc Tryz.prog Tryz.f6.params.toList Rows.treeRoomSpec.vars false W args.toList ds gs before := hW
  obtain ⟨p, q, hA, hV, _⟩ := hW'
  rw [Tryz.params6] at hA hval
  obtain ⟨v0, v1, d0, d1, p0, p1, rfl, rfl, rfl, h0, h1⟩ := trodAll_two hA
  obtain ⟨a0, l0, c0, rfl⟩ := okWide_slice Tryz.underlying22 (hval 0 22 v0 rfl rfl)
  obtain ⟨fu0, hf0⟩ := h0
  obtain ⟨q0, m0, L0, e0, hx0⟩ := deeds13_arg hf0
  cases e0
  obtain ⟨n1, rfl, rfl, rfl, wn1⟩ := open_int Tryz.underlying3 (hval 1 3 v1 rfl rfl) h1
  refine (room_c W hx0 n1).mono fun e W' ⟨he, hs⟩ => ?_
  exact ⟨_, he, law_post (tb := 4) laidOut (by decide +kernel) (by kernel_rfl) Tryz.underlying4 rfl hW ⟨rfl, rfl, rfl⟩ hs⟩

theorem room_holds : Rows.TreeRoomSaid :=
  OpenClaim.holds_of_wide 6 Tryz.f6 rfl rfl rfl rfl rfl rfl rfl ⟨rfl, rfl, rfl, rfl, rfl⟩ rfl rfl rfl rfl rfl (by kernel_rfl) Tryz.func6 (by kernel_rfl)
    (of_decide_eq_true (by kernel_rfl)) (by unfold Func.isWrapper; first | (rw [if_pos (by decide +kernel)]; kernel_rfl) | (rw [if_neg (by decide +kernel)]; exact ⟨rfl, rfl⟩))
    (fun os started H enc _ => room_lifted os started H enc)
end Go.Proofs.YtpicofkhioalkaaGreat
