
/- 'TreeKept' answers true: keys that are handed in stay, and are not kept; what is told is new memory. No conditions. -/
import Derived.Test.YtpicofkhioalkaaDg
set_option maxRecDepth 100000
namespace Go.Proofs.Ytpicofkhioalkaa
open Go Go.Lw Go.Wd Go.Am Go.Tb Go.Hm Go.Kd Go.Td Go.ChangeShapes Go.WideShapes Go.ChangeAt Go.RowKit

theorem bytesV_u8 (x : K) : ∀ u ∈ bytesV x, u.oneCell' = true := by
  intro u hu
  simp only [bytesV, List.mem_map] at hu
  obtain ⟨b, _, rfl⟩ := hu
  rfl
theorem row_reads {L : List HP} {w : World} {b : Nat} {cs : List Value} {T : TypeId} (hs : Sat L w) (i : Nat) (hi : L[i]? = some (Row b cs T)) : Reads w (some ⟨b, 0, none⟩) cs := by
  intro a ha j v hj
  cases ha
  rw [add_mk, Nat.zero_add]
  exact hs.cell i hi hj
section
variable {L : List HP} {w : World} {x : K} {p : Option Addr} {c ty : Nat} {K : Option Addr → Nat → Nat → World → Prop}
/-- an empty row of bytes is one's own. -/
theorem own0 {b : Nat} (hs : Sat (Row b [] 5 :: L) w) : Sat (Own 5 1 (some ⟨b, 0, none⟩) 0 0 (bytesV []) :: L) w :=
  Sat.mkOwn (e := 5) (s := 1) (g := b) (l := 0) (c := 0) (xs := []) (rest := []) hs 0 rfl rfl (Nat.le_refl _) (by simp only [maxLen]; omega) (by simp)
/-- bytes appended to none. -/
theorem app0 {b : Nat} (hs : Sat (Own 5 1 (some ⟨b, 0, none⟩) 0 0 (bytesV []) :: L) w) (hr : Reads w p (bytesV x)) (hp : x ≠ [] → ∃ a, p = some a) (hx : x.length ≤ 1048576) (h : ∀ p' c' w', Sat (Own 5 1 p' x.length c' (bytesV x) :: L) w' → K p' x.length c' w') :
    RunS Try.prog (Builtin.append_ #[29, 29] ty #[.slice (some ⟨b, 0, none⟩) 0 0, .slice p x.length c]) w K := by
  refine RunS.app eok_byte hs 0 rfl hr (fun h0 => hp fun e => by rw [e] at h0; simp at h0) (by rw [bytesV_len]; omega) (bytesV_u8 x) (by omega) (by simp only [maxLen]; omega) fun p' c' w' h' => ?_
  rw [Nat.zero_add] at h' ⊢
  exact h p' c' w' h'
/-- a byte appended. -/
theorem app1 {b : Nat} {u : UInt8} (i : Nat) (hi : L[i]? = some (Row b [.int .u8 ((u.toNat : Nat) : Int)] 5)) (hs : Sat (Own 5 1 p x.length c (bytesV x) :: L) w) (hx : x.length ≤ 1048576) (h : ∀ p' c' w', Sat (Own 5 1 p' (x.length + 1) c' (bytesV (x ++ [u])) :: L) w' → K p' (x.length + 1) c' w') :
    RunS Try.prog (Builtin.append_ #[29, 29] ty #[.slice p x.length c, .slice (some ⟨b, 0, none⟩) 1 1]) w K := by
  have hr : Reads w (some ⟨b, 0, none⟩) [.int .u8 ((u.toNat : Nat) : Int)] := row_reads hs (i + 1) (by simpa using hi)
  refine RunS.own eok_byte hs 0 rfl hr rfl (by simp; rfl) (by omega) (by simp only [maxLen]; omega) fun p' c' w' h' => h p' c' w' ?_
  rw [bytesV_snoc]
  exact h'
end
theorem bytesV_take (x : K) (u : UInt8) : (bytesV (x ++ [u])).take x.length = bytesV x := by
  rw [bytesV_snoc, List.take_left' (bytesV_len x)]
theorem runStrQ_of {C : World → Prop} {x : K} {p : Option Addr} {l c : Nat} {Q : ByteArray → Prop} (h : ∀ w, C w → Reads w p (bytesV x)) (hl : l = x.length) (hp : x ≠ [] → ∃ a, p = some a) (hq : Q (str x)) : RunStrQ Try.prog C (convert 29 9 (.slice p l c)) Q := by
  refine ⟨str x, fun w hw => ?_, hq⟩
  obtain ⟨bb, hb1, hb2⟩ := run_str (P := Try.prog) (s := 29) (d := 9) (e := 5) (x := x) (p := p) (l := l) (c := c) (w := w) (Q := fun b => b = str x) (by kernel_rfl) (by kernel_rfl) (by kernel_rfl) (h w hw) hl.symm (fun h0 => hp fun e => by rw [e] at hl; simp at hl; omega) rfl
  rw [hb1, hb2]
theorem tmod5 (i : Nat) : Int.tmod (i : Int) 5 = ((i % 5 : Nat) : Int) := tmod_nat i 5
set_option maxHeartbeats 4000000 in
theorem kept_c (W : World) {p1 : Option Addr} {l1 c1 : Nat} {D : List Dd} (hz : ArgD W p1 l1 D) : Calls Try.prog 3 #[.slice p1 l1 c1] W (Ret (.bool true) (Go.RowKit.Below W.heap.size W)) := by
  have hll : l1 = D.length := hz.1
  subst hll
  refine S_law13_TreeKept_ok _ _ _ _ _ ?_
  unfold S_law13_TreeKept
  have hb0 : Sat [Ro W (Mem.of W)] W := Sat.ofBase W
  refine (awake13_c hb0).mono ?_
  rintro e w0 ⟨rfl, h0⟩
  refine ⟨_, rfl, cond_f rfl ?_⟩
  by_cases hD : D.length ≤ 200
  rotate_left
  · exact cond_t (by simp; omega) ⟨rfl, h0.roBelow 0 rfl (Ext.refl _)⟩
  refine cond_f (by simp; omega) ?_
  refine (ground_c keeps_any (n := 262144) (k := 65536) (m := 1) (by omega) (by omega) (by omega) (by omega) (by omega) h0).mono ?_
  rintro e w1 ⟨b, H, ts, xs, r, tp, xp, tc, xc, g, hts, hxs, rfl, h1⟩
  refine ⟨_, _, _, _, _, _, _, _, rfl, cond_f rfl ?_⟩
  obtain ⟨t, rfl⟩ : ∃ t, ts = [t] := List.length_eq_one_iff.1 hts
  refine ⟨fun lp ll lc i w' => ∃ (j : Nat) (s : Hp × Nat) (es : List Ent) (us : List Nat), i = j ∧ j ≤ D.length ∧ Am1 s b t es us xs j 200 ∧ ll = (kv es).length ∧
      Sat (HeapH s.1 .nilIface b :: Own 32 1 tp 1 tc (words [t]) :: Own 32 1 xp 5 xc (words xs) :: Own 66 2 lp ll lc (entsV (kv es)) :: [Ro W (Mem.of W)]) w', fun _ _ _ i _ => ((D.length : Int) - i).toNat,
    ⟨0, (H, 0), [], [t], rfl, by omega, gnd_am g hxs 200, rfl, Sat.pull (Sat.pull (Sat.pull (Sat.ownNil h1 66 2) 3 rfl) 3 rfl) 3 rfl⟩, ?_⟩
  clear g h1 h0 hb0
  rintro lp ll lc i w2 ⟨j, s, es, us, rfl, hj, am, rfl, h2⟩
  unfold S_law13_TreeKept_l3
  have hsr := srt_kv.1 am.tr.tree.srt
  have hkl := kv_len es
  have hel := am.len
  by_cases hlt : j < D.length
  rotate_left
  · refine cond_f (by simp; omega) ?_
    refine own_word h2 1 rfl rfl (j := 0) rfl rfl ?_
    refine (holds_c h2 am.tr.tree (by omega) (fun a ha => by have := am.kl a ha; omega) rfl (RdE.own 2 rfl (ent_some h2 (k := 3) rfl rfl))).mono ?_
    rintro e w3 ⟨rfl, h3⟩
    exact ⟨_, rfl, rfl, h3.roBelow 4 rfl (Ext.refl _)⟩
  refine cond_t (by simp; omega) ?_
  intro k0 hk0
  obtain ⟨d, hd⟩ : ∃ d, D[j]? = some d := ⟨_, List.getElem?_eq_getElem hlt⟩
  obtain ⟨ad, kp, kc, hI, r0, r1, r2, r3, hkp, hkr⟩ := hz.at hd
  have hnext : ∀ (s' : Hp × Nat) (es' : List Ent) (us' : List Nat) lp' lc' w', Am1 s' b t es' us' xs (j + 1) 200 → Sat (HeapH s'.1 .nilIface b :: Own 32 1 tp 1 tc (words [t]) :: Own 32 1 xp 5 xc (words xs) :: Own 66 2 lp' (kv es').length lc' (entsV (kv es')) :: [Ro W (Mem.of W)]) w' → k0 lp' (kv es').length lc' w' := by
    intro s' es' us' lp' lc' w' am' h'
    refine hk0 _ _ _ _ ?_
    unfold S_law13_TreeKept_j1
    exact ⟨⟨j + 1, s', es', us', by rw [wrapI64 (by omega) (by omega)]; omega, by omega, am', rfl, h'⟩, by rw [wrapI64 (by omega) (by omega)]; dsimp only; omega⟩
  refine hI _ _ rfl (LdS.at (r3 _ (h2.has 4 rfl)) ?_)
  by_cases hlong : 200 < d.k.length
  · refine cond_t (by simp; omega) (hnext s es us lp lc w2 ⟨am.tr, by omega, am.kl, by have := am.top; omega, by have := am.cnt; omega, am.n, am.tn, am.xlen, am.x⟩ h2)
  refine cond_f (by simp; omega) ?_
  intro k1 hk1
  -- the copy of the key
  generalize hG : (HeapH s.1 .nilIface b :: Own 32 1 tp 1 tc (words [t]) :: Own 32 1 xp 5 xc (words xs) :: Own 66 2 lp (kv es).length lc (entsV (kv es)) :: [Ro W (Mem.of W)]) = G at h2
  have hGro : G[4]? = some (Ro W (Mem.of W)) := by rw [← hG]; rfl
  suffices key : ∀ p c w', Sat (Own 5 1 p (d.k.length + 1) c (bytesV (d.k ++ [201])) :: G) w' → d.k.length + 1 ≤ c → k1 p d.k.length c w' by
    have cut : ∀ {p c w'}, Sat (Own 5 1 p (d.k.length + 1) c (bytesV (d.k ++ [201])) :: G) w' → SlC p c 0 (Nat.cast d.k.length : Int) (Nat.cast c : Int) 1 fun s5p s5l s5c => k1 s5p s5l s5c w' := by
      intro p c w' h'
      have hc : d.k.length + 1 ≤ c := by
        rcases (h'.own 0 rfl).2 with ⟨_, h, _⟩ | ⟨_, _, _, h, _⟩
        · omega
        · exact h
      refine SlC.of 0 d.k.length c rfl rfl rfl (by omega) (by omega) (Nat.le_refl _) ?_
      rw [slAddr_zero, Nat.sub_zero, Nat.sub_zero]
      exact key p c w' h' hc
    refine ⟨fun w' => Has (Mem.of W) w', h2.drew.has 4 hGro, ?_⟩
    refine hI _ _ rfl ⟨_, _, _, fun w' hw => ⟨_, _, _, r3 w' hw, rfl⟩, ?_⟩
    refine hI _ _ rfl ⟨_, _, _, fun w' hw => ⟨_, _, _, r3 w' hw, rfl⟩, ?_⟩
    have hs : ∀ (A : HP) (B : HP) w', Sat (A :: B :: G) w' → Has (Mem.of W) w' := fun A B w' h => h.has 6 (by simpa using hGro)
    have hs1 : ∀ (A : HP) w', Sat (A :: G) w' → Has (Mem.of W) w' := fun A w' h => h.has 5 (by simpa using hGro)
    refine ⟨?_, ?_⟩
    · refine NewC.ofRow h2.drew fun b0 w3 h3 => ⟨hs1 _ _ h3, ?_⟩
      have h3 := own0 h3
      refine ⟨?_, ?_⟩
      · refine app0 h3 (hkr _ (hs1 _ _ h3)) hkp (by omega) fun p4 c4 w4 h4 => ⟨hs1 _ _ h4, ?_⟩
        refine NewC.ofRow h4 fun b1 w5 h5 => ⟨hs _ _ _ h5, ?_⟩
        refine app1 (u := 201) 0 rfl h5.p1 (by omega) fun p6 c6 w6 h6 => ⟨hs _ _ _ h6, cut (h6.del 1 rfl)⟩
      · refine NewC.ofRow h3 fun b2 w7 h7 => ⟨hs _ _ _ h7, ?_⟩
        refine app0 h7.p1 (hkr _ (hs _ _ _ h7)) hkp (by omega) fun p8 c8 w8 h8 => ⟨hs _ _ _ h8, ?_⟩
        refine app1 (u := 201) 0 rfl h8 (by omega) fun p9 c9 w9 h9 => ⟨hs _ _ _ h9, cut (h9.del 1 rfl)⟩
    · refine NewC.ofRow h2.drew fun b3 w10 h10 => ⟨hs1 _ _ h10, ?_⟩
      refine NewC.ofRow h10 fun b4 w11 h11 => ⟨hs _ _ _ h11, ?_⟩
      have h11 := own0 h11
      refine app0 h11 (hkr _ (hs _ _ _ h11)) hkp (by omega) fun p8 c8 w8 h8 => ⟨hs _ _ _ h8, ?_⟩
      refine app1 (u := 201) 0 rfl h8 (by omega) fun p9 c9 w9 h9 => ⟨hs _ _ _ h9, cut (h9.del 1 rfl)⟩
  intro p c w3 h3 hcap
  subst hG
  refine hk1 _ _ _ _ ?_
  unfold S_law13_TreeKept_j0
  obtain ⟨gk, rfl⟩ := h3.own_some 0 rfl (by omega)
  have hj5 : j % 5 < 5 := Nat.mod_lt _ (by omega)
  obtain ⟨x, hx⟩ : ∃ x, xs[j % 5]? = some x := ⟨_, List.getElem?_eq_getElem (by rw [am.xlen]; exact hj5)⟩
  rw [tmod5]
  have h3d := h3.drew
  refine ⟨fun w' => ∃ T, Sat (Own 32 1 tp 1 tc (words [t]) :: Own 32 1 xp 5 xc (words xs) :: T) w', ⟨_, Sat.pull (Sat.pull h3d 3 rfl) 3 rfl⟩, ?_⟩
  refine own_wordQ h3 2 rfl (fun w ⟨T, h⟩ => ⟨_, 0, h, rfl⟩) rfl (j := 0) rfl rfl ?_
  refine ⟨by omega, ?_⟩
  refine own_wordQ h3 3 rfl (fun w ⟨T, h⟩ => ⟨_, 1, h, rfl⟩) am.xlen.symm hx rfl ?_
  have hrk : ∀ {T : List HP}, RdB (Own 5 1 (some ⟨gk, 0, none⟩) (d.k.length + 1) c (bytesV (d.k ++ [201])) :: T) (some ⟨gk, 0, none⟩) d.k := fun {T} => ⟨fun w h => by
    have := (h.reads 0 rfl).take d.k.length
    rw [bytesV_take] at this
    exact this, fun _ => ⟨_, rfl⟩⟩
  refine (am_put am (by omega) (Sat.pull h3d 1 rfl) (key := d.k) (by omega) (by omega) rfl hrk (List.mem_of_getElem? hx)).mono ?_
  rintro e w4 ⟨s', es', us', old, had, A, o, C, rfl, c1, c2, c3, am', h4⟩
  refine ⟨_, _, _, rfl, cond_f rfl ?_⟩
  have h4d := h4.drew
  refine hrk.tail.run h4d rfl ?_
  refine hI _ _ rfl (LdS.at (r3 _ (h4d.has 5 rfl)) ?_)
  refine (RdB.arg 5 rfl hkp hkr).run h4d rfl ?_
  refine cond_f (by rw [key_str_eq]; simp) ?_
  refine SlC.of 0 (d.k.length + 1) c rfl (by rw [wrapI64 (by omega) (by omega)]; omega) rfl (by omega) hcap (Nat.le_refl _) ?_
  rw [slAddr_zero, Nat.sub_zero]
  refine IdxC.ownAt (k := d.k.length) h4d 1 rfl (by omega) fun g1 hg1 => ?_
  refine LdI.at (n := 201) (Sat.ownAt h4d 1 rfl hg1 (off := d.k.length * 1) (by rw [Nat.mul_one, bytesV_snoc, List.getElem?_append_right (by rw [bytesV_len]; omega), bytesV_len, Nat.sub_self]; rfl)) ?_
  refine cond_f rfl ?_
  refine ⟨fun w' => ∃ T, Sat (Own 32 1 xp 5 xc (words xs) :: Ro W (Mem.of W) :: T) w', ⟨_, Sat.pull (Sat.pull h4d.drew 5 rfl) 4 rfl⟩, ?_⟩
  refine hI _ _ rfl ⟨_, _, _, fun w' ⟨T, h⟩ => ⟨_, _, _, r3 w' (h.has 1 rfl), rfl⟩, ?_⟩
  refine runStrQ_of (x := d.k) (fun w' ⟨T, h⟩ => hkr w' (h.has 1 rfl)) rfl hkp ?_
  refine ⟨by omega, ?_⟩
  refine own_wordQ h4d 3 rfl (fun w ⟨T, h⟩ => ⟨_, 0, h, rfl⟩) am.xlen.symm hx rfl ?_
  have h5 := Sat.pull h4d.drew 4 rfl
  refine (lput_c h5 rfl (RdE.own 0 rfl (ent_some h5 (k := 0) rfl rfl)) (by omega) c1 hsr).mono ?_
  rintro e w5 ⟨p', c', old', had', rfl, q1, h6⟩
  refine ⟨_, _, _, _, _, rfl, ⟨_, Sat.pull (Sat.pull h6 6 rfl) 6 rfl⟩, ?_⟩
  rw [← c2] at h6 ⊢
  have h6 : Sat (Own 5 1 (some ⟨gk, 0, none⟩) (d.k.length + 1) c (bytesV (d.k ++ [201])) :: HeapH s'.1 .nilIface b :: Own 32 1 tp 1 tc (words [t]) :: Own 32 1 xp 5 xc (words xs) :: Own 66 2 p' (kv es').length c' (entsV (kv es')) :: [Ro W (Mem.of W)]) w5 :=
    Sat.pull (Sat.pull (Sat.pull (Sat.pull (Sat.pull (h6.del 1 rfl) 0 rfl) 4 rfl) 4 rfl) 4 rfl |> fun g => Sat.pull g 0 rfl) 4 rfl |> fun g => by exact Sat.pull (Sat.pull (Sat.pull (Sat.pull (h6.del 1 rfl) 4 rfl) 4 rfl) 3 rfl) 4 rfl
  refine ⟨fun q w' => ∃ (i : Nat) (vs : List Value), q = i ∧ i ≤ d.k.length ∧ vs.length = d.k.length + 1 ∧ (∀ k, k < d.k.length + 1 → ∃ m, vs[k]? = some (.int .u8 m)) ∧
      Sat (Own 5 1 (some ⟨gk, 0, none⟩) (d.k.length + 1) c vs :: HeapH s'.1 .nilIface b :: Own 32 1 tp 1 tc (words [t]) :: Own 32 1 xp 5 xc (words xs) :: Own 66 2 p' (kv es').length c' (entsV (kv es')) :: [Ro W (Mem.of W)]) w', fun q _ => ((d.k.length : Int) - q).toNat,
    ⟨0, _, rfl, by omega, by rw [bytesV_len]; simp, fun k hk => ⟨_, by unfold bytesV; rw [List.getElem?_map, List.getElem?_eq_getElem (by simpa using hk)]; rfl⟩, h6⟩, ?_⟩
  clear h6 h5 h4d h4 h3d h3 h2
  rintro q w6 ⟨i, vs, rfl, hi, hvl, hv8, h7⟩
  unfold S_law13_TreeKept_l2
  by_cases hil : i < d.k.length
  · refine cond_t (by simp; omega) ?_
    obtain ⟨m, hm⟩ := hv8 i (by omega)
    refine IdxC.of (by omega) (by omega) ?_
    rw [Int.toNat_natCast, Nat.mul_one, Nat.zero_add]
    refine LdI.at (n := m) (h7.ownCell 0 rfl hm) ?_
    refine IdxC.of (by omega) (by omega) ?_
    rw [Int.toNat_natCast, Nat.mul_one, Nat.zero_add]
    refine StC.own h7 0 rfl (off := i) (v0 := .int .u8 m) hm rfl fun w7 h8 => ?_
    refine ⟨⟨i + 1, vs.set i (.int .u8 (bXor .u8 m 255)), by rw [wrapI64 (by omega) (by omega)]; omega, by omega, by rw [List.length_set]; exact hvl, fun k hk => ?_, h8⟩, by rw [wrapI64 (by omega) (by omega)]; dsimp only; omega⟩
    rw [List.getElem?_set]
    split
    · rw [if_pos (by omega)]; exact ⟨_, rfl⟩
    · exact hv8 k hk
  refine cond_f (by simp; omega) ?_
  have h7 := h7.drop
  have h7d := h7.drew
  refine ⟨fun w' => ∃ T, Sat (Own 32 1 tp 1 tc (words [t]) :: Ro W (Mem.of W) :: T) w', ⟨_, Sat.pull (Sat.pull h7d 4 rfl) 2 rfl⟩, ?_⟩
  refine own_wordQ h7d 1 rfl (fun w ⟨T, h⟩ => ⟨_, 0, h, rfl⟩) rfl (j := 0) rfl rfl ?_
  refine hI _ _ rfl ⟨_, _, _, fun w' ⟨T, h⟩ => ⟨_, _, _, r3 w' (h.has 1 rfl), rfl⟩, ?_⟩
  have hel' := am'.len
  have hin : (d.k, x) ∈ kv es' := by rw [c2]; simp
  refine (tseek_c h7d am'.tr.tree (by omega) (key := d.k) (by omega) rfl (RdB.arg 3 rfl hkp hkr)).mono ?_
  rintro e w8 ⟨A1, C1, hAC, hA1, hC1, hans⟩
  obtain ⟨q0, hq0⟩ : ∃ q0, C1.head? = some q0 := by
    cases C1 with
    | nil =>
      rw [List.append_nil] at hAC
      rw [hAC] at hin
      have := hA1 _ hin
      rw [lt_irrefl] at this; cases this
    | cons a _ => exact ⟨a, rfl⟩
  rw [hq0] at hans
  obtain ⟨gs, cs, rfl, hql, h9⟩ := hans
  refine ⟨_, _, _, _, _, _, rfl, ?_⟩
  refine ⟨fun q w' => ∃ (i : Nat) (vs : List Value), q = i ∧ i ≤ q0.1.length ∧ vs.length = q0.1.length ∧
      Sat (Str 5 (some ⟨gs, 0, none⟩) q0.1.length cs vs :: HeapH s'.1 .nilIface b :: Own 32 1 tp 1 tc (words [t]) :: Own 32 1 xp 5 xc (words xs) :: Own 66 2 p' (kv es').length c' (entsV (kv es')) :: [Ro W (Mem.of W)]) w', fun q _ => ((q0.1.length : Int) - q).toNat,
    ⟨0, _, rfl, by omega, bytesV_len _, h9⟩, ?_⟩
  clear h9 h7 h7d
  rintro q w9 ⟨i, vs, rfl, hi, hvl, h10⟩
  unfold S_law13_TreeKept_l1
  by_cases hil : i < q0.1.length
  · refine cond_t (by simp; omega) ?_
    refine IdxC.of (by omega) (by omega) ?_
    rw [Int.toNat_natCast, Nat.mul_one, Nat.zero_add]
    refine StC.str h10 0 rfl (off := i) (v0 := vs[i]'(by omega)) (List.getElem?_eq_getElem _) rfl fun w10 h11 => ?_
    exact ⟨⟨i + 1, vs.set i (.int .u8 99), by rw [wrapI64 (by omega) (by omega)]; omega, by omega, by rw [List.length_set]; exact hvl, h11⟩, by rw [wrapI64 (by omega) (by omega)]; dsimp only; omega⟩
  refine cond_f (by simp; omega) ?_
  refine NewC.ofRow h10 fun b5 w11 h11 => ?_
  refine snoc_c (Sat.p1 h11) rfl (by omega) fun _ _ _ w12 h12 => ?_
  refine own_word h12 1 rfl rfl (j := 0) rfl rfl ?_
  refine (tlast_c h12 am'.tr.tree (by omega) (key := []) (by simp) rfl RdB.nil).mono ?_
  rintro e w13 ⟨A2, C2, hAC2, hn1, hn2, hans⟩
  have hC2 := hn1 rfl
  subst hC2
  obtain ⟨q2, hq2⟩ : ∃ q2, A2.getLast? = some q2 := by
    rw [List.append_nil] at hAC2
    rw [hAC2] at hin
    exact ⟨_, List.getLast?_eq_some_getLast (List.ne_nil_of_mem hin)⟩
  rw [hq2] at hans
  obtain ⟨gl, cl, rfl, hql2, h14⟩ := hans
  refine ⟨_, _, _, _, _, _, rfl, ?_⟩
  refine ⟨fun q w' => ∃ (i : Nat) (vs : List Value), q = i ∧ i ≤ q2.1.length ∧ vs.length = q2.1.length ∧
      Sat (Str 5 (some ⟨gl, 0, none⟩) q2.1.length cl vs :: HeapH s'.1 .nilIface b :: Own 32 1 tp 1 tc (words [t]) :: Own 32 1 xp 5 xc (words xs) :: Own 66 2 p' (kv es').length c' (entsV (kv es')) :: [Ro W (Mem.of W)]) w', fun q _ => ((q2.1.length : Int) - q).toNat,
    ⟨0, _, rfl, by omega, bytesV_len _, h14⟩, ?_⟩
  clear h14 h12 h11 h10
  rintro q w14 ⟨i, vs, rfl, hi, hvl, h15⟩
  unfold S_law13_TreeKept_l0
  by_cases hil : i < q2.1.length
  · refine cond_t (by simp; omega) ?_
    refine IdxC.of (by omega) (by omega) ?_
    rw [Int.toNat_natCast, Nat.mul_one, Nat.zero_add]
    refine StC.str h15 0 rfl (off := i) (v0 := vs[i]'(by omega)) (List.getElem?_eq_getElem _) rfl fun w10 h11 => ?_
    exact ⟨⟨i + 1, vs.set i (.int .u8 97), by rw [wrapI64 (by omega) (by omega)]; omega, by omega, by rw [List.length_set]; exact hvl, h11⟩, by rw [wrapI64 (by omega) (by omega)]; dsimp only; omega⟩
  refine cond_f (by simp; omega) (cond_f rfl (cond_f rfl ?_))
  exact hnext s' es' us' p' c' w14 am' h15.drop

set_option maxRecDepth 100000 in
theorem kept_lifted (os : Os) (started : os.Started) (H : Type) (enc : TypeId × Value → H) :
    ReturnsInHanded {} Try.checked os 3 .any (Rows.treeKeptSpec.pre6 enc Try.prog Try.f3 Rows.treeKeptRow.domain false) (Rows.treeKeptSpec.post enc Try.prog Try.f3 false true false false) := by
  refine returnsInHanded_of_change (C := Try.checked) own started (by kernel_rfl) Try.func3
    (ChangeSpec.witness6 (enc := enc) (C := Try.checked) false ⟨#[], #[.slice none 0 0], []⟩ 8 (by kernel_rfl) (by kernel_rfl) (by kernel_rfl) (by kernel_rfl)) ?_
  intro W base args ds gs before hval hW hcnd _
  have hval : ∀ (j : Nat) t v, Try.f3.params[j]? = some t → args[j]? = some v → Value.okWide Try.prog W .any base t v := hval
  have hW' : DataW.Whole enc Try.prog Try.f3.params.toList Rows.treeKeptSpec.vars false W args.toList ds gs before := hW
  obtain ⟨p, q, hA, hV, _⟩ := hW'
  rw [Try.params3] at hA hval
  obtain ⟨v0, d0, rfl, rfl, h0⟩ := trodAll_one hA
  obtain ⟨a0, l0, c0, rfl⟩ := okWide_slice Try.underlying22 (hval 0 22 v0 rfl rfl)
  obtain ⟨fu0, hf0⟩ := h0
  obtain ⟨q0, m0, L0, e0, hx0⟩ := deeds13_arg hf0
  cases e0
  refine (kept_c W hx0).mono fun e W' ⟨he, hs⟩ => ?_
  exact ⟨_, he, law_post (tb := 4) laidOut (by decide +kernel) (by kernel_rfl) Try.underlying4 rfl hW ⟨rfl, rfl, rfl⟩ hs⟩

theorem kept_holds : Rows.TreeKeptSaid :=
  OpenClaim.holds_of_wide 3 Try.f3 rfl rfl rfl rfl rfl rfl rfl ⟨rfl, rfl, rfl, rfl, rfl⟩ rfl rfl rfl rfl rfl (by kernel_rfl) Try.func3 (by kernel_rfl)
    (of_decide_eq_true (by kernel_rfl)) (by unfold Func.isWrapper; first | (rw [if_pos (by decide +kernel)]; kernel_rfl) | (rw [if_neg (by decide +kernel)]; exact ⟨rfl, rfl⟩))
    (fun os started H enc _ => kept_lifted os started H enc)
end Go.Proofs.Ytpicofkhioalkaa
