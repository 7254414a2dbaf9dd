
/- 'TreeKnown' answers true: chapter 13's examples. No conditions. -/
import Derived.Test.YtpicofkhioalkaaGreatDg
set_option maxRecDepth 100000
namespace Go.Proofs.YtpicofkhioalkaaGreat
open Go Go.Lw Go.Wd Go.Am Go.Tb Go.Hm Go.Kd Go.Td Go.ChangeShapes Go.WideShapes Go.ChangeAt Go.RowKit
/-- each slot's generation is one at least. -/
def Gens (H : Hp) (_c : Nat) : Prop := ∀ (i : Nat) (s : Slot), H.t.L[i]? = some s → 1 ≤ s.gen
theorem keeps_gens : Keeps Gens := by
  refine ⟨?_, ?_, fun h _ _ _ => h, fun h _ _ => h⟩
  · intro n k i s h
    have h : ([] : List Slot)[i]? = some s := h
    simp at h
  · intro H c tag refs size h hm hn i s hs
    have hs : (H.t.make H.m.top).L[i]? = some s := hs
    rw [make_get hm.tab] at hs
    split at hs
    · cases hs
      show 1 ≤ H.t.genAt i
      unfold Tab.genAt
      cases hl : H.t.L[i]? with
      | none => exact Nat.le_refl _
      | some s => exact h i s hl
    · exact h i s hs
theorem low_none {H : Hp} {c : Nat} (h : Gens H c) (hm : H.WF) {x : Nat} (hx : x < 4294967296) : H.look x = none := by
  rw [look_none hm]
  cases hf : H.t.find x with
  | none => rfl
  | some i =>
    obtain ⟨_, s, h1, _, h3⟩ := tfind_iff.1 hf
    have := h i s h1
    omega
section
variable {v : Value} {b : Nat} {E : Eng v b} {s s' : E.σ} {F : List HP} {w : World}
/-- what a change of one tree leaves of another. -/
theorem TrS.other {t : Nat} {es : List Ent} {us U U' : List Nat} {k m : Nat} (h : TrS E s t es us) (st : St E s U s' U' k m) (hd : ∀ z ∈ us, z ∉ U) : TrS E s' t es us ∧ ∀ z ∈ us, z ∉ U' := by
  refine ⟨⟨h.tree.frame fun z hz => st.frame z (h.tree.live z hz) (hd z hz), fun z hz => st.mv.ok z (h.ok z hz), fun e he => st.mv.some (h.refs e he)⟩, fun z hz hu => ?_⟩
  rcases st.new z hu with h1 | h1
  · exact hd z hz h1
  · have := h.tree.live z hz
    rw [h1] at this; cases this
theorem found_c {p : Option Addr} {l c : Nat} {o : Option (K × Nat)} {want : K} {i : Nat} (hs : Sat F w) (hi : F[i]? = some (AnsH o p l c)) (hw : (want ≠ [] ∧ ∃ x, o = some (want, x)) ∨ (want = [] ∧ o = none)) :
    Calls Tryz.prog 16 #[.slice p l c, .bool o.isSome, .int .i64 0, .string (str want)] w (Ret (.bool true) (Sat F)) := by
  refine S_law13_found_ok _ _ _ _ _ _ _ _ ?_
  unfold S_law13_found
  refine cond_t rfl ?_
  rw [str_nil]
  rcases hw with ⟨hw, x, rfl⟩ | ⟨rfl, rfl⟩
  · refine cond_t (by simp [hw]) ?_
    obtain ⟨⟨rfl, _, g, rfl⟩, _⟩ := ansH_open (hs.pull i hi)
    refine (RdB.ans (q := (want, x)) i hi ⟨_, rfl⟩).run hs rfl ?_
    rw [key_str_eq]
    exact ⟨by simp, hs⟩
  · refine cond_t rfl ?_
    obtain ⟨⟨rfl, rfl, rfl⟩, _⟩ := ansH_nil (hs.pull i hi)
    refine (RdB.nil (F := F)).run hs rfl ?_
    rw [key_str_eq]
    exact ⟨by simp, hs⟩
theorem need_c (n : Nat) (hn : n ≤ 1000000) (w : World) : Calls Tryz.prog 17 #[.int .i64 (n : Int)] w fun e w' => e = .returned (.int .i64 ((600 + n / 8 : Nat) : Int)) ∧ w' = w := by
  refine S_tree_Need_ok _ _ _ ?_
  unfold S_tree_Need
  refine ⟨by omega, ?_, rfl⟩
  have e1 : iMax 0 (n : Int) = (n : Int) := by unfold iMax; split <;> omega
  rw [e1, show Int.tdiv (n : Int) 8 = ((n / 8 : Nat) : Int) from tdiv_nat n 8, wrapI64 (n := ((n / 8 : Nat) : Int)) (by omega) (by omega), wrapI64 (by omega) (by omega)]
  congr 2
theorem cut_nil {key : K} {A o C : KV} (h : Cut [] key A o C) : A = [] ∧ o = [] ∧ C = [] := by
  have := h.eq
  simp at this
  exact ⟨this.1, this.2.1, this.2.2⟩
theorem cut_is {l A o C A' o' C' : KV} {key : K} (h : Cut l key A o C) (hs : SrtK l) (g : Cut l key A' o' C') : A = A' ∧ o = o' ∧ C = C' := cut_inj g h hs
end
section
variable {w : World}
theorem two_of {α : Type} {l : List α} (h : l.length = 2) : ∃ a b, l = [a, b] := by
  match l, h with
  | [a, b], _ => exact ⟨a, b, rfl⟩
/-- a key that stands in the text. -/
theorem lay_c {L : List HP} {w : World} {u : UInt8} {K : Option Addr → Nat → Nat → World → Prop} (h : Sat L w) (hk : ∀ b0 w', Sat (Str 5 (some ⟨b0, 0, none⟩) 1 1 (bytesV [u]) :: L) w' → K (some ⟨b0, 0, none⟩) 1 1 w') :
    NewC (.cells #[.int .u8 ((u.toNat : Nat) : Int)] 5 (0, 0)) w fun b0 w2 => RunS Tryz.prog (convert 28 28 (.slice (some (⟨b0, 0, none⟩)) 1 1)) w2 K := by
  refine NewC.ofRow h fun b0 w1 h1 => ?_
  exact smark_c (x := [u]) (by kernel_rfl) (e := 5) (by kernel_rfl) rfl (by simp) h1 fun w2 h2 => hk b0 w2 h2
/-- .. while a class of worlds is kept. -/
theorem layC_c {A B C D : HP} {w : World} {u : UInt8} {K : Option Addr → Nat → Nat → World → Prop} (h : Sat [A, B, C, D] w) (hk : ∀ b0 w', Sat [Str 5 (some ⟨b0, 0, none⟩) 1 1 (bytesV [u]), A, B, C, D] w' → K (some ⟨b0, 0, none⟩) 1 1 w') :
    NewC (.cells #[.int .u8 ((u.toNat : Nat) : Int)] 5 (0, 0)) w fun b0 w2 => (∃ T, Sat (B :: C :: T) w2) ∧ RunS Tryz.prog (convert 28 28 (.slice (some (⟨b0, 0, none⟩)) 1 1)) w2 fun p l c w' => (∃ T, Sat (B :: C :: T) w') ∧ K p l c w' := by
  refine NewC.ofRow h fun b0 w1 h1 => ⟨⟨_, Sat.pull (Sat.pull h1 3 rfl) 3 rfl⟩, ?_⟩
  exact smark_c (x := [u]) (by kernel_rfl) (e := 5) (by kernel_rfl) rfl (by simp) h1 fun w2 h2 => ⟨⟨_, Sat.pull (Sat.pull h2 3 rfl) 3 rfl⟩, hk b0 w2 h2⟩
theorem hcl {A B C D : HP} {w : World} (h : Sat [A, B, C, D] w) : ∃ T, Sat (B :: C :: T) w := ⟨_, Sat.pull (Sat.pull h 2 rfl) 2 rfl⟩
section
variable {b : Nat}
theorem ov_keep {x0 : Nat} {o : Ov} {s s' : Hp × Nat} {U V : List Nat} {k m : Nat} (st : St (engJ keeps_gens b) s U s' V k m) (h : s.1.ov x0 = some o) (hu : x0 ∉ U) : s'.1.ov x0 = some o ∧ x0 ∉ V := by
  refine ⟨(st.frame x0 (by show (s.1.ov x0).isSome = true; rw [h]; rfl) hu).trans h, fun hv => ?_⟩
  rcases st.new x0 hv with h1 | h1
  · exact hu h1
  · have h1 : s.1.ov x0 = none := h1
    rw [h1] at h; cases h
/-- what is known of the heap between two deeds. -/
structure Kn (s : Hp × Nat) (q : Nat) (x0 x1 x2 : Nat) : Prop where
  top : s.1.m.top ≤ 24 + 250 * q
  cnt : s.1.t.count ≤ 8 + 10 * q
  n : s.1.m.n = 8000
  tn : s.1.t.n = 800
  j : Gens s.1 s.2
  k0 : (s.1.look x0).isSome = true
  k1 : (s.1.look x1).isSome = true
  k2 : (s.1.look x2).isSome = true
theorem Kn.step {s s' : Hp × Nat} {q x0 x1 x2 k m : Nat} {U V : List Nat} (h : Kn s q x0 x1 x2) (st : St (engJ keeps_gens b) s U s' V k m) (hk : k ≤ 10) (hm : m ≤ 240) : Kn s' (q + 1) x0 x1 x2 := by
  have a1 := h.top; have a2 := h.cnt
  have e1 : s'.1.m.top = s.1.m.top + m := st.mv.top
  have e2 : s'.1.t.count = s.1.t.count + k := st.mv.cnt
  exact ⟨by omega, by omega, st.mv.n.trans h.n, st.mv.tn.trans h.tn, st.mv.inv, st.mv.ok _ h.k0, st.mv.ok _ h.k1, st.mv.ok _ h.k2⟩
variable {s : Hp × Nat} {q x0 x1 x2 t : Nat} {es : List Ent} {us : List Nat} {F : List HP}
/-- a put in a known heap. -/
theorem kput_c (h : Kn s q x0 x1 x2) (hq : q ≤ 20) (hT : TrS (engJ keeps_gens b) s t es us) (hn : es.length ≤ 1000) {u : UInt8} {p : Option Addr} {c x : Nat} (hk : RdB F p [u]) (hx : x = 0 ∨ (s.1.look x).isSome = true) (hs : Sat (HeapH s.1 .nilIface b :: F) w) {A o C : KV} (hc : Cut (kv es) [u] A o C) :
    Calls Tryz.prog 11 #[.pointer (some ⟨b, 0, none⟩), .int .u64 (t : Int), .slice p 1 c, .int .u64 (x : Int)] w fun e w' => ∃ (s' : Hp × Nat) (es' : List Ent) (us' : List Nat) (k m old : Nat) (had : Bool), e = .returned (.tuple #[.int .u64 (old : Int), .bool had, .int .i64 0]) ∧ (o = [] ∧ had = false ∧ old = 0 ∨ o = [([u], old)] ∧ had = true) ∧
      kv es' = A ++ ([u], x) :: C ∧ Kn s' (q + 1) x0 x1 x2 ∧ TrS (engJ keeps_gens b) s' t es' us' ∧ St (engJ keeps_gens b) s us s' us' k m ∧ Sat (HeapH s'.1 .nilIface b :: F) w' := by
  have a1 := h.top; have a2 := h.cnt; have a3 := h.n; have a4 := h.tn
  refine (gput_c (E := engJ keeps_gens b) (s := s) (key := [u]) (toS keeps_gens hs) h.j hT (by omega) (by simp) rfl hk hx (by show s.1.m.top + 240 + [u].length / 8 ≤ s.1.m.n; simp; omega) (by show s.1.t.count + 10 ≤ s.1.t.n; omega)).mono ?_
  rintro e w5 ⟨s1, es1, us1, k, m, old, had, A', o', C', rfl, c1, c2, c3, T1, st1, q1, q2, h5⟩
  obtain ⟨rfl, rfl, rfl⟩ := cut_is c1 (srt_kv.1 hT.tree.srt) hc
  exact ⟨s1, es1, us1, k, m, old, had, rfl, c3, c2, h.step st1 q1 (by simpa using q2), T1, st1, ofS keeps_gens h5⟩
theorem ktake_c (h : Kn s q x0 x1 x2) (hT : TrS (engJ keeps_gens b) s t es us) (hn : es.length ≤ 1000) {u : UInt8} {p : Option Addr} {c : Nat} (hk : RdB F p [u]) (hs : Sat (HeapH s.1 .nilIface b :: F) w) {A o C : KV} (hc : Cut (kv es) [u] A o C) :
    Calls Tryz.prog 10 #[.pointer (some ⟨b, 0, none⟩), .int .u64 (t : Int), .slice p 1 c] w fun e w' => ∃ (s' : Hp × Nat) (es' : List Ent) (us' : List Nat) (old : Nat) (had : Bool), e = .returned (.tuple #[.int .u64 (old : Int), .bool had, .int .i64 0]) ∧ (o = [] ∧ had = false ∧ old = 0 ∨ o = [([u], old)] ∧ had = true) ∧
      kv es' = A ++ C ∧ Kn s' (q + 1) x0 x1 x2 ∧ TrS (engJ keeps_gens b) s' t es' us' ∧ St (engJ keeps_gens b) s us s' us' 0 0 ∧ Sat (HeapH s'.1 .nilIface b :: F) w' := by
  refine (eTake_c (E := engJ keeps_gens b) (s := s) (key := [u]) (toS keeps_gens hs) h.j hT (by omega) (by simp) rfl hk).mono ?_
  rintro e w10 ⟨s3, es3, us3, tk, had, A', o', C', rfl, c1, c2, c3, T3, st3, h12⟩
  obtain ⟨rfl, rfl, rfl⟩ := cut_is c1 (srt_kv.1 hT.tree.srt) hc
  exact ⟨s3, es3, us3, tk, had, rfl, c3, c2, h.step st3 (by omega) (by omega), T3, st3, ofS keeps_gens h12⟩
end
set_option maxHeartbeats 4000000 in
theorem known_c {W : World} (hs0 : Sat [Base W] w) : Calls Tryz.prog 4 #[] w (Ret (.bool true) (Sat [Base W])) := by
  have hJ := keeps_gens
  refine S_law13_TreeKnown_ok _ _ ?_
  unfold S_law13_TreeKnown
  refine (ground_c hJ (n := 8000) (k := 800) (m := 2) (by omega) (by omega) (by omega) (by omega) (by omega) hs0).mono ?_
  rintro e w0 ⟨b, H, ts, xs, r, tp, xp, tc, xc, g, hts, hxs, rfl, h0⟩
  refine ⟨_, _, _, _, _, _, _, _, rfl, ?_⟩
  refine (awake13_c h0).mono ?_
  rintro e w1 ⟨rfl, h0⟩
  refine ⟨_, rfl, cond_f rfl (cond_f rfl ?_)⟩
  obtain ⟨t1, t2, rfl⟩ : ∃ t1 t2, ts = [t1, t2] := two_of hts
  obtain ⟨x0, hx0⟩ : ∃ x, xs[0]? = some x := ⟨_, List.getElem?_eq_getElem (by omega)⟩
  obtain ⟨x1, hx1⟩ : ∃ x, xs[1]? = some x := ⟨_, List.getElem?_eq_getElem (by omega)⟩
  obtain ⟨x2, hx2⟩ : ∃ x, xs[2]? = some x := ⟨_, List.getElem?_eq_getElem (by omega)⟩
  have o0 := g.xo 0 x0 hx0
  have hT1 : TrS (engJ keeps_gens b) (H, 9) t1 [] [t1] := gnd_ok g (by simp) b keeps_gens 9
  have hT2 : TrS (engJ keeps_gens b) (H, 9) t2 [] [t2] := gnd_ok g (by simp) b keeps_gens 9
  have hne : t2 ≠ t1 := by
    have := g.nd
    simp at this
    exact fun e => this.1.1 e.symm
  have hx0t1 : x0 ≠ t1 := fun e => by rw [e, g.tree t1 (by simp)] at o0; simp [treeO] at o0
  have hx0t2 : x0 ≠ t2 := fun e => by rw [e, g.tree t2 (by simp)] at o0; simp [treeO] at o0
  have kn : Kn (H, 9) 0 x0 x1 x2 := ⟨by show H.m.top ≤ _; rw [g.top, hxs]; simp, by show H.t.count ≤ _; rw [g.cnt, hxs]; simp, g.n, g.tn, g.j, gnd_x g hx0, gnd_x g hx1, gnd_x g hx2⟩
  clear g hts
  have hcn : ∀ u : UInt8, Cut (kv ([] : List Ent)) [u] [] [] [] := fun u => ⟨rfl, by simp, by simp, .inl rfl⟩
  refine own_word h0 1 rfl rfl (j := 0) rfl rfl ?_
  refine lay_c (u := 97) h0 fun b0 w2 h1 => ?_
  refine (tget_c (key := [97]) (Sat.pull h1 1 rfl) hT1.tree (by simp) (by simp) rfl (RdB.str 0 rfl ⟨_, rfl⟩)).mono ?_
  rintro e w3 ⟨A, o, C, y, had, c1, c2, rfl, h2⟩
  obtain ⟨rfl, rfl, rfl⟩ := cut_nil c1
  obtain ⟨rfl, rfl⟩ : had = false ∧ y = 0 := by
    rcases c2 with ⟨_, a, b⟩ | ⟨a, _⟩
    · exact ⟨a, b⟩
    · simp at a
  refine ⟨_, _, _, rfl, ?_⟩
  have h3 := (h2.del 1 rfl).drew
  refine ⟨fun w' => ∃ T, Sat (Own 32 1 tp 2 tc (words [t1, t2]) :: Own 32 1 xp 5 xc (words xs) :: T) w', hcl h3, ?_⟩
  refine own_wordQ h3 1 rfl (fun w ⟨T, h⟩ => ⟨_, 0, h, rfl⟩) rfl (j := 0) rfl rfl ?_
  refine own_wordQ h3 2 rfl (fun w ⟨T, h⟩ => ⟨_, 1, h, rfl⟩) hxs.symm hx0 rfl ?_
  refine layC_c (u := 98) h3 fun b1 w4 h4 => ?_
  refine (kput_c kn (by omega) hT1 (by simp) (RdB.str 0 rfl ⟨_, rfl⟩) (.inr kn.k0) (Sat.pull h4 1 rfl) (hcn 98)).mono ?_
  rintro e w5 ⟨s1, es1, us1, k, m, old, had, rfl, c3, e1, kn, T1, st, h5⟩
  obtain ⟨rfl, rfl⟩ : had = false ∧ old = 0 := by
    rcases c3 with ⟨_, a, b⟩ | ⟨a, _⟩
    · exact ⟨a, b⟩
    · simp at a
  refine ⟨_, _, _, rfl, ?_⟩
  obtain ⟨hT2, hd2⟩ := hT2.other st (by simpa using hne)
  obtain ⟨o0, ox1⟩ := ov_keep st o0 (by simpa using hx0t1)
  have len1 : es1.length = 1 := by rw [← kv_len, e1]; rfl
  have h6 := (h5.del 1 rfl).drew
  clear st c3 c2 c1 h5 h4 h3 h2 h1 h0 hT1
  refine ⟨fun w' => ∃ T, Sat (Own 32 1 tp 2 tc (words [t1, t2]) :: Own 32 1 xp 5 xc (words xs) :: T) w', hcl h6, ?_⟩
  refine own_wordQ h6 1 rfl (fun w ⟨T, h⟩ => ⟨_, 0, h, rfl⟩) rfl (j := 0) rfl rfl ?_
  refine own_wordQ h6 2 rfl (fun w ⟨T, h⟩ => ⟨_, 1, h, rfl⟩) hxs.symm hx1 rfl ?_
  refine layC_c (u := 98) h6 fun b2 w6 h7 => ?_
  have hc1 : Cut (kv es1) [98] [] [([98], x0)] [] := ⟨by rw [e1]; rfl, by simp, by simp, .inr ⟨_, rfl⟩⟩
  refine (kput_c kn (by omega) T1 (by omega) (RdB.str 0 rfl ⟨_, rfl⟩) (.inr kn.k1) (Sat.pull h7 1 rfl) hc1).mono ?_
  rintro e w7 ⟨s2, es2, us2, k, m, old, had, rfl, c3, e2, kn, T2, st, h8⟩
  obtain ⟨rfl, rfl⟩ : had = true ∧ x0 = old := by
    rcases c3 with ⟨a, _⟩ | ⟨a, a2⟩
    · simp at a
    · simp at a; exact ⟨a2, a⟩
  refine ⟨_, _, _, rfl, ?_⟩
  obtain ⟨hT2, hd2⟩ := hT2.other st hd2
  obtain ⟨o0, ox1⟩ := ov_keep st o0 ox1
  have len2 : es2.length = 1 := by rw [← kv_len, e2]; rfl
  have h9 := h8.del 1 rfl
  clear st c3 h8 h7 h6 T1
  refine own_word h9 1 rfl rfl (j := 0) rfl rfl ?_
  refine (tcnt_c h9 T2.tree (by omega)).mono ?_
  rintro e w8 ⟨rfl, h10⟩
  refine ⟨_, _, rfl, ?_⟩
  refine own_word h10 1 rfl rfl (j := 0) rfl rfl ?_
  refine lay_c (u := 98) h10 fun b3 w9 h11 => ?_
  have hc2 : Cut (kv es2) [98] [] [([98], x1)] [] := ⟨by rw [e2]; rfl, by simp, by simp, .inr ⟨_, rfl⟩⟩
  refine (ktake_c kn T2 (by omega) (RdB.str 0 rfl ⟨_, rfl⟩) (Sat.pull h11 1 rfl) hc2).mono ?_
  rintro e w10 ⟨s3, es3, us3, tk, had, rfl, c3, e3, kn, T3, st, h12⟩
  obtain ⟨rfl, rfl⟩ : had = true ∧ x1 = tk := by
    rcases c3 with ⟨a, _⟩ | ⟨a, a2⟩
    · simp at a
    · simp at a; exact ⟨a2, a⟩
  refine ⟨_, _, _, rfl, ?_⟩
  obtain ⟨hT2, hd2⟩ := hT2.other st hd2
  obtain ⟨o0, ox1⟩ := ov_keep st o0 ox1
  have len3 : es3.length = 0 := by rw [← kv_len, e3]; rfl
  have h13 := h12.del 1 rfl
  clear st c3 h12 h11 h10 h9 T2
  refine own_word h13 1 rfl rfl (j := 0) rfl rfl ?_
  refine lay_c (u := 98) h13 fun b4 w11 h14 => ?_
  have hc3 : Cut (kv es3) [98] [] [] [] := ⟨by rw [e3]; rfl, by simp, by simp, .inl rfl⟩
  refine (ktake_c kn T3 (by omega) (RdB.str 0 rfl ⟨_, rfl⟩) (Sat.pull h14 1 rfl) hc3).mono ?_
  rintro e w12 ⟨s4, es4, us4, tk2, had, rfl, c3, e4, kn, T4, st, h15⟩
  obtain ⟨rfl, rfl⟩ : had = false ∧ tk2 = 0 := by
    rcases c3 with ⟨_, a, b⟩ | ⟨a, _⟩
    · exact ⟨a, b⟩
    · simp at a
  refine ⟨_, _, _, rfl, ?_⟩
  obtain ⟨hT2, hd2⟩ := hT2.other st hd2
  obtain ⟨o0, ox1⟩ := ov_keep st o0 ox1
  have h16 := h15.del 1 rfl
  clear st c3 h15 h14 h13 T3 T4
  rw [len2]
  refine cond_f rfl (cond_f rfl (cond_f rfl (cond_f rfl (cond_f rfl ?_))))
  refine own_word h16 2 rfl hxs.symm hx0 rfl (cond_f (by simp) (cond_f rfl (cond_f rfl (cond_f rfl (cond_f rfl ?_)))))
  refine own_word h16 2 rfl hxs.symm hx1 rfl (cond_f (by simp) (cond_f rfl (cond_f rfl (cond_f rfl ?_))))
  -- the other tree
  refine own_word h16 1 rfl rfl (j := 1) rfl rfl ?_
  refine lay_c (u := 97) h16 fun b5 w13 h17 => ?_
  refine (kput_c (x := 0) kn (by omega) hT2 (by simp) (RdB.str 0 rfl ⟨_, rfl⟩) (.inl rfl) (Sat.pull h17 1 rfl) (hcn 97)).mono ?_
  rintro e w14 ⟨s5, es5, us5, k, m, old5, had5, rfl, c3, e5, kn, T5, st, h18⟩
  refine ⟨_, _, _, rfl, ?_⟩
  obtain ⟨o0, ox2⟩ := ov_keep st o0 (by simpa using hx0t2)
  have len5 : es5.length = 1 := by rw [← kv_len, e5]; rfl
  have h19 := (h18.del 1 rfl).drew
  clear st c3 h18 h17 h16 hT2
  refine ⟨fun w' => ∃ T, Sat (Own 32 1 tp 2 tc (words [t1, t2]) :: Own 32 1 xp 5 xc (words xs) :: T) w', hcl h19, ?_⟩
  refine own_wordQ h19 1 rfl (fun w ⟨T, h⟩ => ⟨_, 0, h, rfl⟩) rfl (j := 1) rfl rfl ?_
  refine own_wordQ h19 2 rfl (fun w ⟨T, h⟩ => ⟨_, 1, h, rfl⟩) hxs.symm hx2 rfl ?_
  refine layC_c (u := 99) h19 fun b6 w15 h20 => ?_
  have hc5 : Cut (kv es5) [99] [([97], 0)] [] [] := ⟨by rw [e5]; rfl, by simp; decide, by simp, .inl rfl⟩
  refine (kput_c kn (by omega) T5 (by omega) (RdB.str 0 rfl ⟨_, rfl⟩) (.inr kn.k2) (Sat.pull h20 1 rfl) hc5).mono ?_
  rintro e w16 ⟨s6, es6, us6, k, m, old6, had6, rfl, c3, e6, kn, T6, st, h21⟩
  refine ⟨_, _, _, rfl, ?_⟩
  obtain ⟨o0, ox2⟩ := ov_keep st o0 ox2
  have hj := kn.j
  have e6 : kv es6 = [([97], 0), ([99], x2)] := e6
  have len6 : es6.length = 2 := by rw [← kv_len, e6]; rfl
  have h22 := h21.del 1 rfl
  clear st c3 h21 h20 h19 T5 kn
  have seek : ∀ {A C : KV} {key : K} {i : Nat}, kv es6 = A ++ C → (∀ a ∈ A, lt a.1 key = true) → (∀ c ∈ C, lt c.1 key = false) → i ≤ 2 → (∀ j q, ([([97], 0), ([99], x2)] : KV)[j]? = some q → (lt q.1 key = true ↔ j < i)) → A = ([([97], 0), ([99], x2)] : KV).take i ∧ C = ([([97], 0), ([99], x2)] : KV).drop i := by
    intro A C key i hAC hA hC hi hP
    rw [e6] at hAC
    exact part_at (P := fun q => lt q.1 key = true) hAC hA (fun c hc h => by have := hC c hc; rw [this] at h; cases h) (by simpa using hi) hP
  have two : ∀ {key : K} {i : Nat}, (lt [97] key = true ↔ 0 < i) → (lt [99] key = true ↔ 1 < i) → ∀ j q, ([([97], 0), ([99], x2)] : KV)[j]? = some q → (lt q.1 key = true ↔ j < i) := by
    intro key i h1 h2 j q hq
    match j, hq with
    | 0, hq => simp at hq; subst hq; exact h1
    | 1, hq => simp at hq; subst hq; exact h2
    | j + 2, hq => simp at hq
  refine own_word h22 1 rfl rfl (j := 1) rfl rfl ?_
  refine lay_c (u := 98) h22 fun b7 w17 h23 => ?_
  refine (tseek_c (key := [98]) (Sat.pull h23 1 rfl) T6.tree (by omega) (by simp) rfl (RdB.str 0 rfl ⟨_, rfl⟩)).mono ?_
  rintro e w18 ⟨A, C, a1, a2, a3, hans⟩
  obtain ⟨rfl, rfl⟩ := seek (i := 1) a1 a2 a3 (by omega) (two (by decide) (by decide))
  obtain ⟨p1, l1, cc1, rfl, h24⟩ := ansP_H hans
  refine ⟨_, _, _, _, _, _, rfl, ?_⟩
  have h24 := h24.del 2 rfl
  clear a1 a2 a3 hans
  refine own_word h24 2 rfl rfl (j := 1) rfl rfl ?_
  refine (tseek_c (key := []) h24 T6.tree (by omega) (by simp) rfl RdB.nil).mono ?_
  rintro e w19 ⟨A, C, a1, a2, a3, hans⟩
  obtain ⟨rfl, rfl⟩ := seek (i := 0) a1 a2 a3 (by omega) (two (by simp [lt_nil]) (by simp [lt_nil]))
  obtain ⟨p2, l2, cc2, rfl, h25⟩ := ansP_H hans
  refine ⟨_, _, _, _, _, _, rfl, ?_⟩
  clear a1 a2 a3 hans
  refine own_word h25 3 rfl rfl (j := 1) rfl rfl ?_
  refine lay_c (u := 100) h25 fun b8 w20 h26 => ?_
  refine (tseek_c (key := [100]) (Sat.pull h26 1 rfl) T6.tree (by omega) (by simp) rfl (RdB.str 0 rfl ⟨_, rfl⟩)).mono ?_
  rintro e w21 ⟨A, C, a1, a2, a3, hans⟩
  obtain ⟨rfl, rfl⟩ := seek (i := 2) a1 a2 a3 (by omega) (two (by decide) (by decide))
  obtain ⟨p3, l3, cc3, rfl, h27⟩ := ansP_H hans
  refine ⟨_, _, _, _, _, _, rfl, ?_⟩
  have h27 := h27.del 2 rfl
  clear a1 a2 a3 hans
  refine own_word h27 4 rfl rfl (j := 1) rfl rfl ?_
  refine lay_c (u := 99) h27 fun b9 w22 h28 => ?_
  refine (tlast_c (key := [99]) (Sat.pull h28 1 rfl) T6.tree (by omega) (by simp) rfl (RdB.str 0 rfl ⟨_, rfl⟩)).mono ?_
  rintro e w23 ⟨A, C, a1, _, a2, hans⟩
  obtain ⟨a2, a3⟩ := a2 (by simp)
  obtain ⟨rfl, rfl⟩ := seek (i := 1) a1 a2 a3 (by omega) (two (by decide) (by decide))
  obtain ⟨p4, l4, cc4, rfl, h29⟩ := ansP_H hans
  refine ⟨_, _, _, _, _, _, rfl, ?_⟩
  have h29 := h29.del 2 rfl
  clear a1 a2 a3 hans
  refine own_word h29 5 rfl rfl (j := 1) rfl rfl ?_
  refine (tlast_c (key := []) h29 T6.tree (by omega) (by simp) rfl RdB.nil).mono ?_
  rintro e w24 ⟨A, C, a1, a2, _, hans⟩
  have hC := a2 rfl
  subst hC
  rw [List.append_nil, e6] at a1
  subst a1
  obtain ⟨p5, l5, cc5, rfl, h30⟩ := ansP_H hans
  refine ⟨_, _, _, _, _, _, rfl, ?_⟩
  clear a2 hans
  refine own_word h30 7 rfl hxs.symm hx0 rfl ?_
  refine lay_c (u := 97) h30 fun b10 w25 h31 => ?_
  have hm6 := sat_wf h30
  have hE7 : ofE s6.1 x0 1 = 7 := by unfold ofE; rw [o0]; simp
  have g7 := tget_no (Sat.pull h31 1 rfl) (ov_lt (Sat.pull h31 1 rfl) o0) (some ⟨b10, 0, none⟩) 1 1 (by rw [hE7]; decide)
  rw [hE7] at g7
  refine g7.mono ?_
  rintro e w26 ⟨rfl, h32⟩
  refine ⟨_, _, _, rfl, ?_⟩
  refine lay_c (u := 97) h32 fun b11 w27 h33 => ?_
  have hE6 : ofE s6.1 77 1 = 6 := by unfold ofE Hp.ov; rw [low_none hj hm6 (by omega)]; rfl
  have g6 := tget_no (t := 77) (Sat.pull h33 1 rfl) (by omega) (some ⟨b11, 0, none⟩) 1 1 (by rw [hE6]; decide)
  rw [hE6] at g6
  refine g6.mono ?_
  rintro e w28 ⟨rfl, h34⟩
  refine ⟨_, _, _, rfl, ?_⟩
  have h34 := (h34.del 1 rfl).del 1 rfl
  refine cond_t rfl (cond_t rfl ?_)
  refine (found_c (want := [99]) h34 (i := 5) rfl (.inl ⟨by simp, x2, rfl⟩)).mono ?_
  rintro e w29 ⟨rfl, h35⟩
  refine ⟨_, rfl, cond_t rfl ?_⟩
  refine (found_c (want := [97]) h35 (i := 4) rfl (.inl ⟨by simp, 0, rfl⟩)).mono ?_
  rintro e w30 ⟨rfl, h36⟩
  refine ⟨_, rfl, cond_t rfl ?_⟩
  refine (found_c (want := []) h36 (i := 3) rfl (.inr ⟨rfl, rfl⟩)).mono ?_
  rintro e w31 ⟨rfl, h37⟩
  refine ⟨_, rfl, cond_t rfl ?_⟩
  refine (found_c (want := [97]) h37 (i := 2) rfl (.inl ⟨by simp, 0, rfl⟩)).mono ?_
  rintro e w32 ⟨rfl, h38⟩
  refine ⟨_, rfl, cond_t rfl ?_⟩
  refine (found_c (want := [99]) h38 (i := 1) rfl (.inl ⟨by simp, x2, rfl⟩)).mono ?_
  rintro e w33 ⟨rfl, h39⟩
  refine ⟨_, rfl, cond_t rfl ?_⟩
  refine (need_c 0 (by omega) _).mono ?_
  rintro e w34 ⟨rfl, rfl⟩
  refine ⟨_, rfl, cond_t rfl ?_⟩
  refine (need_c 80 (by omega) _).mono ?_
  rintro e w34 ⟨rfl, rfl⟩
  refine ⟨_, rfl, cond_t rfl ?_⟩
  refine S_tree_Need_ok _ _ _ ?_
  unfold S_tree_Need
  refine ⟨by omega, _, rfl, cond_t (by decide) (cond_t rfl ⟨rfl, ?_⟩)⟩
  exact ((((((((h39.drop).drop).drop).drop).drop).drop).drop).drop)
end

set_option maxRecDepth 100000 in
theorem known_lifted (os : Os) (started : os.Started) (H : Type) (enc : TypeId × Value → H) :
    ReturnsInHanded {} Tryz.checked os 4 .any (Rows.treeKnownSpec.pre6 enc Tryz.prog Tryz.f4 Rows.treeKnownRow.domain false) (Rows.treeKnownSpec.post enc Tryz.prog Tryz.f4 false true false false) := by
  refine returnsInHanded_of_change (C := Tryz.checked) own started (by kernel_rfl) Tryz.func4
    (ChangeSpec.witness6 (enc := enc) (C := Tryz.checked) false ⟨#[], #[], []⟩ 8 (by kernel_rfl) (by kernel_rfl) (by kernel_rfl) (by kernel_rfl)) ?_
  intro W base args ds gs before hval hW hcnd _
  have hW' : DataW.Whole enc Tryz.prog Tryz.f4.params.toList Rows.treeKnownSpec.vars false W args.toList ds gs before := hW
  obtain ⟨p, q, hA, hV, _⟩ := hW'
  rw [Tryz.params4] at hA
  obtain ⟨hargs, rfl, rfl⟩ := trodAll_nil hA
  obtain rfl : args = #[] := by cases args; simp_all
  refine (known_c (Sat.ofBase W)).mono fun e W' ⟨he, hs⟩ => ?_
  exact ⟨_, he, law_post (tb := 4) laidOut (by decide +kernel) (by kernel_rfl) Tryz.underlying4 rfl hW ⟨rfl, rfl, rfl⟩ (hs.below 0 rfl)⟩

theorem known_holds : Rows.TreeKnownSaid :=
  OpenClaim.holds_of_wide 4 Tryz.f4 rfl rfl rfl rfl rfl rfl rfl ⟨rfl, rfl, rfl, rfl, rfl⟩ rfl rfl rfl rfl rfl (by kernel_rfl) Tryz.func4 (by kernel_rfl)
    (of_decide_eq_true (by kernel_rfl)) (by unfold Func.isWrapper; first | (rw [if_pos (by decide +kernel)]; kernel_rfl) | (rw [if_neg (by decide +kernel)]; exact ⟨rfl, rfl⟩))
    (fun os started H enc _ => known_lifted os started H enc)
end Go.Proofs.YtpicofkhioalkaaGreat
