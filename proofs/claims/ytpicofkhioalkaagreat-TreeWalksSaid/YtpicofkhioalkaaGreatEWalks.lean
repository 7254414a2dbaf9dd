
/- 'TreeWalks' answers true: Seek from key to key tells the entries in order, Last from the end the same the other way round; as many as Count says. No conditions. -/
import Derived.Test.YtpicofkhioalkaaGreatDg
set_option maxRecDepth 100000
namespace Go.Td
open Go Go.Hm Go.Kd
theorem cut_mem {l A o C : KV} {key : K} {x : Nat} (h : Cut l key A o C) (hs : SrtK l) (hx : (key, x) ∈ l) : o = [(key, x)] := by
  have hx2 := hx
  rw [h.eq] at hx
  rcases List.mem_append.1 hx with hx | hx
  · rcases List.mem_append.1 hx with hx | hx
    · have := h.lo _ hx; rw [lt_irrefl] at this; cases this
    · rcases h.at_ with e | ⟨y, e⟩
      · rw [e] at hx; simp at hx
      · rw [e] at hx ⊢
        simp only [List.mem_cons, List.not_mem_nil, or_false] at hx
        rw [hx]
  · have := h.hi _ hx; rw [lt_irrefl] at this; cases this
theorem srt_get {l : KV} (hs : SrtK l) {a b : Nat} {x y : K × Nat} (hab : a < b) (ha : l[a]? = some x) (hb : l[b]? = some y) : lt x.1 y.1 = true := by
  have hal := kget_lt ha; have hbl := kget_lt hb
  rw [List.getElem?_eq_getElem hal] at ha; rw [List.getElem?_eq_getElem hbl] at hb
  simp only [Option.some.injEq] at ha hb
  subst ha; subst hb
  exact List.pairwise_iff_getElem.1 hs a b hal hbl hab
theorem srt_lt {l : KV} (hs : SrtK l) {i : Nat} {p : K × Nat} (hi : l[i]? = some p) : ∀ j q, l[j]? = some q → (lt q.1 p.1 = true ↔ j < i) := by
  intro j q hq
  rcases Nat.lt_trichotomy j i with h | h | h
  · simp [srt_get hs h hq hi, h]
  · subst h
    rw [hi] at hq; cases hq
    rw [lt_irrefl]; simp
  · rw [lt_asymm (srt_get hs h hi hq)]; simp; omega
end Go.Td
namespace Go.Proofs.YtpicofkhioalkaaGreat
open Go Go.Lw Go.Wd Go.Am Go.Tb Go.Hm Go.Kd Go.Td Go.ChangeShapes Go.WideShapes Go.ChangeAt Go.RowKit
theorem eok_str : EOK Tryz.prog 38 9 1 16 := ⟨by kernel_rfl, ⟨_, _, rfl, rfl, rfl, rfl, rfl⟩, by omega⟩
def strsV (l : List K) : List Value := l.map fun x => .string (str x)
theorem strsV_get {l : List K} {i : Nat} {x : K} (h : l[i]? = some x) : (strsV l)[i]? = some (.string (str x)) := by simp [strsV, h]
theorem strsV_snoc (l : List K) (x : K) : strsV (l ++ [x]) = strsV l ++ [.string (str x)] := by simp [strsV]
theorem wtmod5 (i : Nat) : Int.tmod (i : Int) 5 = ((i % 5 : Nat) : Int) := tmod_nat i 5
set_option maxHeartbeats 4000000 in
theorem walks_c (W : World) {p1 : Option Addr} {l1 c1 : Nat} {D : List Dd} (hz : ArgD W p1 l1 D) : Calls Tryz.prog 3 #[.slice p1 l1 c1] W (Ret (.bool true) (Go.RowKit.Below W.heap.size W)) := by
  have hll : l1 = D.length := hz.1
  subst hll
  refine S_law13_TreeWalks_ok _ _ _ _ _ ?_
  unfold S_law13_TreeWalks
  have hb0 : Sat [Ro W (Mem.of W)] W := Sat.ofBase W
  refine (awake13_c hb0).mono ?_
  rintro e w0 ⟨rfl, h0⟩
  refine ⟨_, rfl, cond_f rfl ?_⟩
  by_cases hD : D.length ≤ 200
  rotate_left
  · exact cond_t (by simp; omega) ⟨rfl, h0.roBelow 0 rfl (Ext.refl _)⟩
  refine cond_f (by simp; omega) ?_
  refine (ground_c keeps_any (n := 262144) (k := 65536) (m := 1) (by omega) (by omega) (by omega) (by omega) (by omega) h0).mono ?_
  rintro e w1 ⟨b, H, ts, xs, r, tp, xp, tc, xc, g, hts, hxs, rfl, h1⟩
  refine ⟨_, _, _, _, _, _, _, _, rfl, cond_f rfl ?_⟩
  obtain ⟨t, rfl⟩ : ∃ t, ts = [t] := List.length_eq_one_iff.1 hts
  refine ⟨fun i w' => ∃ (j : Nat) (s : Hp × Nat) (es : List Ent) (us : List Nat), i = j ∧ j ≤ D.length ∧ Am1 s b t es us xs j 200 ∧
      Sat (HeapH s.1 .nilIface b :: Own 32 1 tp 1 tc (words [t]) :: Own 32 1 xp 5 xc (words xs) :: [Ro W (Mem.of W)]) w', fun i _ => ((D.length : Int) - i).toNat,
    ⟨0, (H, 0), [], [t], rfl, by omega, gnd_am g hxs 200, h1⟩, ?_⟩
  clear g h1 h0 hb0
  rintro i w2 ⟨j, s, es, us, rfl, hj, am, h2⟩
  unfold S_law13_TreeWalks_l2
  have hsr := srt_kv.1 am.tr.tree.srt
  have hkl := kv_len es
  have hel := am.len
  by_cases hlt : j < D.length
  · refine cond_t (by simp; omega) ?_
    intro k0 hk0
    obtain ⟨d, hd⟩ : ∃ d, D[j]? = some d := ⟨_, List.getElem?_eq_getElem hlt⟩
    obtain ⟨ad, kp, kc, hI, r0, r1, r2, r3, hkp, hkr⟩ := hz.at hd
    have hnext : ∀ (s' : Hp × Nat) (es' : List Ent) (us' : List Nat) w', Am1 s' b t es' us' xs (j + 1) 200 → Sat (HeapH s'.1 .nilIface b :: Own 32 1 tp 1 tc (words [t]) :: Own 32 1 xp 5 xc (words xs) :: [Ro W (Mem.of W)]) w' → k0 w' := by
      intro s' es' us' w' am' h'
      refine hk0 _ ?_
      unfold S_law13_TreeWalks_j0
      exact ⟨⟨j + 1, s', es', us', by rw [wrapI64 (by omega) (by omega)]; omega, by omega, am', h'⟩, by rw [wrapI64 (by omega) (by omega)]; dsimp only; omega⟩
    refine hI _ _ rfl (LdS.at (r3 _ (h2.has 3 rfl)) ?_)
    have up1 : ∀ {s' : Hp × Nat} {es' : List Ent} {us' : List Nat}, Am1 s' b t es' us' xs j 200 → Am1 s' b t es' us' xs (j + 1) 200 := fun a => ⟨a.tr, by have := a.len; omega, a.kl, by have := a.top; omega, by have := a.cnt; omega, a.n, a.tn, a.xlen, a.x⟩
    by_cases hlong : 200 < d.k.length
    · exact cond_t (by simp; omega) (hnext s es us w2 (up1 am) h2)
    refine cond_f (by simp; omega) ?_
    have hcl : ∀ w', (∃ T, Sat (Own 32 1 tp 1 tc (words [t]) :: Ro W (Mem.of W) :: T) w') → Has (Mem.of W) w' := fun w' ⟨T, h⟩ => h.has 1 rfl
    have h2c : ∃ T, Sat (Own 32 1 tp 1 tc (words [t]) :: Ro W (Mem.of W) :: T) w2.drew := ⟨_, Sat.pull (Sat.pull h2.drew 3 rfl) 2 rfl⟩
    have tk : ∃ C0 : World → Prop, C0 (World.drew w2) ∧ IdxC tp 1 0 1 fun a2 => LdIQ .u64 C0 a2 fun n1 => IdxC p1 D.length (j : Int) 4 fun a3 => LdSQ C0 (Addr.add a3 3) fun s1p s1l s1c =>
        Calls Tryz.prog 10 #[.pointer (some ⟨b, 0, none⟩), .int .u64 n1, .slice s1p s1l s1c] (World.drew w2) fun e2 w3 => ∃ (r5 : Int), ∃ (r6 : Bool), ∃ (r7 : Int), e2 = .returned (.tuple #[.int .u64 r5, .bool r6, .int .i64 r7]) ∧
        cond (r7 != 0) (Ret (.bool true) (Go.RowKit.Below W.heap.size W) (.returned (.bool false)) w3) (k0 w3) := by
      refine ⟨fun w' => ∃ T, Sat (Own 32 1 tp 1 tc (words [t]) :: Ro W (Mem.of W) :: T) w', h2c, ?_⟩
      refine own_wordQ h2 1 rfl (fun w ⟨T, h⟩ => ⟨_, 0, h, rfl⟩) rfl (j := 0) rfl rfl ?_
      refine hI _ _ rfl ⟨_, _, _, fun w' hw => ⟨_, _, _, r3 w' (hcl w' hw), rfl⟩, ?_⟩
      refine (am_take am (by omega) h2.drew (key := d.k) (by omega) rfl (RdB.arg 2 rfl hkp hkr)).mono ?_
      rintro e w3 ⟨s', es', us', old, had, A, o, C, rfl, c1, c2, c3, am', h3⟩
      exact ⟨_, _, _, rfl, cond_f rfl (hnext s' es' us' w3 (up1 am') h3)⟩
    refine hI _ _ rfl (LdI.at (r0 _ (h2.has 3 rfl)) ?_)
    by_cases h4 : d.do_ == 4
    · exact cond_t h4 tk
    refine cond_f (by simpa using h4) ?_
    refine hI _ _ rfl (LdI.at (r0 _ (h2.has 3 rfl)) ?_)
    by_cases h5 : d.do_ == 5
    · exact cond_t h5 tk
    refine cond_f (by simpa using h5) ?_
    have hj5 : j % 5 < 5 := Nat.mod_lt _ (by omega)
    obtain ⟨x, hx⟩ : ∃ x, xs[j % 5]? = some x := ⟨_, List.getElem?_eq_getElem (by rw [am.xlen]; exact hj5)⟩
    rw [wtmod5]
    refine ⟨fun w' => ∃ T, Sat (Own 32 1 tp 1 tc (words [t]) :: Own 32 1 xp 5 xc (words xs) :: Ro W (Mem.of W) :: T) w', ⟨_, Sat.pull (Sat.pull (Sat.pull h2.drew 3 rfl) 3 rfl) 3 rfl⟩, ?_⟩
    refine own_wordQ h2 1 rfl (fun w ⟨T, h⟩ => ⟨_, 0, h, rfl⟩) rfl (j := 0) rfl rfl ?_
    refine hI _ _ rfl ⟨_, _, _, fun w' ⟨T, h⟩ => ⟨_, _, _, r3 w' (h.has 2 rfl), rfl⟩, ?_⟩
    refine ⟨by omega, ?_⟩
    refine own_wordQ h2 2 rfl (fun w ⟨T, h⟩ => ⟨_, 1, h, rfl⟩) am.xlen.symm hx rfl ?_
    refine (am_put am (by omega) h2.drew (key := d.k) (by omega) (by omega) rfl (RdB.arg 2 rfl hkp hkr) (List.mem_of_getElem? hx)).mono ?_
    rintro e w3 ⟨s', es', us', old, had, A, o, C, rfl, c1, c2, c3, am', h3⟩
    exact ⟨_, _, _, rfl, cond_f rfl (hnext s' es' us' w3 am' h3)⟩
  refine cond_f (by simp; omega) ?_
  refine own_word h2 1 rfl rfl (j := 0) rfl rfl ?_
  refine (tcnt_c h2 am.tr.tree (by omega)).mono ?_
  rintro e w3 ⟨rfl, h3⟩
  refine ⟨_, _, rfl, cond_f rfl ?_⟩
  have hklen : ∀ a ∈ kv es, a.1.length ≤ 200 := am.kl
  have hT : Tree s.1.ov t es us := am.tr.tree
  have hn6 : es.length ≤ 1000000 := by omega
  have hn2 : (kv es).length ≤ 200 := by omega
  clear am hel
  rw [← hkl]
  generalize s.1 = H' at *
  refine NewC.ofRow h3 fun b0 w4 h4 => ?_
  have h4 : Sat (Own 5 1 (some ⟨b0, 0, none⟩) 0 0 (bytesV []) :: HeapH H' .nilIface b :: Own 32 1 tp 1 tc (words [t]) :: Own 32 1 xp 5 xc (words xs) :: [Ro W (Mem.of W)]) w4 :=
    Sat.mkOwn (e := 5) (s := 1) (g := b0) (l := 0) (c := 0) (xs := []) (rest := []) h4 0 rfl rfl (Nat.le_refl _) (by simp only [maxLen]; omega) (by simp)
  refine ⟨fun up ul uc ap al ac i w' => ∃ (q : Nat) (y : K), i = q ∧ q ≤ (kv es).length + 1 ∧ ul = min q (kv es).length ∧ al = y.length ∧ (q ≤ (kv es).length → y = atK (kv es) q) ∧
      Sat (Own 5 1 ap al ac (bytesV y) :: Own 9 1 up ul uc (strsV (((kv es).take q).map Prod.fst)) :: HeapH H' .nilIface b :: Own 32 1 tp 1 tc (words [t]) :: [Ro W (Mem.of W)]) w', fun _ _ _ _ _ _ i _ => (((kv es).length : Int) + 1 - i).toNat,
    ⟨0, [], rfl, by omega, by simp, rfl, fun _ => rfl, ?_⟩, ?_⟩
  · exact Sat.p1 (Sat.ownNil (h4.del 3 rfl) 9 1)
  clear h4 h3 h2
  rintro up ul uc ap al ac i w5 ⟨q, y, rfl, hq, rfl, rfl, hy, h5⟩
  unfold S_law13_TreeWalks_l1
  by_cases hle : q ≤ (kv es).length
  · refine cond_t (by simp; omega) ?_
    intro k1 hk1
    have hy := hy hle
    have hyl : y.length ≤ 16384 := by
      rw [hy]
      cases q with
      | zero => simp [atK]
      | succ q =>
        obtain ⟨p, hp⟩ : ∃ p, (kv es)[q]? = some p := ⟨_, List.getElem?_eq_getElem (by omega)⟩
        have := hklen p (List.mem_of_getElem? hp)
        rw [atK_succ hp]
        simp; omega
    have hap : y ≠ [] → ∃ a, ap = some a := fun h => by obtain ⟨g, hg⟩ := h5.own_some 0 rfl (List.length_pos_iff.2 h); exact ⟨_, hg⟩
    have next : ∀ (z : K) up' uc' ap' ac' w', (q + 1 ≤ (kv es).length → z = atK (kv es) (q + 1)) → Sat (Own 5 1 ap' z.length ac' (bytesV z) :: Own 9 1 up' (min (q + 1) (kv es).length) uc' (strsV (((kv es).take (q + 1)).map Prod.fst)) :: HeapH H' .nilIface b :: Own 32 1 tp 1 tc (words [t]) :: [Ro W (Mem.of W)]) w' → k1 up' (min (q + 1) (kv es).length) uc' ap' z.length ac' w' := by
      intro z up' uc' ap' ac' w' hz' h'
      refine hk1 _ _ _ _ _ _ _ ?_
      unfold S_law13_TreeWalks_j2
      exact ⟨⟨q + 1, z, by rw [wrapI64 (by omega) (by omega)]; omega, by omega, rfl, rfl, hz', h'⟩, by rw [wrapI64 (by omega) (by omega)]; dsimp only; omega⟩
    refine own_word h5 3 rfl rfl (j := 0) rfl rfl ?_
    refine (tseek_c (Sat.pull h5 2 rfl) hT hn6 hyl rfl (RdB.own 0 rfl hap)).mono ?_
    rintro e w6 ⟨A, C, hAC, hA, hC, hans⟩
    obtain ⟨rp, rl, rc, rfl, h6⟩ := ansP_H hans
    refine ⟨_, _, _, _, _, _, rfl, cond_f rfl ?_⟩
    obtain ⟨eA, eC⟩ := part_at (P := fun a => lt a.1 y = true) hAC hA (fun c hc h => by have := hC c hc; rw [this] at h; cases h) hle (by rw [hy]; exact atK_lt hsr hle)
    have hh : C.head? = (kv es)[q]? := by rw [eC, List.head?_drop]
    rw [hh] at h6 ⊢
    cases hp : (kv es)[q]? with
    | none =>
      rw [hp] at h6
      have hql : (kv es).length ≤ q := by
        rcases Nat.lt_or_ge q (kv es).length with h | h
        · rw [List.getElem?_eq_getElem h] at hp; cases hp
        · exact h
      refine cond_f (by simp; omega) (cond_f rfl ?_)
      obtain ⟨⟨rfl, rfl, rfl⟩, h7⟩ := ansH_nil (Sat.pull h6 1 rfl)
      have h8 := Sat.pull (Sat.pull h7 2 rfl) 2 rfl
      have hmin : min q (kv es).length = min (q + 1) (kv es).length := by omega
      have htk : (kv es).take q = (kv es).take (q + 1) := by rw [List.take_of_length_le hql, List.take_of_length_le (by omega)]
      rw [hmin, htk] at h8
      rw [hmin]
      exact next y up uc ap ac w6 (fun h => by omega) h8
    | some p =>
      rw [hp] at h6
      have hql := kget_lt hp
      have hpl := hklen p (List.mem_of_getElem? hp)
      refine cond_f (by simp; omega) (cond_t rfl ?_)
      obtain ⟨⟨rfl, hql2, g, rfl⟩, h7⟩ := ansH_open (Sat.pull h6 1 rfl)
      have h7d := h7.drew
      have hminq : min q (kv es).length = q := by omega
      rw [hminq] at h7d ⊢
      intro k2 hk2
      have fin : k2 w6.drew := by
        refine hk2 _ ?_
        unfold S_law13_TreeWalks_j1
        refine (RdB.str 0 rfl ⟨_, rfl⟩).run h7d rfl ?_
        refine RunS.one eok_str h7d 3 rfl rfl rfl (by omega) (by simp only [maxLen]; omega) fun p' c' w7 h8 => ?_
        have htk : ((kv es).take (q + 1)).map Prod.fst = ((kv es).take q).map Prod.fst ++ [p.1] := by rw [List.take_add_one, hp]; simp
        have h8 : Sat (Str 5 (some ⟨g, 0, none⟩) p.1.length rc (bytesV p.1) :: HeapH H' .nilIface b :: Own 5 1 ap y.length ac (bytesV y) :: Own 9 1 p' (q + 1) c' (strsV (((kv es).take (q + 1)).map Prod.fst)) :: Own 32 1 tp 1 tc (words [t]) :: [Ro W (Mem.of W)]) w7 := by
          rw [htk, strsV_snoc]; exact h8
        refine dup_c (x := p.1) (u := 0) h8 rfl (by omega) (RdB.str 0 rfl ⟨_, rfl⟩) fun p'' c'' w' h' => ?_
        have e1 : p.1.length + 1 = (p.1 ++ [(0 : UInt8)]).length := by simp
        have e2 : q + 1 = min (q + 1) (kv es).length := by omega
        have h9 := Sat.pull ((h'.del 1 rfl).del 2 rfl) 2 rfl
        have h9 := Sat.p1 h9
        rw [e1, e2] at h9 ⊢
        rw [← e2]
        have := next (p.1 ++ [0]) p' c' p'' c'' w' (fun h => (atK_succ hp).symm) (by rw [← e2] at h9 ⊢; exact h9)
        rw [← e2] at this
        exact this
      by_cases hq0 : 0 < q
      · refine cond_t (by simp; omega) ?_
        obtain ⟨p2, hp2⟩ : ∃ p2, (kv es)[q - 1]? = some p2 := ⟨_, List.getElem?_eq_getElem (by omega)⟩
        have hlt2 := srt_get hsr (show q - 1 < q by omega) hp2 hp
        rw [show IntKind.wrap .i64 ((q : Int) - 1) = ((q - 1 : Nat) : Int) by rw [wrapI64 (by omega) (by omega)]; omega]
        refine IdxC.ownAt (k := q - 1) h7d 3 rfl (by omega) fun g2 hg2 => ?_
        have hsg : (strsV (((kv es).take q).map Prod.fst))[(q - 1) * 1]? = some (.string (str p2.1)) := by
          rw [Nat.mul_one]
          refine strsV_get ?_
          rw [List.getElem?_map, List.getElem?_take_of_lt (by omega), hp2]; rfl
        refine LdStr.at (Sat.ownAt h7d 3 rfl hg2 (off := (q - 1) * 1) hsg) ?_
        refine (RdB.str 0 rfl ⟨_, rfl⟩).run h7d rfl ?_
        refine cond_f (by rw [str_toList, str_toList, show Op.bytesLess p2.1 p.1 = true from hlt2]; rfl) fin
      · exact cond_f (by simp; omega) fin
  -- from the end on
  refine cond_f (by simp; omega) ?_
  have hqe : q = (kv es).length + 1 := by omega
  have h5 : Sat (HeapH H' .nilIface b :: Own 32 1 tp 1 tc (words [t]) :: Own 9 1 up (kv es).length uc (strsV ((kv es).map Prod.fst)) :: [Ro W (Mem.of W)]) w5 := by
    have e1 : min q (kv es).length = (kv es).length := by omega
    have e2 : (kv es).take q = kv es := List.take_of_length_le (by omega)
    rw [e1, e2] at h5
    exact Sat.pull (Sat.pull h5.drop 2 rfl) 2 rfl
  have hmin : min q (kv es).length = (kv es).length := by omega
  rw [hmin]
  clear hy hle hq hqe hmin
  refine own_word h5 1 rfl rfl (j := 0) rfl rfl ?_
  refine (tlast_c h5 hT hn6 (key := []) (by simp) rfl RdB.nil).mono ?_
  rintro e w6 ⟨A, C, hAC, hn1, hn2', hans⟩
  have hC := hn1 rfl
  subst hC
  rw [List.append_nil] at hAC
  subst hAC
  obtain ⟨rp, rl, rc, rfl, h6⟩ := ansP_H hans
  refine ⟨_, _, _, _, _, _, rfl, ?_⟩
  refine ⟨fun kp kl kc y is f i w' => ∃ m : Nat, i = (m : Int) - 1 ∧ m ≤ (kv es).length ∧ f = 0 ∧ is = ((kv es).take m).getLast?.isSome ∧ y = (((((kv es).take m).getLast?.map Prod.snd).getD 0 : Nat) : Int) ∧
      Sat (HeapH H' .nilIface b :: AnsH ((kv es).take m).getLast? kp kl kc :: Own 32 1 tp 1 tc (words [t]) :: Own 9 1 up (kv es).length uc (strsV ((kv es).map Prod.fst)) :: [Ro W (Mem.of W)]) w', fun _ _ _ _ _ _ i _ => (i + 1).toNat,
    ⟨(kv es).length, by rw [wrapI64 (by omega) (by omega)], Nat.le_refl _, rfl, by rw [List.take_length], by rw [List.take_length], by rw [List.take_length]; exact h6⟩, ?_⟩
  clear h6 h5
  rintro kp kl kc y is f i w7 ⟨m, rfl, hm, rfl, rfl, rfl, h7⟩
  unfold S_law13_TreeWalks_l0
  cases m with
  | zero =>
    refine cond_f (by simp) (cond_t rfl ⟨rfl, h7.roBelow 4 rfl (Ext.refl _)⟩)
  | succ m =>
    obtain ⟨p, hp⟩ : ∃ p, (kv es)[m]? = some p := ⟨_, List.getElem?_eq_getElem (by omega)⟩
    have hlast : ((kv es).take (m + 1)).getLast? = some p := by rw [List.take_add_one, hp]; simp
    rw [hlast] at h7 ⊢
    have hpl := hklen p (List.mem_of_getElem? hp)
    refine cond_t (by simp) (cond_f rfl (cond_f rfl ?_))
    obtain ⟨⟨rfl, hql2, g, rfl⟩, h8⟩ := ansH_open (Sat.pull h7 1 rfl)
    have h8d := h8.drew
    refine (RdB.str 0 rfl ⟨_, rfl⟩).run h8d rfl ?_
    rw [show ((m + 1 : Nat) : Int) - 1 = ((m : Nat) : Int) by omega]
    refine IdxC.ownAt (k := m) h8d 3 rfl (by omega) fun g2 hg2 => ?_
    have hsg : (strsV ((kv es).map Prod.fst))[m * 1]? = some (.string (str p.1)) := by
      rw [Nat.mul_one]
      exact strsV_get (by rw [List.getElem?_map, hp]; rfl)
    refine LdStr.at (Sat.ownAt h8d 3 rfl hg2 (off := m * 1) hsg) ?_
    refine cond_f (by rw [key_str_eq]; simp) ?_
    refine own_word h8d 2 rfl rfl (j := 0) rfl rfl ?_
    refine (tget_c (Sat.p1 h8d) hT hn6 (key := p.1) (by omega) rfl (RdB.str 0 rfl ⟨_, rfl⟩)).mono ?_
    rintro e w9 ⟨A, o, C, x, had, hc, ho, rfl, h9⟩
    have hmem : (p.1, p.2) ∈ kv es := List.mem_of_getElem? hp
    have hox := cut_mem hc hsr hmem
    have hg : had = true ∧ x = p.2 := by
      rcases ho with ⟨a, _⟩ | ⟨a, a2⟩
      · rw [a] at hox; cases hox
      · rw [a] at hox
        simp only [List.cons.injEq, Prod.mk.injEq, true_and, and_true] at hox
        exact ⟨a2, hox⟩
    obtain ⟨rfl, rfl⟩ := hg
    refine ⟨_, _, _, rfl, cond_f rfl (cond_f rfl (cond_f (by simp) ?_))⟩
    by_cases hp0 : p.1 = []
    · refine cond_t (by simp [hp0]) ⟨?_, h9.roBelow 4 rfl (Ext.refl _)⟩
      have : m = 0 := by
        rcases Nat.eq_zero_or_pos m with h | h
        · exact h
        · obtain ⟨p2, hp2⟩ : ∃ p2, (kv es)[0]? = some p2 := ⟨_, List.getElem?_eq_getElem (by omega)⟩
          have := srt_get hsr h hp2 hp
          rw [hp0, lt_nil] at this; cases this
      subst this
      rfl
    · refine cond_f (by simpa using hp0) ?_
      refine own_word h9 2 rfl rfl (j := 0) rfl rfl ?_
      refine (tlast_c h9 hT hn6 (key := p.1) (by omega) rfl (RdB.str 0 rfl ⟨_, rfl⟩)).mono ?_
      rintro e w10 ⟨A2, C2, hAC2, _, hk2, hans2⟩
      obtain ⟨hA2, hC2⟩ := hk2 hp0
      obtain ⟨eA2, eC2⟩ := part_at (P := fun a => lt a.1 p.1 = true) hAC2 hA2 (fun c hc h => by have := hC2 c hc; rw [this] at h; cases h) (by omega) (srt_lt hsr hp)
      rw [eA2] at hans2
      obtain ⟨rp2, rl2, rc2, rfl, h11⟩ := ansP_H hans2
      refine ⟨_, _, _, _, _, _, rfl, ⟨m, by rw [wrapI64 (by omega) (by omega)], by omega, rfl, rfl, rfl, h11.del 2 rfl⟩, ?_⟩
      rw [wrapI64 (by omega) (by omega)]; dsimp only; omega

set_option maxRecDepth 100000 in
theorem walks_lifted (os : Os) (started : os.Started) (H : Type) (enc : TypeId × Value → H) :
    ReturnsInHanded {} Tryz.checked os 3 .any (Rows.treeWalksSpec.pre6 enc Tryz.prog Tryz.f3 Rows.treeWalksRow.domain false) (Rows.treeWalksSpec.post enc Tryz.prog Tryz.f3 false true false false) := by
  refine returnsInHanded_of_change (C := Tryz.checked) own started (by kernel_rfl) Tryz.func3
    (ChangeSpec.witness6 (enc := enc) (C := Tryz.checked) false ⟨#[], #[.slice none 0 0], []⟩ 8 (by kernel_rfl) (by kernel_rfl) (by kernel_rfl) (by kernel_rfl)) ?_
  intro W base args ds gs before hval hW hcnd _
  have hval : ∀ (j : Nat) t v, Tryz.f3.params[j]? = some t → args[j]? = some v → Value.okWide Tryz.prog W .any base t v := hval
  have hW' : DataW.Whole enc Tryz.prog Tryz.f3.params.toList Rows.treeWalksSpec.vars false W args.toList ds gs before := hW
  obtain ⟨p, q, hA, hV, _⟩ := hW'
  rw [Tryz.params3] at hA hval
  obtain ⟨v0, d0, rfl, rfl, h0⟩ := trodAll_one hA
  obtain ⟨a0, l0, c0, rfl⟩ := okWide_slice Tryz.underlying22 (hval 0 22 v0 rfl rfl)
  obtain ⟨fu0, hf0⟩ := h0
  obtain ⟨q0, m0, L0, e0, hx0⟩ := deeds13_arg hf0
  cases e0
  refine (walks_c W hx0).mono fun e W' ⟨he, hs⟩ => ?_
  exact ⟨_, he, law_post (tb := 4) laidOut (by decide +kernel) (by kernel_rfl) Tryz.underlying4 rfl hW ⟨rfl, rfl, rfl⟩ hs⟩

theorem walks_holds : Rows.TreeWalksSaid :=
  OpenClaim.holds_of_wide 3 Tryz.f3 rfl rfl rfl rfl rfl rfl rfl ⟨rfl, rfl, rfl, rfl, rfl⟩ rfl rfl rfl rfl rfl (by kernel_rfl) Tryz.func3 (by kernel_rfl)
    (of_decide_eq_true (by kernel_rfl)) (by unfold Func.isWrapper; first | (rw [if_pos (by decide +kernel)]; kernel_rfl) | (rw [if_neg (by decide +kernel)]; exact ⟨rfl, rfl⟩))
    (fun os started H enc _ => walks_lifted os started H enc)
end Go.Proofs.YtpicofkhioalkaaGreat
