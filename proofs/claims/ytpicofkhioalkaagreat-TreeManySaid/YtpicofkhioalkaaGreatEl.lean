
/- A tree that holds just a list (holds); the law 'awake'. -/
import Derived.Test.YtpicofkhioalkaaGreatEk
set_option maxRecDepth 100000
namespace Go.Td
open Go Go.Hm Go.Kd
theorem kv_len (es : List Ent) : (kv es).length = es.length := by simp [kv]
theorem part_at {l A C : KV} {P : K × Nat → Prop} {i : Nat} (h : l = A ++ C) (hA : ∀ a ∈ A, P a) (hC : ∀ c ∈ C, ¬ P c) (hi : i ≤ l.length) (hP : ∀ j q, l[j]? = some q → (P q ↔ j < i)) : A = l.take i ∧ C = l.drop i := by
  have hlen : A.length = i := by
    rcases Nat.lt_trichotomy A.length i with hl | hl | hl
    · have hlt : A.length < l.length := by omega
      obtain ⟨q, hq⟩ : ∃ q, l[A.length]? = some q := ⟨_, List.getElem?_eq_getElem hlt⟩
      have h1 := (hP _ _ hq).2 hl
      rw [h, List.getElem?_append_right (Nat.le_refl _)] at hq
      exact absurd h1 (hC q (List.mem_of_getElem? hq))
    · exact hl
    · obtain ⟨q, hq⟩ : ∃ q, A[i]? = some q := ⟨_, List.getElem?_eq_getElem hl⟩
      have hq2 : l[i]? = some q := by rw [h, List.getElem?_append_left hl]; exact hq
      have h1 := (hP _ _ hq2).1 (hA q (List.mem_of_getElem? hq))
      omega
  subst hlen
  rw [h]
  exact ⟨by rw [List.take_left], by rw [List.drop_left]⟩
/-- where Seek is asked for next. -/
def atK (l : KV) : Nat → K
  | 0 => []
  | i + 1 => match l[i]? with | some p => p.1 ++ [0] | none => []
theorem atK_succ {l : KV} {i : Nat} {p : K × Nat} (h : l[i]? = some p) : atK l (i + 1) = p.1 ++ [0] := by simp [atK, h]
theorem atK_lt {l : KV} (hs : SrtK l) {i : Nat} (hi : i ≤ l.length) : ∀ j q, l[j]? = some q → (lt q.1 (atK l i) = true ↔ j < i) := by
  intro j q hq
  cases i with
  | zero => simp [atK, lt_nil]
  | succ i =>
    obtain ⟨p, hp⟩ : ∃ p, l[i]? = some p := ⟨_, List.getElem?_eq_getElem (by omega)⟩
    have he : atK l (i + 1) = p.1 ++ [0] := atK_succ hp
    rw [he, lt_snoc]
    have hpair : ∀ (a b : Nat) (x y : K × Nat), a < b → l[a]? = some x → l[b]? = some y → lt x.1 y.1 = true := by
      intro a b x y hab ha hb
      have hal := kget_lt ha; have hbl := kget_lt hb
      rw [List.getElem?_eq_getElem hal] at ha; rw [List.getElem?_eq_getElem hbl] at hb
      simp only [Option.some.injEq] at ha hb
      subst ha; subst hb
      exact List.pairwise_iff_getElem.1 hs a b hal hbl hab
    rcases Nat.lt_trichotomy j i with h | h | h
    · have := lt_asymm (hpair j i q p h hq hp)
      rw [this]; simp; omega
    · subst h
      rw [hp] at hq; cases hq
      rw [lt_irrefl]; simp
    · rw [hpair i j p q h hp hq]; simp; omega
end Go.Td
namespace Go.Proofs.YtpicofkhioalkaaGreat
open Go Go.Lw Go.Wd Go.Am Go.Tb Go.Hm Go.Kd Go.Td
/-- what is told, in memory. -/
def AnsH (o : Option (K × Nat)) (p : Option Addr) (l c : Nat) : HP := match o with
  | none => HAnd (p = none ∧ l = 0 ∧ c = 0) hemp
  | some q => HAnd (l = q.1.length ∧ q.1.length ≤ 16384 ∧ ∃ g, p = some ⟨g, 0, none⟩) (Str 5 p l c (bytesV q.1))
section
variable {H : Hp} {v : Value} {b : Nat} {F : List HP} {w : World}
theorem ansP_H {o : Option (K × Nat)} {e : Ending} (h : AnsP H v b F o e w) : ∃ p l c, e = .returned (.tuple #[.slice p l c, .int .u64 (((o.map Prod.snd).getD 0 : Nat) : Int), .bool o.isSome, .int .i64 0]) ∧ Sat (HeapH H v b :: AnsH o p l c :: F) w := by
  cases o with
  | none => exact ⟨none, 0, 0, h.1, Sat.p1 (Sat.mkPure ⟨rfl, rfl, rfl⟩ h.2.emp)⟩
  | some q =>
    obtain ⟨g, c, h1, h2, h3⟩ := h
    exact ⟨_, _, _, h1, Sat.p1 (Sat.mkPure ⟨rfl, h2, g, rfl⟩ h3)⟩
theorem ansH_open {q : K × Nat} {p : Option Addr} {l c : Nat} (h : Sat (AnsH (some q) p l c :: F) w) : (l = q.1.length ∧ q.1.length ≤ 16384 ∧ ∃ g, p = some ⟨g, 0, none⟩) ∧ Sat (Str 5 p l c (bytesV q.1) :: F) w := h.pureOf
theorem ansH_nil {p : Option Addr} {l c : Nat} (h : Sat (AnsH none p l c :: F) w) : (p = none ∧ l = 0 ∧ c = 0) ∧ Sat F w := ⟨h.pureOf.1, h.drop⟩
/-- 'append([]byte{}, x...)' and one more byte. -/
theorem dup_c {p : Option Addr} {l c : Nat} {x : K} {u : UInt8} {ty ty2 : TypeId} {K : Option Addr → Nat → Nat → World → Prop} (hs : Sat F w) (hl : l = x.length) (hx : x.length ≤ 1048576) (hr : RdB F p x) (h : ∀ p' c' w', Sat (Own 5 1 p' (x.length + 1) c' (bytesV (x ++ [u])) :: F) w' → K p' (x.length + 1) c' w') :
    NewC (.cells #[] 5 (0, 0)) w fun b1 w5 => RunS Tryz.prog (Builtin.append_ #[28, 28] ty #[.slice (some (⟨b1, 0, none⟩)) 0 0, .slice p l c]) w5 fun s0p s0l s0c w6 =>
    NewC (.cells #[.int .u8 ((u.toNat : Nat) : Int)] 5 (0, 0)) w6 fun b2 w7 => RunS Tryz.prog (Builtin.append_ #[28, 28] ty2 #[.slice s0p s0l s0c, .slice (some (⟨b2, 0, none⟩)) 1 1]) w7 K := by
  subst hl
  refine NewC.ofRow hs fun b1 w5 h5 => ?_
  have h5 : Sat (Own 5 1 (some ⟨b1, 0, none⟩) 0 0 [] :: F) w5 := by
    have := Sat.mkOwn (e := 5) (s := 1) (g := b1) (l := 0) (c := 0) (xs := []) (rest := []) h5 0 rfl rfl (Nat.le_refl _) (by simp only [maxLen]; omega) (by simp)
    exact this
  refine RunS.app eok_byte h5 0 rfl (hr.reads w5 h5.drop) (fun h0 => hr.some fun e => by rw [e] at h0; simp at h0) (by rw [bytesV_len]; omega) (fun u hu => by
    simp only [bytesV, List.mem_map] at hu
    obtain ⟨b, _, rfl⟩ := hu
    rfl) (by omega) (by simp only [maxLen]; omega) fun p6 c6 w6 h6 => ?_
  have h6 : Sat (Own 5 1 p6 (0 + x.length) c6 (bytesV x) :: F) w6 := by
    have e : ([] : List Value) ++ bytesV x = bytesV x := rfl
    rw [← e]; exact h6
  rw [Nat.zero_add] at h6 ⊢
  refine RunS.one eok_byte h6 0 rfl rfl rfl (by omega) (by simp only [maxLen]; omega) fun p7 c7 w7 h7 => h p7 c7 w7 ?_
  rw [bytesV_snoc]
  exact h7
theorem RdB.ans {F : List HP} {p : Option Addr} {l c : Nat} {q : K × Nat} (k : Nat) (hk : F[k]? = Option.some (AnsH (Option.some q) p l c)) (hp : ∃ a, p = Option.some a) : RdB F p q.1 := by
  refine ⟨fun w hs => ?_, fun _ => hp⟩
  have h := hs.pull k hk
  exact (ansH_open h).2.strReads 0 rfl
set_option maxHeartbeats 1000000 in
theorem holds_c (hs : Sat (HeapH H v b :: F) w) {t : Nat} {es : List Ent} {ts : List Nat} (hT : Tree H.ov t es ts) (hn : es.length ≤ 1000000) (hkl : ∀ a ∈ kv es, a.1.length ≤ 16383) {p : Option Addr} {n c : Nat} (hnl : n = (kv es).length) (hr : RdE F p (kv es)) :
    Calls Tryz.prog 19 #[.pointer (some ⟨b, 0, none⟩), .int .u64 (t : Int), .slice p n c] w (Ret (.bool true) (Sat (HeapH H v b :: F))) := by
  subst hnl
  have hlk := kv_len es
  have hsr := srt_kv.1 hT.srt
  refine S_law13_holds_ok _ _ _ _ _ _ _ ?_
  unfold S_law13_holds
  refine (tcnt_c hs hT hn).mono ?_
  rintro e w1 ⟨rfl, h1⟩
  refine ⟨_, _, rfl, cond_f rfl (cond_f (by rw [hlk]; simp) ?_)⟩
  refine (tcheck_c h1 hT hn).mono ?_
  rintro e w2 ⟨rfl, h2⟩
  refine ⟨_, rfl, cond_f rfl ?_⟩
  refine NewC.ofRow h2 fun b0 w3 h3 => ?_
  have h3 : Sat (Own 5 1 (some ⟨b0, 0, none⟩) 0 0 (bytesV []) :: HeapH H v b :: F) w3 := by
    have := Sat.mkOwn (e := 5) (s := 1) (g := b0) (l := 0) (c := 0) (xs := []) (rest := []) h3 0 rfl rfl (Nat.le_refl _) (by simp only [maxLen]; omega) (by simp)
    exact this
  refine ⟨fun ap al ac i w' => ∃ (j : Nat) (x : K), i = j ∧ j ≤ (kv es).length + 1 ∧ al = x.length ∧ (j ≤ (kv es).length → x = atK (kv es) j) ∧ Sat (Own 5 1 ap al ac (bytesV x) :: HeapH H v b :: F) w', fun _ _ _ i _ => (((kv es).length : Int) + 1 - i).toNat,
    ⟨0, [], rfl, by omega, rfl, fun _ => rfl, h3⟩, ?_⟩
  rintro ap al ac i w4 ⟨j, x, rfl, hj, rfl, hx, h4⟩
  unfold S_law13_holds_l0
  by_cases hle : j ≤ (kv es).length
  rotate_left
  · exact cond_f (by simp; omega) ⟨rfl, h4.drop⟩
  refine cond_t (by simp; omega) ?_
  intro k0 hk0
  have hx := hx hle
  have hxl : x.length ≤ 16384 := by
    rw [hx]
    cases j with
    | zero => simp [atK]
    | succ j =>
      obtain ⟨q, hq⟩ : ∃ q, (kv es)[j]? = some q := ⟨_, List.getElem?_eq_getElem (by omega)⟩
      have := hkl q (List.mem_of_getElem? hq)
      rw [atK_succ hq]
      simp; omega
  have hap : x ≠ [] → ∃ a, ap = some a := fun h => by obtain ⟨g, hg⟩ := h4.own_some 0 rfl (List.length_pos_iff.2 h); exact ⟨_, hg⟩
  have next : ∀ (y : K) ap' ac' w', (j + 1 ≤ (kv es).length → y = atK (kv es) (j + 1)) → Sat (Own 5 1 ap' y.length ac' (bytesV y) :: HeapH H v b :: F) w' → k0 ap' y.length ac' w' := by
    intro y ap' ac' w' hy h'
    refine hk0 _ _ _ _ ?_
    unfold S_law13_holds_j0
    exact ⟨⟨j + 1, y, by rw [wrapI64 (by omega) (by omega)]; omega, by omega, rfl, hy, h'⟩, by rw [wrapI64 (by omega) (by omega)]; dsimp only; omega⟩
  refine (tseek_c (Sat.p1 h4) hT hn hxl rfl (RdB.own 0 rfl hap)).mono ?_
  rintro e w5 ⟨A, C, hAC, hA, hC, hans⟩
  obtain ⟨rp, rl, rc, rfl, h5⟩ := ansP_H hans
  refine ⟨_, _, _, _, _, _, rfl, cond_f rfl ?_⟩
  obtain ⟨eA, eC⟩ := part_at (P := fun q => lt q.1 x = true) hAC hA (fun c hc h => by have := hC c hc; rw [this] at h; cases h) hle (by rw [hx]; exact atK_lt hsr hle)
  have hh : C.head? = (kv es)[j]? := by rw [eC, List.head?_drop]
  rw [hh] at h5 ⊢
  cases hq : (kv es)[j]? with
  | none =>
    rw [hq] at h5
    have hjl : (kv es).length ≤ j := by
      rcases Nat.lt_or_ge j (kv es).length with h | h
      · rw [List.getElem?_eq_getElem h] at hq; cases hq
      · exact h
    refine cond_f (by simp; omega) (cond_f rfl ?_)
    obtain ⟨⟨rfl, rfl, rfl⟩, h6⟩ := ansH_nil (Sat.pull h5 1 rfl)
    have h7 : Sat (HeapH H v b :: F) w5.drew := (h6.del 1 rfl).drew
    refine dup_c (x := []) (u := 0) h7 rfl (by simp) RdB.nil fun p' c' w' h' => ?_
    exact next [0] p' c' w' (fun h => by omega) h'
  | some q =>
    rw [hq] at h5
    have hjl := kget_lt hq
    refine cond_f (by simp; omega) (cond_t rfl ?_)
    obtain ⟨⟨rfl, hql, g, rfl⟩, h6⟩ := ansH_open (Sat.pull h5 1 rfl)
    have h7 : Sat (Str 5 (some ⟨g, 0, none⟩) q.1.length rc (bytesV q.1) :: HeapH H v b :: F) w5.drew := (h6.del 2 rfl).drew
    refine (RdB.str 0 rfl ⟨_, rfl⟩).run h7 rfl ?_
    refine idxE hr.tail.tail h7 rfl rfl hq fun a c0 c1 => LdStr.at c0 ?_
    refine cond_f (by rw [key_str_eq]; simp) ?_
    refine idxE hr.tail.tail h7 rfl rfl hq fun a c0 c1 => LdI.at c1 ?_
    refine cond_f (by simp) ?_
    refine dup_c (x := q.1) (u := 0) h7 rfl (by omega) (RdB.str 0 rfl ⟨_, rfl⟩) fun p' c' w' h' => ?_
    have e1 : q.1.length + 1 = (q.1 ++ [(0 : UInt8)]).length := by simp
    rw [e1] at h' ⊢
    exact next (q.1 ++ [0]) p' c' w' (fun h => (atK_succ hq).symm) (h'.del 1 rfl)
end
section
variable {F : List HP} {w : World}
/-- '[]byte("..")', of bytes that stand in the text. -/
theorem smark_c {P : Program} {s : TypeId} {e : TypeId} (hd : P.underlying s = some (.slice e)) (he : P.underlying e = some (.int .u8)) {x : K} {b0 n : Nat} {K : Option Addr → Nat → Nat → World → Prop} (hn : n = x.length) (hx : x.length ≤ 1048576) (hs : Sat (Row b0 (bytesV x) e :: F) w)
    (h : ∀ w', Sat (Str e (some ⟨b0, 0, none⟩) n n (bytesV x) :: F) w' → K (some ⟨b0, 0, none⟩) n n w') : RunS P (convert s s (.slice (some ⟨b0, 0, none⟩) n n)) w K := by
  subst hn
  have hb : w.heap[b0]? = some (.cells (bytesV x).toArray e (0, 0)) := hs.blk 0 rfl
  have hsh : w.shape? b0 = some (e, x.length) := by simp [World.shape?, hb, bytesV_len]
  have hrun : (convert s s (.slice (some ⟨b0, 0, none⟩) x.length x.length)).run P w = .ok (.slice (some ⟨b0, 0, none⟩) x.length x.length) (w.freeze ⟨b0, x.length, none⟩ 1) := by
    simp [convert, run_underlying hd, run_underlying he, markStringish, hsh, Result.andThen]
  refine ⟨_, _, _, _, hrun, h _ ?_⟩
  have h1 := hs.upd (w' := w.freeze ⟨b0, x.length, none⟩ 1) (o' := .cells (bytesV x ++ []).toArray e (x.length, x.length + 1)) 0 rfl ?_ ?_ ?_
  · exact h1.mkStr 0 rfl (bytesV_len x) (Nat.le_refl _) (by simp only [maxLen]; omega) (by simp [bytesV_len])
  · simp [World.freeze, Array.getElem?_modify, hb]
  · intro k hk
    simp [World.freeze, Array.getElem?_modify, Ne.symm hk]
  · simp [World.freeze, stillOf]
end
end Go.Proofs.YtpicofkhioalkaaGreat
