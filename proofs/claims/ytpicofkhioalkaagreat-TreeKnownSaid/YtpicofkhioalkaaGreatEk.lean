
/- The model's lists of entries: put, take; a tree that holds just a list; the law 'awake'. -/
import Derived.Test.YtpicofkhioalkaaGreatEj
set_option maxRecDepth 100000
namespace Go.Td
open Go Go.Hm Go.Kd
theorem cut_lt {l A o C : KV} {key : K} (h : Cut l key A o C) (hs : SrtK l) : ∀ j p, l[j]? = some p → (lt p.1 key = true ↔ j < A.length) := by
  intro j p hp
  rw [h.eq, List.append_assoc, List.getElem?_append] at hp
  split at hp
  · rename_i hj
    exact ⟨fun _ => hj, fun _ => h.lo p (List.mem_of_getElem? hp)⟩
  · rename_i hj
    refine ⟨fun hl => ?_, fun h => absurd h hj⟩
    rcases List.mem_append.1 (List.mem_of_getElem? hp) with hm | hm
    · rcases h.at_ with e | ⟨y, e⟩
      · rw [e] at hm; simp at hm
      · rw [e] at hm
        simp only [List.mem_cons, List.not_mem_nil, or_false] at hm
        rw [hm, lt_irrefl] at hl; cases hl
    · rw [lt_asymm (h.hi p hm)] at hl; cases hl
/-- there is one way to part a list. -/
theorem cut_inj {l A o C A' o' C' : KV} {key : K} (h : Cut l key A o C) (g : Cut l key A' o' C') (hs : SrtK l) : A' = A ∧ o' = o ∧ C' = C := by
  have hlen : A.length = A'.length := by
    rcases Nat.lt_trichotomy A.length A'.length with hl | hl | hl
    · have : A'[A.length]? = some A'[A.length] := List.getElem?_eq_getElem hl
      have h2 : l[A.length]? = some A'[A.length] := by rw [g.eq, List.append_assoc, List.getElem?_append_left hl]; exact this
      have h3 := (cut_lt g hs _ _ h2).2 hl
      have h4 := (cut_lt h hs _ _ h2).1 h3
      omega
    · exact hl
    · have : A[A'.length]? = some A[A'.length] := List.getElem?_eq_getElem hl
      have h2 : l[A'.length]? = some A[A'.length] := by rw [h.eq, List.append_assoc, List.getElem?_append_left hl]; exact this
      have h3 := (cut_lt h hs _ _ h2).2 hl
      have h4 := (cut_lt g hs _ _ h2).1 h3
      omega
  have e1 := h.eq
  rw [g.eq, List.append_assoc, List.append_assoc] at e1
  obtain ⟨e2, e3⟩ := List.append_inj e1 hlen.symm
  have nd : ∀ {o C o' C' : KV}, (∀ c ∈ C, lt key c.1 = true) → (∀ c ∈ C', lt key c.1 = true) → (o = [] ∨ ∃ y, o = [(key, y)]) → (o' = [] ∨ ∃ y, o' = [(key, y)]) → o ++ C = o' ++ C' → o = o' ∧ C = C' := by
    intro o C o' C' c1 c2 h1 h2 he
    rcases h1 with rfl | ⟨y, rfl⟩ <;> rcases h2 with rfl | ⟨y', rfl⟩
    · exact ⟨rfl, by simpa using he⟩
    · have : (key, y') ∈ C := by rw [show C = (key, y') :: C' by simpa using he]; simp
      have := c1 _ this
      rw [lt_irrefl] at this; cases this
    · have : (key, y) ∈ C' := by rw [show C' = (key, y) :: C by simpa using he.symm]; simp
      have := c2 _ this
      rw [lt_irrefl] at this; cases this
    · simp only [List.cons_append, List.nil_append, List.cons.injEq, Prod.mk.injEq, true_and] at he
      exact ⟨by rw [he.1], he.2⟩
  obtain ⟨e4, e5⟩ := nd g.hi h.hi g.at_ h.at_ e3
  exact ⟨e2, e4, e5⟩
end Go.Td
namespace Go.Lw
/-- 'append(s, xs...)' onto a slice that is owned. -/
theorem RunS.app {P : Program} {L : List HP} {w : World} {t e s bytes ty : Nat} (hE : EOK P t e s bytes) {p q : Option Addr} {l c m mc : Nat} {xs news : List Value} {K : Option Addr → Nat → Nat → World → Prop} (hs : Sat L w)
    (i : Nat) (hi : L[i]? = some (Own e s p l c xs)) (hn : Reads w q news) (hq : 0 < m → ∃ a, q = some a) (hnl : news.length = m * s) (h1 : ∀ u ∈ news, u.oneCell' = true) (hb : (l + m) * bytes ≤ 140737488355328) (hm : l + m ≤ maxLen)
    (h : ∀ p' c' w', Sat (L.set i (Own e s p' (l + m) c' (xs ++ news))) w' → K p' (l + m) c' w') : RunS P (Builtin.append_ #[t, t] ty #[.slice p l c, .slice q m mc]) w K := by
  rcases Nat.eq_zero_or_pos m with h0 | h0
  · subst h0
    have hnew : news = [] := List.eq_nil_of_length_eq_zero (by simpa using hnl)
    subst hnew
    have hlc : l ≤ c := by
      rcases (hs.own i hi).2 with ⟨_, rfl, rfl⟩ | ⟨_, _, _, h, _⟩
      · exact Nat.le_refl _
      · exact h
    refine RunS.nothing hE hlc ?_
    have := h p c w (by
      rw [Nat.add_zero, List.append_nil]
      exact Sat.back (A' := Own e s p l c xs) i hi (hs.pull i hi))
    simpa using this
  · obtain ⟨a, rfl⟩ := hq h0
    exact RunS.own hE hs i hi hn hnl h1 hb hm h
end Go.Lw
namespace Go.Proofs.YtpicofkhioalkaaGreat
open Go Go.Lw Go.Wd Go.Am Go.Tb Go.Hm Go.Kd Go.Td
def entV (e : K × Nat) : List Value := [.string (str e.1), .int .u64 (e.2 : Int)]
def entsV (l : KV) : List Value := l.flatMap entV
@[simp] theorem entsV_nil : entsV [] = [] := rfl
@[simp] theorem entsV_cons (e : K × Nat) (l : KV) : entsV (e :: l) = .string (str e.1) :: .int .u64 (e.2 : Int) :: entsV l := rfl
/-- entries that can be read. -/
structure RdE (F : List HP) (p : Option Addr) (l : KV) : Prop where
  reads : ∀ w, Sat F w → Reads w p (entsV l)
  some : l ≠ [] → ∃ a, p = some a
theorem RdE.tail {A : HP} {F : List HP} {p : Option Addr} {l : KV} (h : RdE F p l) : RdE (A :: F) p l := ⟨fun w hs => h.reads w hs.drop, h.some⟩
theorem RdE.own {F : List HP} {p : Option Addr} {l : KV} {n c : Nat} (k : Nat) (hk : F[k]? = Option.some (Own 49 2 p n c (entsV l))) (hp : l ≠ [] → ∃ a, p = Option.some a) : RdE F p l := ⟨fun _ h => h.reads k hk, hp⟩
theorem LdStr.at {w : World} {a : Addr} {s : ByteArray} {K : ByteArray → Prop} (hc : w.cell? a = some (.string s)) (h : K s) : LdStr w a K := ⟨s, hc, h⟩
section
variable {F : List HP} {w : World}
end
end Go.Proofs.YtpicofkhioalkaaGreat
/- A tree that holds just a list (holds); the law 'awake'. -/
set_option maxRecDepth 100000
namespace Go.Td
open Go Go.Hm Go.Kd
theorem kv_len (es : List Ent) : (kv es).length = es.length := by simp [kv]
theorem part_at {l A C : KV} {P : K × Nat → Prop} {i : Nat} (h : l = A ++ C) (hA : ∀ a ∈ A, P a) (hC : ∀ c ∈ C, ¬ P c) (hi : i ≤ l.length) (hP : ∀ j q, l[j]? = some q → (P q ↔ j < i)) : A = l.take i ∧ C = l.drop i := by
  have hlen : A.length = i := by
    rcases Nat.lt_trichotomy A.length i with hl | hl | hl
    · have hlt : A.length < l.length := by omega
      obtain ⟨q, hq⟩ : ∃ q, l[A.length]? = some q := ⟨_, List.getElem?_eq_getElem hlt⟩
      have h1 := (hP _ _ hq).2 hl
      rw [h, List.getElem?_append_right (Nat.le_refl _)] at hq
      exact absurd h1 (hC q (List.mem_of_getElem? hq))
    · exact hl
    · obtain ⟨q, hq⟩ : ∃ q, A[i]? = some q := ⟨_, List.getElem?_eq_getElem hl⟩
      have hq2 : l[i]? = some q := by rw [h, List.getElem?_append_left hl]; exact hq
      have h1 := (hP _ _ hq2).1 (hA q (List.mem_of_getElem? hq))
      omega
  subst hlen
  rw [h]
  exact ⟨by rw [List.take_left], by rw [List.drop_left]⟩
end Go.Td
namespace Go.Proofs.YtpicofkhioalkaaGreat
open Go Go.Lw Go.Wd Go.Am Go.Tb Go.Hm Go.Kd Go.Td
/-- what is told, in memory. -/
def AnsH (o : Option (K × Nat)) (p : Option Addr) (l c : Nat) : HP := match o with
  | none => HAnd (p = none ∧ l = 0 ∧ c = 0) hemp
  | some q => HAnd (l = q.1.length ∧ q.1.length ≤ 16384 ∧ ∃ g, p = some ⟨g, 0, none⟩) (Str 5 p l c (bytesV q.1))
section
variable {H : Hp} {v : Value} {b : Nat} {F : List HP} {w : World}
theorem ansP_H {o : Option (K × Nat)} {e : Ending} (h : AnsP H v b F o e w) : ∃ p l c, e = .returned (.tuple #[.slice p l c, .int .u64 (((o.map Prod.snd).getD 0 : Nat) : Int), .bool o.isSome, .int .i64 0]) ∧ Sat (HeapH H v b :: AnsH o p l c :: F) w := by
  cases o with
  | none => exact ⟨none, 0, 0, h.1, Sat.p1 (Sat.mkPure ⟨rfl, rfl, rfl⟩ h.2.emp)⟩
  | some q =>
    obtain ⟨g, c, h1, h2, h3⟩ := h
    exact ⟨_, _, _, h1, Sat.p1 (Sat.mkPure ⟨rfl, h2, g, rfl⟩ h3)⟩
theorem ansH_open {q : K × Nat} {p : Option Addr} {l c : Nat} (h : Sat (AnsH (some q) p l c :: F) w) : (l = q.1.length ∧ q.1.length ≤ 16384 ∧ ∃ g, p = some ⟨g, 0, none⟩) ∧ Sat (Str 5 p l c (bytesV q.1) :: F) w := h.pureOf
theorem ansH_nil {p : Option Addr} {l c : Nat} (h : Sat (AnsH none p l c :: F) w) : (p = none ∧ l = 0 ∧ c = 0) ∧ Sat F w := ⟨h.pureOf.1, h.drop⟩
theorem RdB.ans {F : List HP} {p : Option Addr} {l c : Nat} {q : K × Nat} (k : Nat) (hk : F[k]? = Option.some (AnsH (Option.some q) p l c)) (hp : ∃ a, p = Option.some a) : RdB F p q.1 := by
  refine ⟨fun w hs => ?_, fun _ => hp⟩
  have h := hs.pull k hk
  exact (ansH_open h).2.strReads 0 rfl
end
section
variable {F : List HP} {w : World}
/-- '[]byte("..")', of bytes that stand in the text. -/
theorem smark_c {P : Program} {s : TypeId} {e : TypeId} (hd : P.underlying s = some (.slice e)) (he : P.underlying e = some (.int .u8)) {x : K} {b0 n : Nat} {K : Option Addr → Nat → Nat → World → Prop} (hn : n = x.length) (hx : x.length ≤ 1048576) (hs : Sat (Row b0 (bytesV x) e :: F) w)
    (h : ∀ w', Sat (Str e (some ⟨b0, 0, none⟩) n n (bytesV x) :: F) w' → K (some ⟨b0, 0, none⟩) n n w') : RunS P (convert s s (.slice (some ⟨b0, 0, none⟩) n n)) w K := by
  subst hn
  have hb : w.heap[b0]? = some (.cells (bytesV x).toArray e (0, 0)) := hs.blk 0 rfl
  have hsh : w.shape? b0 = some (e, x.length) := by simp [World.shape?, hb, bytesV_len]
  have hrun : (convert s s (.slice (some ⟨b0, 0, none⟩) x.length x.length)).run P w = .ok (.slice (some ⟨b0, 0, none⟩) x.length x.length) (w.freeze ⟨b0, x.length, none⟩ 1) := by
    simp [convert, run_underlying hd, run_underlying he, markStringish, hsh, Result.andThen]
  refine ⟨_, _, _, _, hrun, h _ ?_⟩
  have h1 := hs.upd (w' := w.freeze ⟨b0, x.length, none⟩ 1) (o' := .cells (bytesV x ++ []).toArray e (x.length, x.length + 1)) 0 rfl ?_ ?_ ?_
  · exact h1.mkStr 0 rfl (bytesV_len x) (Nat.le_refl _) (by simp only [maxLen]; omega) (by simp [bytesV_len])
  · simp [World.freeze, Array.getElem?_modify, hb]
  · intro k hk
    simp [World.freeze, Array.getElem?_modify, Ne.symm hk]
  · simp [World.freeze, stillOf]
end
end Go.Proofs.YtpicofkhioalkaaGreat
/- The law 'awake'; an entry put where there is ample room. -/
set_option maxRecDepth 100000
namespace Go.Proofs.YtpicofkhioalkaaGreat
open Go Go.Lw Go.Wd Go.Am Go.Tb Go.Hm Go.Kd Go.Td
section
variable {v : Value} {b : Nat} {E : Eng v b} {s : E.σ} {F : List HP} {w : World}
/-- what Put leaves, there being ample room. -/
def PutG (E : Eng v b) (s : E.σ) (t : Nat) (es : List Ent) (us : List Nat) (key : K) (x : Nat) (F : List HP) (e : Ending) (w' : World) : Prop :=
  ∃ (s' : E.σ) (es' : List Ent) (us' : List Nat) (k m old : Nat) (had : Bool) (A o C : KV), e = .returned (.tuple #[.int .u64 (old : Int), .bool had, .int .i64 0]) ∧ Cut (kv es) key A o C ∧ kv es' = A ++ (key, x) :: C ∧ (o = [] ∧ had = false ∧ old = 0 ∨ o = [(key, old)] ∧ had = true) ∧
    TrS E s' t es' us' ∧ St E s us s' us' k m ∧ k ≤ 10 ∧ m ≤ 240 + key.length / 8 ∧ Sat (E.S s' F) w'
theorem gput_c (hs : Sat (E.S s F) w) (hi : E.inv s) {t : Nat} {es : List Ent} {us : List Nat} (hT : TrS E s t es us) (hn : es.length ≤ 1000000) {key : K} (hkl : key.length ≤ 16384) {kp : Option Addr} {kl kc : Nat} (hl : kl = key.length) (hk : RdB F kp key)
    {x : Nat} (hx : x = 0 ∨ E.ok s x) (htop : (E.H s).m.top + 240 + key.length / 8 ≤ (E.H s).m.n) (hcnt : (E.H s).t.count + 10 ≤ (E.H s).t.n) :
    Calls Tryz.prog 11 #[.pointer (some ⟨b, 0, none⟩), .int .u64 (t : Int), .slice kp kl kc, .int .u64 (x : Int)] w (PutG E s t es us key x F) := by
  obtain ⟨D, y, hD8, ho⟩ := depth_le hT.tree hn
  refine (ePut_c hs hi hT hn hkl hl hk hx ⟨_, _, ho⟩ (by unfold Hp.room; simp; omega)).mono ?_
  rintro e w' ⟨s', es', us', k, m, old, had, A, o, C, h1, h2, h3, h4, h5, h6, h7, h8, h9⟩
  exact ⟨s', es', us', k, m, old, had, A, o, C, h1, h2, h3, h4, h5, h6, by omega, by omega, h9⟩
end
section
variable {F : List HP} {w : World}
theorem gnd_ok {J : Hp → Nat → Prop} {n k : Nat} {H : Hp} {ts xs : List Nat} {r : Nat} (g : Gnd J n k H ts xs r) {t : Nat} (ht : t ∈ ts) (b : Nat) (hJ : Keeps J) (c : Nat) : TrS (engJ hJ b) (H, c) t [] [t] := by
  have h1 := g.tree t ht
  refine ⟨tree_none h1, fun z hz => ?_, by simp⟩
  simp only [List.mem_cons, List.not_mem_nil, or_false] at hz
  subst hz
  show (H.look z).isSome = true
  rw [← ov_isSome, h1]; rfl
theorem gnd_x {J : Hp → Nat → Prop} {n k : Nat} {H : Hp} {ts xs : List Nat} {r : Nat} (g : Gnd J n k H ts xs r) {i x : Nat} (hx : xs[i]? = some x) : (H.look x).isSome = true := by
  rw [← ov_isSome, g.xo i x hx]; rfl
set_option maxHeartbeats 1000000 in
theorem awake13_c (hs : Sat F w) : Calls Tryz.prog 8 #[] w (Ret (.bool true) (Sat F)) := by
  have hJ := keeps_any
  refine S_law13_awake_ok _ _ ?_
  unfold S_law13_awake
  refine (ground_c hJ (n := 4000) (k := 400) (m := 1) (by omega) (by omega) (by omega) (by omega) (by omega) hs).mono ?_
  rintro e w0 ⟨b, H, ts, xs, r, tp, xp, tc, xc, g, hts, hxs, rfl, h0⟩
  refine ⟨_, _, _, _, _, _, _, _, rfl, cond_f rfl ?_⟩
  obtain ⟨t, rfl⟩ : ∃ t, ts = [t] := List.length_eq_one_iff.1 hts
  obtain ⟨x, hx⟩ : ∃ x, xs[1]? = some x := ⟨_, List.getElem?_eq_getElem (by omega)⟩
  have h0 : Sat (Own 32 1 tp 1 tc (words [t]) :: Own 32 1 xp 5 xc (words xs) :: HeapH H .nilIface b :: F) w0 := Sat.pull (Sat.pull h0 2 rfl) 2 rfl
  refine ⟨fun w' => ∃ T, Sat (Own 32 1 tp 1 tc (words [t]) :: Own 32 1 xp 5 xc (words xs) :: T) w', ⟨_, h0.drew⟩, ?_⟩
  refine own_wordQ h0 0 rfl (fun w ⟨T, h⟩ => ⟨_, 0, h, rfl⟩) rfl (j := 0) rfl rfl ?_
  refine own_wordQ h0 1 rfl (fun w ⟨T, h⟩ => ⟨_, 1, h, rfl⟩) hxs.symm hx rfl ?_
  refine NewC.ofRow h0.drew fun b0 w1 h1 => ⟨⟨_, Sat.pull (Sat.pull h1 2 rfl) 2 rfl⟩, ?_⟩
  have h1 : Sat (Row b0 (bytesV [98]) 5 :: Own 32 1 tp 1 tc (words [t]) :: Own 32 1 xp 5 xc (words xs) :: HeapH H .nilIface b :: F) w1 := h1
  refine smark_c (x := [98]) (by kernel_rfl) (e := 5) (by kernel_rfl) rfl (by simp) h1 fun w2 h2 => ⟨⟨_, Sat.pull (Sat.pull h2 2 rfl) 2 rfl⟩, ?_⟩
  have hT := gnd_ok g (t := t) (by simp) b hJ 0
  have h3 : Sat ((engJ hJ b).S (H, 0) (Str 5 (some ⟨b0, 0, none⟩) 1 1 (bytesV [98]) :: Own 32 1 tp 1 tc (words [t]) :: Own 32 1 xp 5 xc (words xs) :: F)) w2 := toS hJ (Sat.pull h2 3 rfl)
  refine (gput_c (key := [98]) h3 trivial hT (by simp) (by simp) rfl (RdB.str 0 rfl ⟨_, rfl⟩) (.inr (gnd_x g hx)) (by show H.m.top + 240 + 0 ≤ H.m.n; rw [g.top, g.n]; simp; omega) (by show H.t.count + 10 ≤ H.t.n; rw [g.cnt, g.tn]; simp; omega)).mono ?_
  rintro e w3 ⟨s', es', us', k, m, old, had, A, o, C, rfl, q1, q2, q3, q4, q5, q6, q7, h4⟩
  have h4 := ofS hJ h4
  have hA : A = [] ∧ o = [] ∧ C = [] := by
    have := q1.eq
    simp at this
    exact ⟨this.1, this.2.1, this.2.2⟩
  obtain ⟨rfl, rfl, rfl⟩ := hA
  have hq3 : had = false ∧ old = 0 := by
    rcases q3 with ⟨_, a, b⟩ | ⟨a, _⟩
    · exact ⟨a, b⟩
    · simp at a
  obtain ⟨rfl, rfl⟩ := hq3
  refine ⟨_, _, _, rfl, ?_⟩
  refine own_word h4 2 rfl rfl (j := 0) rfl rfl ?_
  refine NewC.ofRow h4 fun b1 w4 h5 => ?_
  have h5 : Sat (Row b1 (bytesV [98]) 5 :: HeapH s'.1 .nilIface b :: Str 5 (some ⟨b0, 0, none⟩) 1 1 (bytesV [98]) :: Own 32 1 tp 1 tc (words [t]) :: Own 32 1 xp 5 xc (words xs) :: F) w4 := h5
  refine smark_c (x := [98]) (by kernel_rfl) (e := 5) (by kernel_rfl) rfl (by simp) h5 fun w5 h6 => ?_
  have hes : es'.length ≤ 1000000 := by rw [← kv_len, q2]; simp
  refine (tget_c (key := [98]) (Sat.pull h6 1 rfl) q4.tree hes (by simp) rfl (RdB.str 0 rfl ⟨_, rfl⟩)).mono ?_
  rintro e w6 ⟨A, o, C, y, had, c1, c2, rfl, h7⟩
  have hsr : SrtK (kv es') := srt_kv.1 q4.tree.srt
  have hg : had = true ∧ y = x := by
    have e1 := c1.eq
    rw [q2] at e1
    have hcut : Cut (kv es') [98] [] [([98], x)] [] := ⟨by rw [q2]; rfl, by simp, by simp, .inr ⟨_, rfl⟩⟩
    obtain ⟨e1, e2, e3⟩ := cut_inj hcut c1 hsr
    rw [e2] at c2
    rcases c2 with ⟨a, _⟩ | ⟨a, a2⟩
    · cases a
    · simp only [List.cons.injEq, Prod.mk.injEq, true_and, and_true] at a
      exact ⟨a2, a.symm⟩
  obtain ⟨rfl, rfl⟩ := hg
  refine ⟨_, _, _, rfl, cond_t rfl (cond_t rfl (cond_t rfl (cond_t rfl ?_)))⟩
  refine own_word h7 4 rfl hxs.symm hx rfl ⟨?_, h7.drop.drop.drop.drop.drop⟩
  simp
end
end Go.Proofs.YtpicofkhioalkaaGreat
/- A tree and the model's list side by side, while there is ample room. -/
set_option maxRecDepth 100000
namespace Go.Proofs.YtpicofkhioalkaaGreat
open Go Go.Lw Go.Wd Go.Am Go.Tb Go.Hm Go.Kd Go.Td
section
variable {s : Hp × Nat} {b t : Nat} {es : List Ent} {us xs : List Nat} {q L : Nat} {F : List HP} {w : World}
end
end Go.Proofs.YtpicofkhioalkaaGreat
