
/- The model's lists of entries: put, take; a tree that holds just a list; the law 'awake'. -/
import Derived.Test.YtpicofkhioalkaaGreatEj
set_option maxRecDepth 100000
namespace Go.Td
open Go Go.Hm Go.Kd
theorem cut_of : ∀ {l : KV} (key : K), SrtK l → ∃ A o C, Cut l key A o C
  | [], key, _ => ⟨[], [], [], rfl, by simp, by simp, .inl rfl⟩
  | (k, x) :: l, key, hs => by
    obtain ⟨h1, h2⟩ := List.pairwise_cons.1 hs
    rcases lt_tri k key with h | h | h
    · obtain ⟨A, o, C, hc⟩ := cut_of key h2
      refine ⟨(k, x) :: A, o, C, by rw [hc.eq]; rfl, fun a ha => ?_, hc.hi, hc.at_⟩
      rcases List.mem_cons.1 ha with rfl | ha
      · exact h
      · exact hc.lo a ha
    · subst h
      exact ⟨[], [(k, x)], l, rfl, by simp, fun c hc => h1 c hc, .inr ⟨x, rfl⟩⟩
    · refine ⟨[], [], (k, x) :: l, rfl, by simp, fun c hc => ?_, .inl rfl⟩
      rcases List.mem_cons.1 hc with rfl | hc
      · exact h
      · exact lt_trans h (h1 c hc)
theorem cut_lt {l A o C : KV} {key : K} (h : Cut l key A o C) (hs : SrtK l) : ∀ j p, l[j]? = some p → (lt p.1 key = true ↔ j < A.length) := by
  intro j p hp
  rw [h.eq, List.append_assoc, List.getElem?_append] at hp
  split at hp
  · rename_i hj
    exact ⟨fun _ => hj, fun _ => h.lo p (List.mem_of_getElem? hp)⟩
  · rename_i hj
    refine ⟨fun hl => ?_, fun h => absurd h hj⟩
    rcases List.mem_append.1 (List.mem_of_getElem? hp) with hm | hm
    · rcases h.at_ with e | ⟨y, e⟩
      · rw [e] at hm; simp at hm
      · rw [e] at hm
        simp only [List.mem_cons, List.not_mem_nil, or_false] at hm
        rw [hm, lt_irrefl] at hl; cases hl
    · rw [lt_asymm (h.hi p hm)] at hl; cases hl
/-- there is one way to part a list. -/
theorem cut_inj {l A o C A' o' C' : KV} {key : K} (h : Cut l key A o C) (g : Cut l key A' o' C') (hs : SrtK l) : A' = A ∧ o' = o ∧ C' = C := by
  have hlen : A.length = A'.length := by
    rcases Nat.lt_trichotomy A.length A'.length with hl | hl | hl
    · have : A'[A.length]? = some A'[A.length] := List.getElem?_eq_getElem hl
      have h2 : l[A.length]? = some A'[A.length] := by rw [g.eq, List.append_assoc, List.getElem?_append_left hl]; exact this
      have h3 := (cut_lt g hs _ _ h2).2 hl
      have h4 := (cut_lt h hs _ _ h2).1 h3
      omega
    · exact hl
    · have : A[A'.length]? = some A[A'.length] := List.getElem?_eq_getElem hl
      have h2 : l[A'.length]? = some A[A'.length] := by rw [h.eq, List.append_assoc, List.getElem?_append_left hl]; exact this
      have h3 := (cut_lt h hs _ _ h2).2 hl
      have h4 := (cut_lt g hs _ _ h2).1 h3
      omega
  have e1 := h.eq
  rw [g.eq, List.append_assoc, List.append_assoc] at e1
  obtain ⟨e2, e3⟩ := List.append_inj e1 hlen.symm
  have nd : ∀ {o C o' C' : KV}, (∀ c ∈ C, lt key c.1 = true) → (∀ c ∈ C', lt key c.1 = true) → (o = [] ∨ ∃ y, o = [(key, y)]) → (o' = [] ∨ ∃ y, o' = [(key, y)]) → o ++ C = o' ++ C' → o = o' ∧ C = C' := by
    intro o C o' C' c1 c2 h1 h2 he
    rcases h1 with rfl | ⟨y, rfl⟩ <;> rcases h2 with rfl | ⟨y', rfl⟩
    · exact ⟨rfl, by simpa using he⟩
    · have : (key, y') ∈ C := by rw [show C = (key, y') :: C' by simpa using he]; simp
      have := c1 _ this
      rw [lt_irrefl] at this; cases this
    · have : (key, y) ∈ C' := by rw [show C' = (key, y) :: C by simpa using he.symm]; simp
      have := c2 _ this
      rw [lt_irrefl] at this; cases this
    · simp only [List.cons_append, List.nil_append, List.cons.injEq, Prod.mk.injEq, true_and] at he
      exact ⟨by rw [he.1], he.2⟩
  obtain ⟨e4, e5⟩ := nd g.hi h.hi g.at_ h.at_ e3
  exact ⟨e2, e4, e5⟩
/-- the key that is next behind a key. -/
theorem lt_snoc : ∀ (x y : K), lt x (y ++ [0]) = !lt y x
  | [], [] => rfl
  | [], b :: y => by rw [lt_nil, List.cons_append, nil_lt]; rfl
  | a :: x, [] => by
    rw [nil_lt, List.nil_append, lt_cons, lt_nil]
    have : decide (a < 0) = false := by simp [u8_lt]
    rw [this]; simp
  | a :: x, b :: y => by
    rw [List.cons_append, lt_cons, lt_cons, lt_snoc x y]
    by_cases e : a = b
    · subst e
      have hd : decide (a < a) = false := by simp [u8_lt]
      rw [hd]; simp
    · have e1 : (a == b) = false := by simpa using e
      have e2 : (b == a) = false := by simpa using fun h => e h.symm
      rw [e1, e2]
      have hne : a.toNat ≠ b.toNat := fun h => e (u8_eq.2 h)
      simp only [Bool.false_and, Bool.or_false, u8_lt]
      by_cases h : a.toNat < b.toNat
      · have : ¬ b.toNat < a.toNat := by omega
        simp [h, this]
      · have : b.toNat < a.toNat := by omega
        simp [h, this]
end Go.Td
namespace Go.Lw
/-- 'append(s, xs...)' onto a slice that is owned. -/
theorem RunS.app {P : Program} {L : List HP} {w : World} {t e s bytes ty : Nat} (hE : EOK P t e s bytes) {p q : Option Addr} {l c m mc : Nat} {xs news : List Value} {K : Option Addr → Nat → Nat → World → Prop} (hs : Sat L w)
    (i : Nat) (hi : L[i]? = some (Own e s p l c xs)) (hn : Reads w q news) (hq : 0 < m → ∃ a, q = some a) (hnl : news.length = m * s) (h1 : ∀ u ∈ news, u.oneCell' = true) (hb : (l + m) * bytes ≤ 140737488355328) (hm : l + m ≤ maxLen)
    (h : ∀ p' c' w', Sat (L.set i (Own e s p' (l + m) c' (xs ++ news))) w' → K p' (l + m) c' w') : RunS P (Builtin.append_ #[t, t] ty #[.slice p l c, .slice q m mc]) w K := by
  rcases Nat.eq_zero_or_pos m with h0 | h0
  · subst h0
    have hnew : news = [] := List.eq_nil_of_length_eq_zero (by simpa using hnl)
    subst hnew
    have hlc : l ≤ c := by
      rcases (hs.own i hi).2 with ⟨_, rfl, rfl⟩ | ⟨_, _, _, h, _⟩
      · exact Nat.le_refl _
      · exact h
    refine RunS.nothing hE hlc ?_
    have := h p c w (by
      rw [Nat.add_zero, List.append_nil]
      exact Sat.back (A' := Own e s p l c xs) i hi (hs.pull i hi))
    simpa using this
  · obtain ⟨a, rfl⟩ := hq h0
    exact RunS.own hE hs i hi hn hnl h1 hb hm h
end Go.Lw
namespace Go.Proofs.YtpicofkhioalkaaGreat
open Go Go.Lw Go.Wd Go.Am Go.Tb Go.Hm Go.Kd Go.Td
theorem eok_ent : EOK Tryz.prog 44 49 2 24 := ⟨by kernel_rfl, ⟨_, _, rfl, rfl, rfl, rfl, rfl⟩, by omega⟩
def entV (e : K × Nat) : List Value := [.string (str e.1), .int .u64 (e.2 : Int)]
def entsV (l : KV) : List Value := l.flatMap entV
@[simp] theorem entsV_nil : entsV [] = [] := rfl
@[simp] theorem entsV_cons (e : K × Nat) (l : KV) : entsV (e :: l) = .string (str e.1) :: .int .u64 (e.2 : Int) :: entsV l := rfl
theorem entsV_append (a b : KV) : entsV (a ++ b) = entsV a ++ entsV b := by simp [entsV]
theorem entsV_len (l : KV) : (entsV l).length = l.length * 2 := by
  induction l with
  | nil => rfl
  | cons p l ih => simp only [entsV_cons, List.length_cons, ih]; omega
theorem entsV_one (l : KV) : ∀ u ∈ entsV l, u.oneCell' = true := by
  intro u hu
  simp only [entsV, List.mem_flatMap, entV] at hu
  obtain ⟨p, _, h⟩ := hu
  simp only [List.mem_cons, List.not_mem_nil, or_false] at h
  rcases h with rfl | rfl <;> rfl
theorem entsV_get0 : ∀ {l : KV} {i : Nat} {p : K × Nat}, l[i]? = some p → (entsV l)[i * 2]? = some (.string (str p.1))
  | [], i, p, h => by simp at h
  | q :: l, 0, p, h => by simp at h; subst h; rfl
  | q :: l, i + 1, p, h => by
    simp at h
    have : (i + 1) * 2 = i * 2 + 2 := by omega
    rw [this, entsV_cons, List.getElem?_cons_succ, List.getElem?_cons_succ]
    exact entsV_get0 h
theorem entsV_get1 : ∀ {l : KV} {i : Nat} {p : K × Nat}, l[i]? = some p → (entsV l)[i * 2 + 1]? = some (.int .u64 (p.2 : Int))
  | [], i, p, h => by simp at h
  | q :: l, 0, p, h => by simp at h; subst h; rfl
  | q :: l, i + 1, p, h => by
    simp at h
    have : (i + 1) * 2 + 1 = i * 2 + 1 + 2 := by omega
    rw [this, entsV_cons, List.getElem?_cons_succ, List.getElem?_cons_succ]
    exact entsV_get1 h
theorem entsV_take (l : KV) (i : Nat) : (entsV l).take (i * 2) = entsV (l.take i) := by
  induction l generalizing i with
  | nil => simp
  | cons p l ih =>
    cases i with
    | zero => simp
    | succ i =>
      have : (i + 1) * 2 = i * 2 + 1 + 1 := by omega
      rw [this, entsV_cons, List.take_succ_cons, List.take_succ_cons, ih]; rfl
theorem entsV_drop (l : KV) (i : Nat) : (entsV l).drop (i * 2) = entsV (l.drop i) := by
  induction l generalizing i with
  | nil => simp
  | cons p l ih =>
    cases i with
    | zero => simp
    | succ i =>
      have : (i + 1) * 2 = i * 2 + 1 + 1 := by omega
      rw [this, entsV_cons, List.drop_succ_cons, List.drop_succ_cons, ih]; rfl
/-- entries that can be read. -/
structure RdE (F : List HP) (p : Option Addr) (l : KV) : Prop where
  reads : ∀ w, Sat F w → Reads w p (entsV l)
  some : l ≠ [] → ∃ a, p = some a
theorem RdE.tail {A : HP} {F : List HP} {p : Option Addr} {l : KV} (h : RdE F p l) : RdE (A :: F) p l := ⟨fun w hs => h.reads w hs.drop, h.some⟩
theorem RdE.own {F : List HP} {p : Option Addr} {l : KV} {n c : Nat} (k : Nat) (hk : F[k]? = Option.some (Own 49 2 p n c (entsV l))) (hp : l ≠ [] → ∃ a, p = Option.some a) : RdE F p l := ⟨fun _ h => h.reads k hk, hp⟩
theorem ent_some {F : List HP} {w : World} {k : Nat} {p : Option Addr} {l : KV} {n c : Nat} (hs : Sat F w) (hk : F[k]? = some (Own 49 2 p n c (entsV l))) (hn : n = l.length) : l ≠ [] → ∃ a, p = some a := by
  subst hn
  intro h
  obtain ⟨g, hg⟩ := hs.own_some k hk (List.length_pos_iff.2 h)
  exact ⟨_, hg⟩
theorem idxE {K : Addr → Prop} {F : List HP} {w : World} {p : Option Addr} {l : KV} (hr : RdE F p l) (hs : Sat F w) {n i : Nat} {j : Int} {q : Kd.K × Nat} (hn : n = l.length) (hj : j = i) (hi : l[i]? = some q)
    (h : ∀ a, w.cell? a = some (.string (str q.1)) → w.cell? (a.add 1) = some (.int .u64 (q.2 : Int)) → K a) : IdxC p n j 2 K := by
  subst hn; subst hj
  have hil := kget_lt hi
  obtain ⟨a, rfl⟩ := hr.some (List.length_pos_iff.1 (by omega))
  refine ⟨by omega, by omega, ?_⟩
  show K _
  rw [Int.toNat_natCast]
  have h1 := hr.reads w hs a rfl _ _ (entsV_get0 hi)
  have h2 := hr.reads w hs a rfl _ _ (entsV_get1 hi)
  refine h _ h1 ?_
  rw [← h2]
  congr 1
  unfold Addr.add
  by_cases e : i * 2 = 0 <;> simp [e, Nat.add_assoc]
theorem LdStr.at {w : World} {a : Addr} {s : ByteArray} {K : ByteArray → Prop} (hc : w.cell? a = some (.string s)) (h : K s) : LdStr w a K := ⟨s, hc, h⟩
section
variable {F : List HP} {w : World}
/-- what take answers. -/
def LTakeP (F : List HP) (key : K) (l A o C : KV) (e : Ending) (w' : World) : Prop :=
  ∃ (p : Option Addr) (c old : Nat) (had : Bool), e = .returned (.tuple #[.slice p (A ++ C).length c, .int .u64 (old : Int), .bool had]) ∧ (o = [] ∧ had = false ∧ old = 0 ∨ o = [(key, old)] ∧ had = true) ∧ Sat (Own 49 2 p (A ++ C).length c (entsV (A ++ C)) :: F) w'
theorem ltake_c (hs : Sat F w) {l A o C : KV} {key : K} {p : Option Addr} {n c : Nat} (hn : n = l.length) (hr : RdE F p l) (hl : l.length ≤ 1000000) (hc : Cut l key A o C) :
    Calls Tryz.prog 20 #[.slice p n c, .string (str key)] w (LTakeP F key l A o C) := by
  subst hn
  refine S_law13_take_ok _ _ _ _ _ _ ?_
  unfold S_law13_take
  have hfil : ∀ m : KV, (∀ a ∈ m, a.1 ≠ key) → m.filter (fun a => decide (a.1 ≠ key)) = m := fun m hm => List.filter_eq_self.2 fun a ha => by simpa using hm a ha
  have hAC : l.filter (fun a => decide (a.1 ≠ key)) = A ++ C := by
    rw [hc.eq, List.filter_append, List.filter_append, hfil A fun a ha => lt_ne (hc.lo a ha), hfil C fun a ha => (lt_ne (hc.hi a ha)).symm]
    rcases hc.at_ with e | ⟨y, e⟩ <;> rw [e] <;> simp
  refine ⟨fun op ol oc old had i w' => ∃ (j od : Nat), i = j ∧ old = (od : Nat) ∧ j ≤ l.length ∧ ol = ((l.take j).filter (fun a => decide (a.1 ≠ key))).length ∧ ((had = false ∧ od = 0 ∧ ∀ a ∈ l.take j, a.1 ≠ key) ∨ (had = true ∧ (key, od) ∈ l)) ∧
      Sat (Own 49 2 op ol oc (entsV ((l.take j).filter (fun a => decide (a.1 ≠ key)))) :: F) w', fun _ _ _ _ _ i _ => ((l.length : Int) - i).toNat,
    ⟨0, 0, rfl, rfl, by omega, rfl, .inl ⟨rfl, rfl, by simp⟩, hs.ownNil _ _⟩, ?_⟩
  rintro op ol oc old had i w1 ⟨j, od, rfl, rfl, hj, rfl, hcase, h1⟩
  unfold S_law13_take_l0
  by_cases hlt : j < l.length
  · refine cond_t (by simp; omega) ?_
    intro k0 hk0
    obtain ⟨q, hq⟩ : ∃ q, l[j]? = some q := ⟨_, List.getElem?_eq_getElem hlt⟩
    have htk : l.take (j + 1) = l.take j ++ [q] := by rw [List.take_add_one, hq]; rfl
    refine idxE hr.tail h1 rfl rfl hq fun a c0 c1 => LdStr.at c0 ?_
    rw [key_str_eq]
    by_cases hk : q.1 = key
    · refine cond_t (by simp [hk]) ?_
      refine idxE hr.tail h1 rfl rfl hq fun a c0 c1 => LdI.at c1 (hk0 _ _ _ _ _ _ ?_)
      unfold S_law13_take_j0
      have ef : (l.take (j + 1)).filter (fun a => decide (a.1 ≠ key)) = (l.take j).filter (fun a => decide (a.1 ≠ key)) := by rw [htk, List.filter_append]; simp [hk]
      refine ⟨⟨j + 1, q.2, by rw [wrapI64 (by omega) (by omega)]; omega, rfl, by omega, by rw [ef], .inr ⟨rfl, ?_⟩, by rw [ef]; exact h1⟩, by rw [wrapI64 (by omega) (by omega)]; dsimp only; omega⟩
      rw [← hk]; exact List.mem_of_getElem? hq
    · refine cond_f (by simp [hk]) ?_
      refine idxE hr.tail h1 rfl rfl hq fun a c0 c1 => LdStr.at c0 (LdI.at c1 ?_)
      have hlf : ((l.take j).filter (fun a => decide (a.1 ≠ key))).length ≤ j := Nat.le_trans (List.length_filter_le _ _) (by simp; omega)
      refine RunS.one eok_ent h1 0 rfl rfl rfl (by omega) (by simp only [maxLen]; omega) fun p' c' w4 h4 => hk0 _ _ _ _ _ _ ?_
      unfold S_law13_take_j0
      have ef : (l.take (j + 1)).filter (fun a => decide (a.1 ≠ key)) = (l.take j).filter (fun a => decide (a.1 ≠ key)) ++ [q] := by rw [htk, List.filter_append]; simp [hk]
      refine ⟨⟨j + 1, od, by rw [wrapI64 (by omega) (by omega)]; omega, rfl, by omega, by rw [ef]; simp, ?_, ?_⟩, by rw [wrapI64 (by omega) (by omega)]; dsimp only; omega⟩
      · refine hcase.imp (fun ⟨a1, a2, a3⟩ => ⟨a1, a2, fun a ha => ?_⟩) id
        rw [htk] at ha
        rcases List.mem_append.1 ha with ha | ha
        · exact a3 a ha
        · simp only [List.mem_cons, List.not_mem_nil, or_false] at ha; rw [ha]; exact hk
      · rw [ef, entsV_append]; exact h4
  · have : j = l.length := by omega
    subst this
    refine cond_f (by simp) ?_
    rw [List.take_length, hAC] at h1 ⊢
    rw [List.take_length] at hcase
    refine ⟨op, oc, od, had, rfl, ?_, h1⟩
    rcases hcase with ⟨a1, a2, a3⟩ | ⟨a1, a2⟩
    · refine .inl ⟨?_, a1, a2⟩
      rcases hc.at_ with e | ⟨y, e⟩
      · exact e
      · exact absurd rfl (a3 (key, y) (by rw [hc.eq, e]; simp))
    · refine .inr ⟨?_, a1⟩
      rw [hc.eq] at a2
      rcases List.mem_append.1 a2 with a2 | a2
      · rcases List.mem_append.1 a2 with a2 | a2
        · have := hc.lo _ a2; rw [lt_irrefl] at this; cases this
        · rcases hc.at_ with e | ⟨y, e⟩
          · rw [e] at a2; simp at a2
          · rw [e] at a2 ⊢
            simp only [List.mem_cons, List.not_mem_nil, or_false] at a2
            rw [a2]
      · have := hc.hi _ a2; rw [lt_irrefl] at this; cases this
/-- what put answers. -/
def LPutP (F : List HP) (key : K) (x : Nat) (l A o C : KV) (e : Ending) (w' : World) : Prop :=
  ∃ (p : Option Addr) (c old : Nat) (had : Bool), e = .returned (.tuple #[.slice p (A ++ (key, x) :: C).length c, .int .u64 (old : Int), .bool had]) ∧ (o = [] ∧ had = false ∧ old = 0 ∨ o = [(key, old)] ∧ had = true) ∧ Sat (Own 49 2 p (A ++ (key, x) :: C).length c (entsV (A ++ (key, x) :: C)) :: F) w'
theorem lput_c (hs : Sat F w) {l A o C : KV} {key : K} {x : Nat} {p : Option Addr} {n c : Nat} (hn : n = l.length) (hr : RdE F p l) (hl : l.length ≤ 1000000) (hc : Cut l key A o C) (hsr : SrtK l) :
    Calls Tryz.prog 18 #[.slice p n c, .string (str key), .int .u64 (x : Int)] w (LPutP F key x l A o C) := by
  refine S_law13_put_ok _ _ _ _ _ _ _ ?_
  unfold S_law13_put
  refine (ltake_c hs hn hr hl hc).mono ?_
  rintro e w1 ⟨op, oc, old, had, rfl, hold, h1⟩
  refine ⟨_, _, _, _, _, rfl, ?_⟩
  have hcAC : Cut (A ++ C) key A [] C := ⟨by simp, hc.lo, hc.hi, .inl rfl⟩
  have hlen : (A ++ C).length ≤ l.length := by rw [hc.eq]; simp
  have hlenA : A.length ≤ (A ++ C).length := by simp
  have hlt2 := cut_lt hcAC (hc.take hsr)
  refine ⟨fun at_ i w' => ∃ j : Nat, i = j ∧ at_ = (min j A.length : Nat) ∧ j ≤ (A ++ C).length ∧ Sat (Own 49 2 op (A ++ C).length oc (entsV (A ++ C)) :: F) w', fun _ i _ => (((A ++ C).length : Int) - i).toNat,
    ⟨0, rfl, by simp, by omega, h1⟩, ?_⟩
  rintro at_ i w2 ⟨j, rfl, rfl, hj, h2⟩
  have hrd : RdE (Own 49 2 op (A ++ C).length oc (entsV (A ++ C)) :: F) op (A ++ C) := RdE.own 0 rfl (ent_some h2 (k := 0) rfl rfl)
  unfold S_law13_put_l0
  by_cases hlt : j < (A ++ C).length
  · refine cond_t (by simp at hlt ⊢; omega) ?_
    intro k0 hk0
    obtain ⟨q, hq⟩ : ∃ q, (A ++ C)[j]? = some q := ⟨_, List.getElem?_eq_getElem hlt⟩
    refine idxE hrd h2 rfl rfl hq fun a c0 c1 => LdStr.at c0 ?_
    rw [str_toList, str_toList]
    have hiff := hlt2 j q hq
    by_cases hk : lt q.1 key = true
    · have hjA := hiff.1 hk
      refine cond_t hk (hk0 _ _ ?_)
      unfold S_law13_put_j0
      rw [wrapI64 (by omega) (by omega)]
      exact ⟨⟨j + 1, by omega, by omega, by omega, h2⟩, by dsimp only; omega⟩
    · have hjA : ¬ j < A.length := fun h => hk (hiff.2 h)
      refine cond_f (show lt q.1 key = false by simpa using hk) (hk0 _ _ ?_)
      unfold S_law13_put_j0
      rw [wrapI64 (by omega) (by omega)]
      exact ⟨⟨j + 1, by omega, by omega, by omega, h2⟩, by dsimp only; omega⟩
  · have hjl : j = (A ++ C).length := by omega
    refine cond_f (by simp at hjl ⊢; omega) ?_
    have hat : min j A.length = A.length := by omega
    rw [hat]
    have hcap : (A ++ C).length ≤ oc := by
      rcases (h2.own 0 rfl).2 with ⟨_, h, h'⟩ | ⟨_, _, _, h, _⟩
      · omega
      · exact h
    refine SlC.of 0 A.length oc rfl rfl rfl (by omega) (by omega) (Nat.le_refl _) ?_
    rw [slAddr_zero, Nat.sub_zero, Nat.sub_zero]
    have hrA : Reads w2 op (entsV A) := by
      have := (hrd.reads w2 h2).take (A.length * 2)
      rw [entsV_take, List.take_left] at this
      exact this
    refine RunS.app eok_ent (h2.ownNil 49 2) 0 rfl hrA (fun h => hrd.some (List.length_pos_iff.1 (by omega))) (entsV_len _) (entsV_one _) (by omega) (by simp only [maxLen]; omega) fun p' c' w4 h4 => ?_
    have h4 : Sat (Own 49 2 p' (0 + A.length) c' (entsV A) :: Own 49 2 op (A ++ C).length oc (entsV (A ++ C)) :: F) w4 := h4
    rw [Nat.zero_add] at h4 ⊢
    refine RunS.one eok_ent h4 0 rfl rfl rfl (by omega) (by simp only [maxLen]; omega) fun p5 c5 w5 h5 => ?_
    have h5 : Sat (Own 49 2 p5 (A.length + 1) c5 (entsV (A ++ [(key, x)])) :: Own 49 2 op (A ++ C).length oc (entsV (A ++ C)) :: F) w5 := by
      rw [entsV_append]; exact h5
    have hrC := hrd
    refine SlC.of A.length (A ++ C).length oc rfl rfl rfl hlenA hcap (Nat.le_refl _) ?_
    have hCl : (A ++ C).length - A.length = C.length := by simp
    rw [hCl]
    have hrC : Reads w5 (slAddr op oc A.length 2) (entsV C) ∧ (0 < C.length → ∃ a, slAddr op oc A.length 2 = some a) := by
      have hr5 := hrd.reads w5 h5.drop
      by_cases hC : C = []
      · subst hC
        exact ⟨fun a _ j v hj => by simp at hj, fun h => by simp at h⟩
      · have hC0 := List.length_pos_iff.2 hC
        have hlA : (A ++ C).length = A.length + C.length := by simp
        have hne : oc ≠ A.length := by omega
        obtain ⟨a, ha⟩ := hrd.some (by intro h; rw [h] at hlA; simp at hlA; omega)
        refine ⟨?_, fun _ => ?_⟩
        · rcases hr5.slice (m := oc) (l := A.length) (s := 2) (n := C.length) with h | h
          · rw [entsV_drop, List.drop_left] at h
            rw [List.take_of_length_le (by rw [entsV_len]; omega)] at h
            exact h
          · exact absurd h hne
        · rw [ha]; unfold slAddr; rw [if_neg hne]; exact ⟨_, rfl⟩
    refine RunS.app eok_ent h5 0 rfl hrC.1 hrC.2 (entsV_len _) (entsV_one _) (by omega) (by simp only [maxLen]; omega) fun p6 c6 w6 h6 => ?_
    have e1 : A.length + 1 + C.length = (A ++ (key, x) :: C).length := by simp; omega
    have e2 : entsV (A ++ [(key, x)]) ++ entsV C = entsV (A ++ (key, x) :: C) := by rw [← entsV_append]; simp
    have h6 : Sat (Own 49 2 p6 (A.length + 1 + C.length) c6 (entsV (A ++ [(key, x)]) ++ entsV C) :: Own 49 2 op (A ++ C).length oc (entsV (A ++ C)) :: F) w6 := h6
    rw [e1, e2] at h6
    rw [e1]
    exact ⟨p6, c6, old, had, rfl, hold, h6.del 1 rfl⟩
end
end Go.Proofs.YtpicofkhioalkaaGreat
