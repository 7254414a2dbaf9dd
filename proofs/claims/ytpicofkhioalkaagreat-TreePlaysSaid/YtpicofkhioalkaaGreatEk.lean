
/- The model's lists of entries: put, take; a tree that holds just a list; the law 'awake'. -/
import Derived.Test.YtpicofkhioalkaaGreatEj
set_option maxRecDepth 100000
namespace Go.Td
open Go Go.Hm Go.Kd
theorem cut_lt {l A o C : KV} {key : K} (h : Cut l key A o C) (hs : SrtK l) : ∀ j p, l[j]? = some p -> (lt p.1 key = true ↔ j < A.length) := by
 intro j p hp
 rw [h.eq, List.append_assoc, List.getElem?_append] at hp
 split at hp
 ·rename_i hj
  exact ⟨fun _ => hj, fun _ => h.lo p (List.mem_of_getElem? hp)⟩
 ·rename_i hj
  refine ⟨fun hl => ?_, fun h => absurd h hj⟩
  rcases List.mem_append.1 (List.mem_of_getElem? hp) with hm | hm
  ·rcases h.at_ with e | ⟨y, e⟩
   ·rw [e] at hm; simp at hm
   ·rw [e] at hm
    simp only [List.mem_cons, List.not_mem_nil, or_false] at hm
    rw [hm, lt_irrefl] at hl; cases hl
  ·rw [lt_asymm (h.hi p hm)] at hl; cases hl
theorem cut_inj {l A o C A' o' C' : KV} {key : K} (h : Cut l key A o C) (g : Cut l key A' o' C') (hs : SrtK l) : A' = A /\ o' = o /\ C' = C := by
 have hlen : A.length = A'.length := by
  rcases Nat.lt_trichotomy A.length A'.length with hl | hl | hl
  ·have : A'[A.length]? = some A'[A.length] := List.getElem?_eq_getElem hl
   have h2 : l[A.length]? = some A'[A.length] := by rw [g.eq, List.append_assoc, List.getElem?_append_left hl]; exact this
   have h3 := (cut_lt g hs _ _ h2).2 hl
   have h4 := (cut_lt h hs _ _ h2).1 h3
   omega
  ·exact hl
  ·have : A[A'.length]? = some A[A'.length] := List.getElem?_eq_getElem hl
   have h2 : l[A'.length]? = some A[A'.length] := by rw [h.eq, List.append_assoc, List.getElem?_append_left hl]; exact this
   have h3 := (cut_lt h hs _ _ h2).2 hl
   have h4 := (cut_lt g hs _ _ h2).1 h3
   omega
 have e1 := h.eq
 rw [g.eq, List.append_assoc, List.append_assoc] at e1
 obtain ⟨e2, e3⟩ := List.append_inj e1 hlen.symm
 have nd : ∀ {o C o' C' : KV}, (∀ c ∈ C, lt key c.1 = true) -> (∀ c ∈ C', lt key c.1 = true) -> (o = [] ∨ ∃ y, o = [(key, y)]) -> (o' = [] ∨ ∃ y, o' = [(key, y)]) -> o ++ C = o' ++ C' -> o = o' /\ C = C' := by
  intro o C o' C' c1 c2 h1 h2 he
  rcases h1 with rfl | ⟨y, rfl⟩ <;> rcases h2 with rfl | ⟨y', rfl⟩
  ·exact ⟨rfl, by simpa using he⟩
  ·have : (key, y') ∈ C := by rw [show C = (key, y') :: C' by simpa using he]; simp
   have := c1 _ this
   rw [lt_irrefl] at this; cases this
  ·have : (key, y) ∈ C' := by rw [show C' = (key, y) :: C by simpa using he.symm]; simp
   have := c2 _ this
   rw [lt_irrefl] at this; cases this
  ·simp only [List.cons_append, List.nil_append, List.cons.injEq, Prod.mk.injEq, true_and] at he
   exact ⟨by rw [he.1], he.2⟩
 obtain ⟨e4, e5⟩ := nd g.hi h.hi g.at_ h.at_ e3
 exact ⟨e2, e4, e5⟩
theorem lt_snoc : ∀ (x y : K), lt x (y ++ [0]) = !lt y x
 | [], [] => rfl
 | [], b :: y => by rw [lt_nil, List.cons_append, nil_lt]; rfl
 | a :: x, [] => by
  rw [nil_lt, List.nil_append, lt_cons, lt_nil]
  have : decide (a < 0) = false := by simp [u8_lt]
  rw [this]; simp
 | a :: x, b :: y => by
  rw [List.cons_append, lt_cons, lt_cons, lt_snoc x y]
  by_cases e : a = b
  ·subst e
   have hd : decide (a < a) = false := by simp [u8_lt]
   rw [hd]; simp
  ·have e1 : (a == b) = false := by simpa using e
   have e2 : (b == a) = false := by simpa using fun h => e h.symm
   rw [e1, e2]
   have hne : a.toNat ≠ b.toNat := fun h => e (u8_eq.2 h)
   simp only [Bool.false_and, Bool.or_false, u8_lt]
   by_cases h : a.toNat < b.toNat
   ·have : ¬ b.toNat < a.toNat := by omega
    simp [h, this]
   ·have : b.toNat < a.toNat := by omega
    simp [h, this]
end Go.Td
namespace Go.Lw
theorem RunS.app {P : Program} {L : List HP} {w : World} {t e s bytes ty : Nat} (hE : EOK P t e s bytes) {p q : Option Addr} {l c m mc : Nat} {xs news : List Value} {K : Option Addr -> Nat -> Nat -> World -> Prop} (hs : Sat L w)
  (i : Nat) (hi : L[i]? = some (Own e s p l c xs)) (hn : Reads w q news) (hq : 0 < m -> ∃ a, q = some a) (hnl : news.length = m * s) (h1 : ∀ u ∈ news, u.oneCell' = true) (hb : (l + m) * bytes <= 140737488355328) (hm : l + m <= maxLen)
  (h : ∀ p' c' w', Sat (L.set i (Own e s p' (l + m) c' (xs ++ news))) w' -> K p' (l + m) c' w') : RunS P (Builtin.append_ #[t, t] ty #[.slice p l c, .slice q m mc]) w K := by
 rcases Nat.eq_zero_or_pos m with h0 | h0
 ·subst h0
  have hnew : news = [] := List.eq_nil_of_length_eq_zero (by simpa using hnl)
  subst hnew
  have hlc : l <= c := by
   rcases (hs.own i hi).2 with ⟨_, rfl, rfl⟩ | ⟨_, _, _, h, _⟩
   ·exact Nat.le_refl _
   ·exact h
  refine RunS.nothing hE hlc ?_
  have := h p c w (by
   rw [Nat.add_zero, List.append_nil]
   exact Sat.back (A' := Own e s p l c xs) i hi (hs.pull i hi))
  simpa using this
 ·obtain ⟨a, rfl⟩ := hq h0
  exact RunS.own hE hs i hi hn hnl h1 hb hm h
end Go.Lw
namespace Go.Proofs.YtpicofkhioalkaaGreat
open Go Go.Lw Go.Wd Go.Am Go.Tb Go.Hm Go.Kd Go.Td
theorem eok_ent : EOK Tryz.prog 44 49 2 24 := ⟨by kernel_rfl, ⟨_, _, rfl, rfl, rfl, rfl, rfl⟩, by omega⟩
def entV (e : K × Nat) : List Value := [.string (str e.1), .int .u64 (e.2 : Int)]
def entsV (l : KV) : List Value := l.flatMap entV
@[simp] theorem entsV_nil : entsV [] = [] := rfl
@[simp] theorem entsV_cons (e : K × Nat) (l : KV) : entsV (e :: l) = .string (str e.1) :: .int .u64 (e.2 : Int) :: entsV l := rfl
theorem entsV_append (a b : KV) : entsV (a ++ b) = entsV a ++ entsV b := by simp [entsV]
theorem entsV_len (l : KV) : (entsV l).length = l.length * 2 := by
 induction l with
 | nil => rfl
 | cons p l ih => simp only [entsV_cons, List.length_cons, ih]; omega
theorem entsV_one (l : KV) : ∀ u ∈ entsV l, u.oneCell' = true := by
 intro u hu
 simp only [entsV, List.mem_flatMap, entV] at hu
 obtain ⟨p, _, h⟩ := hu
 simp only [List.mem_cons, List.not_mem_nil, or_false] at h
 rcases h with rfl | rfl <;> rfl
theorem entsV_get0 : ∀ {l : KV} {i : Nat} {p : K × Nat}, l[i]? = some p -> (entsV l)[i * 2]? = some (.string (str p.1))
 | [], i, p, h => by simp at h
 | q :: l, 0, p, h => by simp at h; subst h; rfl
 | q :: l, i + 1, p, h => by
  simp at h
  have : (i + 1) * 2 = i * 2 + 2 := by omega
  rw [this, entsV_cons, List.getElem?_cons_succ, List.getElem?_cons_succ]
  exact entsV_get0 h
theorem entsV_get1 : ∀ {l : KV} {i : Nat} {p : K × Nat}, l[i]? = some p -> (entsV l)[i * 2 + 1]? = some (.int .u64 (p.2 : Int))
 | [], i, p, h => by simp at h
 | q :: l, 0, p, h => by simp at h; subst h; rfl
 | q :: l, i + 1, p, h => by
  simp at h
  have : (i + 1) * 2 + 1 = i * 2 + 1 + 2 := by omega
  rw [this, entsV_cons, List.getElem?_cons_succ, List.getElem?_cons_succ]
  exact entsV_get1 h
theorem entsV_take (l : KV) (i : Nat) : (entsV l).take (i * 2) = entsV (l.take i) := by
 induction l generalizing i with
 | nil => simp
 | cons p l ih =>
  cases i with
  | zero => simp
  | succ i =>
   have : (i + 1) * 2 = i * 2 + 1 + 1 := by omega
   rw [this, entsV_cons, List.take_succ_cons, List.take_succ_cons, ih]; rfl
theorem entsV_drop (l : KV) (i : Nat) : (entsV l).drop (i * 2) = entsV (l.drop i) := by
 induction l generalizing i with
 | nil => simp
 | cons p l ih =>
  cases i with
  | zero => simp
  | succ i =>
   have : (i + 1) * 2 = i * 2 + 1 + 1 := by omega
   rw [this, entsV_cons, List.drop_succ_cons, List.drop_succ_cons, ih]; rfl
structure RdE (F : List HP) (p : Option Addr) (l : KV) : Prop where
 reads : ∀ w, Sat F w -> Reads w p (entsV l)
 some : l ≠ [] -> ∃ a, p = some a
theorem RdE.tail {A : HP} {F : List HP} {p : Option Addr} {l : KV} (h : RdE F p l) : RdE (A :: F) p l := ⟨fun w hs => h.reads w hs.drop, h.some⟩
theorem RdE.own {F : List HP} {p : Option Addr} {l : KV} {n c : Nat} (k : Nat) (hk : F[k]? = Option.some (Own 49 2 p n c (entsV l))) (hp : l ≠ [] -> ∃ a, p = Option.some a) : RdE F p l := ⟨fun _ h => h.reads k hk, hp⟩
theorem ent_some {F : List HP} {w : World} {k : Nat} {p : Option Addr} {l : KV} {n c : Nat} (hs : Sat F w) (hk : F[k]? = some (Own 49 2 p n c (entsV l))) (hn : n = l.length) : l ≠ [] -> ∃ a, p = some a := by
 subst hn
 intro h
 obtain ⟨g, hg⟩ := hs.own_some k hk (List.length_pos_iff.2 h)
 exact ⟨_, hg⟩
theorem idxE {K : Addr -> Prop} {F : List HP} {w : World} {p : Option Addr} {l : KV} (hr : RdE F p l) (hs : Sat F w) {n i : Nat} {j : Int} {q : Kd.K × Nat} (hn : n = l.length) (hj : j = i) (hi : l[i]? = some q)
  (h : ∀ a, w.cell? a = some (.string (str q.1)) -> w.cell? (a.add 1) = some (.int .u64 (q.2 : Int)) -> K a) : IdxC p n j 2 K := by
 subst hn; subst hj
 have hil := kget_lt hi
 obtain ⟨a, rfl⟩ := hr.some (List.length_pos_iff.1 (by omega))
 refine ⟨by omega, by omega, ?_⟩
 show K _
 rw [Int.toNat_natCast]
 have h1 := hr.reads w hs a rfl _ _ (entsV_get0 hi)
 have h2 := hr.reads w hs a rfl _ _ (entsV_get1 hi)
 refine h _ h1 ?_
 rw [<- h2]
 congr 1
 unfold Addr.add
 by_cases e : i * 2 = 0 <;> simp [e, Nat.add_assoc]
theorem LdStr.at {w : World} {a : Addr} {s : ByteArray} {K : ByteArray -> Prop} (hc : w.cell? a = some (.string s)) (h : K s) : LdStr w a K := ⟨s, hc, h⟩
section
variable {F : List HP} {w : World}
def LTakeP (F : List HP) (key : K) (l A o C : KV) (e : Ending) (w' : World) : Prop :=
 ∃ (p : Option Addr) (c old : Nat) (had : Bool), e = .returned (.tuple #[.slice p (A ++ C).length c, .int .u64 (old : Int), .bool had]) /\ (o = [] /\ had = false /\ old = 0 ∨ o = [(key, old)] /\ had = true) /\ Sat (Own 49 2 p (A ++ C).length c (entsV (A ++ C)) :: F) w'
theorem ltake_c (hs : Sat F w) {l A o C : KV} {key : K} {p : Option Addr} {n c : Nat} (hn : n = l.length) (hr : RdE F p l) (hl : l.length <= 1000000) (hc : Cut l key A o C) :
  Calls Tryz.prog 20 #[.slice p n c, .string (str key)] w (LTakeP F key l A o C) := by
 subst hn
 refine S_law13_take_ok _ _ _ _ _ _ ?_
 unfold S_law13_take
 have hfil : ∀ m : KV, (∀ a ∈ m, a.1 ≠ key) -> m.filter (fun a => decide (a.1 ≠ key)) = m := fun m hm => List.filter_eq_self.2 fun a ha => by simpa using hm a ha
 have hAC : l.filter (fun a => decide (a.1 ≠ key)) = A ++ C := by
  rw [hc.eq, List.filter_append, List.filter_append, hfil A fun a ha => lt_ne (hc.lo a ha), hfil C fun a ha => (lt_ne (hc.hi a ha)).symm]
  rcases hc.at_ with e | ⟨y, e⟩ <;> rw [e] <;> simp
 refine ⟨fun op ol oc old had i w' => ∃ (j od : Nat), i = j /\ old = (od : Nat) /\ j <= l.length /\ ol = ((l.take j).filter (fun a => decide (a.1 ≠ key))).length /\ ((had = false /\ od = 0 /\ ∀ a ∈ l.take j, a.1 ≠ key) ∨ (had = true /\ (key, od) ∈ l)) /\
   Sat (Own 49 2 op ol oc (entsV ((l.take j).filter (fun a => decide (a.1 ≠ key)))) :: F) w', fun _ _ _ _ _ i _ => ((l.length : Int) - i).toNat,
  ⟨0, 0, rfl, rfl, by omega, rfl, .inl ⟨rfl, rfl, by simp⟩, hs.ownNil _ _⟩, ?_⟩
 rintro op ol oc old had i w1 ⟨j, od, rfl, rfl, hj, rfl, hcase, h1⟩
 unfold S_law13_take_l0
 by_cases hlt : j < l.length
 ·refine cond_t (by simp; omega) ?_
  intro k0 hk0
  obtain ⟨q, hq⟩ : ∃ q, l[j]? = some q := ⟨_, List.getElem?_eq_getElem hlt⟩
  have htk : l.take (j + 1) = l.take j ++ [q] := by rw [List.take_add_one, hq]; rfl
  refine idxE hr.tail h1 rfl rfl hq fun a c0 c1 => LdStr.at c0 ?_
  rw [key_str_eq]
  by_cases hk : q.1 = key
  ·refine cond_t (by simp [hk]) ?_
   refine idxE hr.tail h1 rfl rfl hq fun a c0 c1 => LdI.at c1 (hk0 _ _ _ _ _ _ ?_)
   unfold S_law13_take_j0
   have ef : (l.take (j + 1)).filter (fun a => decide (a.1 ≠ key)) = (l.take j).filter (fun a => decide (a.1 ≠ key)) := by rw [htk, List.filter_append]; simp [hk]
   refine ⟨⟨j + 1, q.2, by rw [wrapI64 (by omega) (by omega)]; omega, rfl, by omega, by rw [ef], .inr ⟨rfl, ?_⟩, by rw [ef]; exact h1⟩, by rw [wrapI64 (by omega) (by omega)]; dsimp only; omega⟩
   rw [<- hk]; exact List.mem_of_getElem? hq
  ·refine cond_f (by simp [hk]) ?_
   refine idxE hr.tail h1 rfl rfl hq fun a c0 c1 => LdStr.at c0 (LdI.at c1 ?_)
   have hlf : ((l.take j).filter (fun a => decide (a.1 ≠ key))).length <= j := Nat.le_trans (List.length_filter_le _ _) (by simp; omega)
   refine RunS.one eok_ent h1 0 rfl rfl rfl (by omega) (by simp only [maxLen]; omega) fun p' c' w4 h4 => hk0 _ _ _ _ _ _ ?_
   unfold S_law13_take_j0
   have ef : (l.take (j + 1)).filter (fun a => decide (a.1 ≠ key)) = (l.take j).filter (fun a => decide (a.1 ≠ key)) ++ [q] := by rw [htk, List.filter_append]; simp [hk]
   refine ⟨⟨j + 1, od, by rw [wrapI64 (by omega) (by omega)]; omega, rfl, by omega, by rw [ef]; simp, ?_, ?_⟩, by rw [wrapI64 (by omega) (by omega)]; dsimp only; omega⟩
   ·refine hcase.imp (fun ⟨a1, a2, a3⟩ => ⟨a1, a2, fun a ha => ?_⟩) id
    rw [htk] at ha
    rcases List.mem_append.1 ha with ha | ha
    ·exact a3 a ha
    ·simp only [List.mem_cons, List.not_mem_nil, or_false] at ha; rw [ha]; exact hk
   ·rw [ef, entsV_append]; exact h4
 ·have : j = l.length := by omega
  subst this
  refine cond_f (by simp) ?_
  rw [List.take_length, hAC] at h1 ⊢
  rw [List.take_length] at hcase
  refine ⟨op, oc, od, had, rfl, ?_, h1⟩
  rcases hcase with ⟨a1, a2, a3⟩ | ⟨a1, a2⟩
  ·refine .inl ⟨?_, a1, a2⟩
   rcases hc.at_ with e | ⟨y, e⟩
   ·exact e
   ·exact absurd rfl (a3 (key, y) (by rw [hc.eq, e]; simp))
  ·refine .inr ⟨?_, a1⟩
   rw [hc.eq] at a2
   rcases List.mem_append.1 a2 with a2 | a2
   ·rcases List.mem_append.1 a2 with a2 | a2
    ·have := hc.lo _ a2; rw [lt_irrefl] at this; cases this
    ·rcases hc.at_ with e | ⟨y, e⟩
     ·rw [e] at a2; simp at a2
     ·rw [e] at a2 ⊢
      simp only [List.mem_cons, List.not_mem_nil, or_false] at a2
      rw [a2]
   ·have := hc.hi _ a2; rw [lt_irrefl] at this; cases this
def LPutP (F : List HP) (key : K) (x : Nat) (l A o C : KV) (e : Ending) (w' : World) : Prop :=
 ∃ (p : Option Addr) (c old : Nat) (had : Bool), e = .returned (.tuple #[.slice p (A ++ (key, x) :: C).length c, .int .u64 (old : Int), .bool had]) /\ (o = [] /\ had = false /\ old = 0 ∨ o = [(key, old)] /\ had = true) /\ Sat (Own 49 2 p (A ++ (key, x) :: C).length c (entsV (A ++ (key, x) :: C)) :: F) w'
theorem lput_c (hs : Sat F w) {l A o C : KV} {key : K} {x : Nat} {p : Option Addr} {n c : Nat} (hn : n = l.length) (hr : RdE F p l) (hl : l.length <= 1000000) (hc : Cut l key A o C) (hsr : SrtK l) :
  Calls Tryz.prog 18 #[.slice p n c, .string (str key), .int .u64 (x : Int)] w (LPutP F key x l A o C) := by
 refine S_law13_put_ok _ _ _ _ _ _ _ ?_
 unfold S_law13_put
 refine (ltake_c hs hn hr hl hc).mono ?_
 rintro e w1 ⟨op, oc, old, had, rfl, hold, h1⟩
 refine ⟨_, _, _, _, _, rfl, ?_⟩
 have hcAC : Cut (A ++ C) key A [] C := ⟨by simp, hc.lo, hc.hi, .inl rfl⟩
 have hlen : (A ++ C).length <= l.length := by rw [hc.eq]; simp
 have hlenA : A.length <= (A ++ C).length := by simp
 have hlt2 := cut_lt hcAC (hc.take hsr)
 refine ⟨fun at_ i w' => ∃ j : Nat, i = j /\ at_ = (min j A.length : Nat) /\ j <= (A ++ C).length /\ Sat (Own 49 2 op (A ++ C).length oc (entsV (A ++ C)) :: F) w', fun _ i _ => (((A ++ C).length : Int) - i).toNat,
  ⟨0, rfl, by simp, by omega, h1⟩, ?_⟩
 rintro at_ i w2 ⟨j, rfl, rfl, hj, h2⟩
 have hrd : RdE (Own 49 2 op (A ++ C).length oc (entsV (A ++ C)) :: F) op (A ++ C) := RdE.own 0 rfl (ent_some h2 (k := 0) rfl rfl)
 unfold S_law13_put_l0
 by_cases hlt : j < (A ++ C).length
 ·refine cond_t (by simp at hlt ⊢; omega) ?_
  intro k0 hk0
  obtain ⟨q, hq⟩ : ∃ q, (A ++ C)[j]? = some q := ⟨_, List.getElem?_eq_getElem hlt⟩
  refine idxE hrd h2 rfl rfl hq fun a c0 c1 => LdStr.at c0 ?_
  rw [str_toList, str_toList]
  have hiff := hlt2 j q hq
  by_cases hk : lt q.1 key = true
  ·have hjA := hiff.1 hk
   refine cond_t hk (hk0 _ _ ?_)
   unfold S_law13_put_j0
   rw [wrapI64 (by omega) (by omega)]
   exact ⟨⟨j + 1, by omega, by omega, by omega, h2⟩, by dsimp only; omega⟩
  ·have hjA : ¬ j < A.length := fun h => hk (hiff.2 h)
   refine cond_f (show lt q.1 key = false by simpa using hk) (hk0 _ _ ?_)
   unfold S_law13_put_j0
   rw [wrapI64 (by omega) (by omega)]
   exact ⟨⟨j + 1, by omega, by omega, by omega, h2⟩, by dsimp only; omega⟩
 ·have hjl : j = (A ++ C).length := by omega
  refine cond_f (by simp at hjl ⊢; omega) ?_
  have hat : min j A.length = A.length := by omega
  rw [hat]
  have hcap : (A ++ C).length <= oc := by
   rcases (h2.own 0 rfl).2 with ⟨_, h, h'⟩ | ⟨_, _, _, h, _⟩
   ·omega
   ·exact h
  refine SlC.of 0 A.length oc rfl rfl rfl (by omega) (by omega) (Nat.le_refl _) ?_
  rw [slAddr_zero, Nat.sub_zero, Nat.sub_zero]
  have hrA : Reads w2 op (entsV A) := by
   have := (hrd.reads w2 h2).take (A.length * 2)
   rw [entsV_take, List.take_left] at this
   exact this
  refine RunS.app eok_ent (h2.ownNil 49 2) 0 rfl hrA (fun h => hrd.some (List.length_pos_iff.1 (by omega))) (entsV_len _) (entsV_one _) (by omega) (by simp only [maxLen]; omega) fun p' c' w4 h4 => ?_
  have h4 : Sat (Own 49 2 p' (0 + A.length) c' (entsV A) :: Own 49 2 op (A ++ C).length oc (entsV (A ++ C)) :: F) w4 := h4
  rw [Nat.zero_add] at h4 ⊢
  refine RunS.one eok_ent h4 0 rfl rfl rfl (by omega) (by simp only [maxLen]; omega) fun p5 c5 w5 h5 => ?_
  have h5 : Sat (Own 49 2 p5 (A.length + 1) c5 (entsV (A ++ [(key, x)])) :: Own 49 2 op (A ++ C).length oc (entsV (A ++ C)) :: F) w5 := by
   rw [entsV_append]; exact h5
  have hrC := hrd
  refine SlC.of A.length (A ++ C).length oc rfl rfl rfl hlenA hcap (Nat.le_refl _) ?_
  have hCl : (A ++ C).length - A.length = C.length := by simp
  rw [hCl]
  have hrC : Reads w5 (slAddr op oc A.length 2) (entsV C) /\ (0 < C.length -> ∃ a, slAddr op oc A.length 2 = some a) := by
   have hr5 := hrd.reads w5 h5.drop
   by_cases hC : C = []
   ·subst hC
    exact ⟨fun a _ j v hj => by simp at hj, fun h => by simp at h⟩
   ·have hC0 := List.length_pos_iff.2 hC
    have hlA : (A ++ C).length = A.length + C.length := by simp
    have hne : oc ≠ A.length := by omega
    obtain ⟨a, ha⟩ := hrd.some (by intro h; rw [h] at hlA; simp at hlA; omega)
    refine ⟨?_, fun _ => ?_⟩
    ·rcases hr5.slice (m := oc) (l := A.length) (s := 2) (n := C.length) with h | h
     ·rw [entsV_drop, List.drop_left] at h
      rw [List.take_of_length_le (by rw [entsV_len]; omega)] at h
      exact h
     ·exact absurd h hne
    ·rw [ha]; unfold slAddr; rw [if_neg hne]; exact ⟨_, rfl⟩
  refine RunS.app eok_ent h5 0 rfl hrC.1 hrC.2 (entsV_len _) (entsV_one _) (by omega) (by simp only [maxLen]; omega) fun p6 c6 w6 h6 => ?_
  have e1 : A.length + 1 + C.length = (A ++ (key, x) :: C).length := by simp; omega
  have e2 : entsV (A ++ [(key, x)]) ++ entsV C = entsV (A ++ (key, x) :: C) := by rw [<- entsV_append]; simp
  have h6 : Sat (Own 49 2 p6 (A.length + 1 + C.length) c6 (entsV (A ++ [(key, x)]) ++ entsV C) :: Own 49 2 op (A ++ C).length oc (entsV (A ++ C)) :: F) w6 := h6
  rw [e1, e2] at h6
  rw [e1]
  exact ⟨p6, c6, old, had, rfl, hold, h6.del 1 rfl⟩
end
end Go.Proofs.YtpicofkhioalkaaGreat
/- A tree that holds just a list (holds); the law 'awake'. -/
set_option maxRecDepth 100000
namespace Go.Td
open Go Go.Hm Go.Kd
theorem kv_len (es : List Ent) : (kv es).length = es.length := by simp [kv]
theorem part_at {l A C : KV} {P : K × Nat -> Prop} {i : Nat} (h : l = A ++ C) (hA : ∀ a ∈ A, P a) (hC : ∀ c ∈ C, ¬ P c) (hi : i <= l.length) (hP : ∀ j q, l[j]? = some q -> (P q ↔ j < i)) : A = l.take i /\ C = l.drop i := by
 have hlen : A.length = i := by
  rcases Nat.lt_trichotomy A.length i with hl | hl | hl
  ·have hlt : A.length < l.length := by omega
   obtain ⟨q, hq⟩ : ∃ q, l[A.length]? = some q := ⟨_, List.getElem?_eq_getElem hlt⟩
   have h1 := (hP _ _ hq).2 hl
   rw [h, List.getElem?_append_right (Nat.le_refl _)] at hq
   exact absurd h1 (hC q (List.mem_of_getElem? hq))
  ·exact hl
  ·obtain ⟨q, hq⟩ : ∃ q, A[i]? = some q := ⟨_, List.getElem?_eq_getElem hl⟩
   have hq2 : l[i]? = some q := by rw [h, List.getElem?_append_left hl]; exact hq
   have h1 := (hP _ _ hq2).1 (hA q (List.mem_of_getElem? hq))
   omega
 subst hlen
 rw [h]
 exact ⟨by rw [List.take_left], by rw [List.drop_left]⟩
def atK (l : KV) : Nat -> K
 | 0 => []
 | i + 1 => match l[i]? with | some p => p.1 ++ [0] | none => []
theorem atK_succ {l : KV} {i : Nat} {p : K × Nat} (h : l[i]? = some p) : atK l (i + 1) = p.1 ++ [0] := by simp [atK, h]
theorem atK_lt {l : KV} (hs : SrtK l) {i : Nat} (hi : i <= l.length) : ∀ j q, l[j]? = some q -> (lt q.1 (atK l i) = true ↔ j < i) := by
 intro j q hq
 cases i with
 | zero => simp [atK, lt_nil]
 | succ i =>
  obtain ⟨p, hp⟩ : ∃ p, l[i]? = some p := ⟨_, List.getElem?_eq_getElem (by omega)⟩
  have he : atK l (i + 1) = p.1 ++ [0] := atK_succ hp
  rw [he, lt_snoc]
  have hpair : ∀ (a b : Nat) (x y : K × Nat), a < b -> l[a]? = some x -> l[b]? = some y -> lt x.1 y.1 = true := by
   intro a b x y hab ha hb
   have hal := kget_lt ha; have hbl := kget_lt hb
   rw [List.getElem?_eq_getElem hal] at ha; rw [List.getElem?_eq_getElem hbl] at hb
   simp only [Option.some.injEq] at ha hb
   subst ha; subst hb
   exact List.pairwise_iff_getElem.1 hs a b hal hbl hab
  rcases Nat.lt_trichotomy j i with h | h | h
  ·have := lt_asymm (hpair j i q p h hq hp)
   rw [this]; simp; omega
  ·subst h
   rw [hp] at hq; cases hq
   rw [lt_irrefl]; simp
  ·rw [hpair i j p q h hp hq]; simp; omega
end Go.Td
namespace Go.Proofs.YtpicofkhioalkaaGreat
open Go Go.Lw Go.Wd Go.Am Go.Tb Go.Hm Go.Kd Go.Td
def AnsH (o : Option (K × Nat)) (p : Option Addr) (l c : Nat) : HP := match o with
 | none => HAnd (p = none /\ l = 0 /\ c = 0) hemp
 | some q => HAnd (l = q.1.length /\ q.1.length <= 16384 /\ ∃ g, p = some ⟨g, 0, none⟩) (Str 5 p l c (bytesV q.1))
section
variable {H : Hp} {v : Value} {b : Nat} {F : List HP} {w : World}
theorem ansP_H {o : Option (K × Nat)} {e : Ending} (h : AnsP H v b F o e w) : ∃ p l c, e = .returned (.tuple #[.slice p l c, .int .u64 (((o.map Prod.snd).getD 0 : Nat) : Int), .bool o.isSome, .int .i64 0]) /\ Sat (HeapH H v b :: AnsH o p l c :: F) w := by
 cases o with
 | none => exact ⟨none, 0, 0, h.1, Sat.p1 (Sat.mkPure ⟨rfl, rfl, rfl⟩ h.2.emp)⟩
 | some q =>
  obtain ⟨g, c, h1, h2, h3⟩ := h
  exact ⟨_, _, _, h1, Sat.p1 (Sat.mkPure ⟨rfl, h2, g, rfl⟩ h3)⟩
theorem ansH_open {q : K × Nat} {p : Option Addr} {l c : Nat} (h : Sat (AnsH (some q) p l c :: F) w) : (l = q.1.length /\ q.1.length <= 16384 /\ ∃ g, p = some ⟨g, 0, none⟩) /\ Sat (Str 5 p l c (bytesV q.1) :: F) w := h.pureOf
theorem ansH_nil {p : Option Addr} {l c : Nat} (h : Sat (AnsH none p l c :: F) w) : (p = none /\ l = 0 /\ c = 0) /\ Sat F w := ⟨h.pureOf.1, h.drop⟩
theorem dup_c {p : Option Addr} {l c : Nat} {x : K} {u : UInt8} {ty ty2 : TypeId} {K : Option Addr -> Nat -> Nat -> World -> Prop} (hs : Sat F w) (hl : l = x.length) (hx : x.length <= 1048576) (hr : RdB F p x) (h : ∀ p' c' w', Sat (Own 5 1 p' (x.length + 1) c' (bytesV (x ++ [u])) :: F) w' -> K p' (x.length + 1) c' w') :
  NewC (.cells #[] 5 (0, 0)) w fun b1 w5 => RunS Tryz.prog (Builtin.append_ #[28, 28] ty #[.slice (some (⟨b1, 0, none⟩)) 0 0, .slice p l c]) w5 fun s0p s0l s0c w6 =>
  NewC (.cells #[.int .u8 ((u.toNat : Nat) : Int)] 5 (0, 0)) w6 fun b2 w7 => RunS Tryz.prog (Builtin.append_ #[28, 28] ty2 #[.slice s0p s0l s0c, .slice (some (⟨b2, 0, none⟩)) 1 1]) w7 K := by
 subst hl
 refine NewC.ofRow hs fun b1 w5 h5 => ?_
 have h5 : Sat (Own 5 1 (some ⟨b1, 0, none⟩) 0 0 [] :: F) w5 := by
  have := Sat.mkOwn (e := 5) (s := 1) (g := b1) (l := 0) (c := 0) (xs := []) (rest := []) h5 0 rfl rfl (Nat.le_refl _) (by simp only [maxLen]; omega) (by simp)
  exact this
 refine RunS.app eok_byte h5 0 rfl (hr.reads w5 h5.drop) (fun h0 => hr.some fun e => by rw [e] at h0; simp at h0) (by rw [bytesV_len]; omega) (fun u hu => by
  simp only [bytesV, List.mem_map] at hu
  obtain ⟨b, _, rfl⟩ := hu
  rfl) (by omega) (by simp only [maxLen]; omega) fun p6 c6 w6 h6 => ?_
 have h6 : Sat (Own 5 1 p6 (0 + x.length) c6 (bytesV x) :: F) w6 := by
  have e : ([] : List Value) ++ bytesV x = bytesV x := rfl
  rw [<- e]; exact h6
 rw [Nat.zero_add] at h6 ⊢
 refine RunS.one eok_byte h6 0 rfl rfl rfl (by omega) (by simp only [maxLen]; omega) fun p7 c7 w7 h7 => h p7 c7 w7 ?_
 rw [bytesV_snoc]
 exact h7
set_option maxHeartbeats 1000000 in
theorem holds_c (hs : Sat (HeapH H v b :: F) w) {t : Nat} {es : List Ent} {ts : List Nat} (hT : Tree H.ov t es ts) (hn : es.length <= 1000000) (hkl : ∀ a ∈ kv es, a.1.length <= 16383) {p : Option Addr} {n c : Nat} (hnl : n = (kv es).length) (hr : RdE F p (kv es)) :
  Calls Tryz.prog 19 #[.pointer (some ⟨b, 0, none⟩), .int .u64 (t : Int), .slice p n c] w (Ret (.bool true) (Sat (HeapH H v b :: F))) := by
 subst hnl
 have hlk := kv_len es
 have hsr := srt_kv.1 hT.srt
 refine S_law13_holds_ok _ _ _ _ _ _ _ ?_
 unfold S_law13_holds
 refine (tcnt_c hs hT hn).mono ?_
 rintro e w1 ⟨rfl, h1⟩
 refine ⟨_, _, rfl, cond_f rfl (cond_f (by rw [hlk]; simp) ?_)⟩
 refine (tcheck_c h1 hT hn).mono ?_
 rintro e w2 ⟨rfl, h2⟩
 refine ⟨_, rfl, cond_f rfl ?_⟩
 refine NewC.ofRow h2 fun b0 w3 h3 => ?_
 have h3 : Sat (Own 5 1 (some ⟨b0, 0, none⟩) 0 0 (bytesV []) :: HeapH H v b :: F) w3 := by
  have := Sat.mkOwn (e := 5) (s := 1) (g := b0) (l := 0) (c := 0) (xs := []) (rest := []) h3 0 rfl rfl (Nat.le_refl _) (by simp only [maxLen]; omega) (by simp)
  exact this
 refine ⟨fun ap al ac i w' => ∃ (j : Nat) (x : K), i = j /\ j <= (kv es).length + 1 /\ al = x.length /\ (j <= (kv es).length -> x = atK (kv es) j) /\ Sat (Own 5 1 ap al ac (bytesV x) :: HeapH H v b :: F) w', fun _ _ _ i _ => (((kv es).length : Int) + 1 - i).toNat,
  ⟨0, [], rfl, by omega, rfl, fun _ => rfl, h3⟩, ?_⟩
 rintro ap al ac i w4 ⟨j, x, rfl, hj, rfl, hx, h4⟩
 unfold S_law13_holds_l0
 by_cases hle : j <= (kv es).length
 rotate_left
 ·exact cond_f (by simp; omega) ⟨rfl, h4.drop⟩
 refine cond_t (by simp; omega) ?_
 intro k0 hk0
 have hx := hx hle
 have hxl : x.length <= 16384 := by
  rw [hx]
  cases j with
  | zero => simp [atK]
  | succ j =>
   obtain ⟨q, hq⟩ : ∃ q, (kv es)[j]? = some q := ⟨_, List.getElem?_eq_getElem (by omega)⟩
   have := hkl q (List.mem_of_getElem? hq)
   rw [atK_succ hq]
   simp; omega
 have hap : x ≠ [] -> ∃ a, ap = some a := fun h => by obtain ⟨g, hg⟩ := h4.own_some 0 rfl (List.length_pos_iff.2 h); exact ⟨_, hg⟩
 have next : ∀ (y : K) ap' ac' w', (j + 1 <= (kv es).length -> y = atK (kv es) (j + 1)) -> Sat (Own 5 1 ap' y.length ac' (bytesV y) :: HeapH H v b :: F) w' -> k0 ap' y.length ac' w' := by
  intro y ap' ac' w' hy h'
  refine hk0 _ _ _ _ ?_
  unfold S_law13_holds_j0
  exact ⟨⟨j + 1, y, by rw [wrapI64 (by omega) (by omega)]; omega, by omega, rfl, hy, h'⟩, by rw [wrapI64 (by omega) (by omega)]; dsimp only; omega⟩
 refine (tseek_c (Sat.p1 h4) hT hn hxl rfl (RdB.own 0 rfl hap)).mono ?_
 rintro e w5 ⟨A, C, hAC, hA, hC, hans⟩
 obtain ⟨rp, rl, rc, rfl, h5⟩ := ansP_H hans
 refine ⟨_, _, _, _, _, _, rfl, cond_f rfl ?_⟩
 obtain ⟨eA, eC⟩ := part_at (P := fun q => lt q.1 x = true) hAC hA (fun c hc h => by have := hC c hc; rw [this] at h; cases h) hle (by rw [hx]; exact atK_lt hsr hle)
 have hh : C.head? = (kv es)[j]? := by rw [eC, List.head?_drop]
 rw [hh] at h5 ⊢
 cases hq : (kv es)[j]? with
 | none =>
  rw [hq] at h5
  have hjl : (kv es).length <= j := by
   rcases Nat.lt_or_ge j (kv es).length with h | h
   ·rw [List.getElem?_eq_getElem h] at hq; cases hq
   ·exact h
  refine cond_f (by simp; omega) (cond_f rfl ?_)
  obtain ⟨⟨rfl, rfl, rfl⟩, h6⟩ := ansH_nil (Sat.pull h5 1 rfl)
  have h7 : Sat (HeapH H v b :: F) w5.drew := (h6.del 1 rfl).drew
  refine dup_c (x := []) (u := 0) h7 rfl (by simp) RdB.nil fun p' c' w' h' => ?_
  exact next [0] p' c' w' (fun h => by omega) h'
 | some q =>
  rw [hq] at h5
  have hjl := kget_lt hq
  refine cond_f (by simp; omega) (cond_t rfl ?_)
  obtain ⟨⟨rfl, hql, g, rfl⟩, h6⟩ := ansH_open (Sat.pull h5 1 rfl)
  have h7 : Sat (Str 5 (some ⟨g, 0, none⟩) q.1.length rc (bytesV q.1) :: HeapH H v b :: F) w5.drew := (h6.del 2 rfl).drew
  refine (RdB.str 0 rfl ⟨_, rfl⟩).run h7 rfl ?_
  refine idxE hr.tail.tail h7 rfl rfl hq fun a c0 c1 => LdStr.at c0 ?_
  refine cond_f (by rw [key_str_eq]; simp) ?_
  refine idxE hr.tail.tail h7 rfl rfl hq fun a c0 c1 => LdI.at c1 ?_
  refine cond_f (by simp) ?_
  refine dup_c (x := q.1) (u := 0) h7 rfl (by omega) (RdB.str 0 rfl ⟨_, rfl⟩) fun p' c' w' h' => ?_
  have e1 : q.1.length + 1 = (q.1 ++ [(0 : UInt8)]).length := by simp
  rw [e1] at h' ⊢
  exact next (q.1 ++ [0]) p' c' w' (fun h => (atK_succ hq).symm) (h'.del 1 rfl)
end
section
variable {F : List HP} {w : World}
theorem smark_c {P : Program} {s : TypeId} {e : TypeId} (hd : P.underlying s = some (.slice e)) (he : P.underlying e = some (.int .u8)) {x : K} {b0 n : Nat} {K : Option Addr -> Nat -> Nat -> World -> Prop} (hn : n = x.length) (hx : x.length <= 1048576) (hs : Sat (Row b0 (bytesV x) e :: F) w)
  (h : ∀ w', Sat (Str e (some ⟨b0, 0, none⟩) n n (bytesV x) :: F) w' -> K (some ⟨b0, 0, none⟩) n n w') : RunS P (convert s s (.slice (some ⟨b0, 0, none⟩) n n)) w K := by
 subst hn
 have hb : w.heap[b0]? = some (.cells (bytesV x).toArray e (0, 0)) := hs.blk 0 rfl
 have hsh : w.shape? b0 = some (e, x.length) := by simp [World.shape?, hb, bytesV_len]
 have hrun : (convert s s (.slice (some ⟨b0, 0, none⟩) x.length x.length)).run P w = .ok (.slice (some ⟨b0, 0, none⟩) x.length x.length) (w.freeze ⟨b0, x.length, none⟩ 1) := by
  simp [convert, run_underlying hd, run_underlying he, markStringish, hsh, Result.andThen]
 refine ⟨_, _, _, _, hrun, h _ ?_⟩
 have h1 := hs.upd (w' := w.freeze ⟨b0, x.length, none⟩ 1) (o' := .cells (bytesV x ++ []).toArray e (x.length, x.length + 1)) 0 rfl ?_ ?_ ?_
 ·exact h1.mkStr 0 rfl (bytesV_len x) (Nat.le_refl _) (by simp only [maxLen]; omega) (by simp [bytesV_len])
 ·simp [World.freeze, Array.getElem?_modify, hb]
 ·intro k hk
  simp [World.freeze, Array.getElem?_modify, Ne.symm hk]
 ·simp [World.freeze, stillOf]
end
end Go.Proofs.YtpicofkhioalkaaGreat
/- The law 'awake'; an entry put where there is ample room. -/
set_option maxRecDepth 100000
namespace Go.Proofs.YtpicofkhioalkaaGreat
open Go Go.Lw Go.Wd Go.Am Go.Tb Go.Hm Go.Kd Go.Td
section
variable {v : Value} {b : Nat} {E : Eng v b} {s : E.σ} {F : List HP} {w : World}
def PutG (E : Eng v b) (s : E.σ) (t : Nat) (es : List Ent) (us : List Nat) (key : K) (x : Nat) (F : List HP) (e : Ending) (w' : World) : Prop :=
 ∃ (s' : E.σ) (es' : List Ent) (us' : List Nat) (k m old : Nat) (had : Bool) (A o C : KV), e = .returned (.tuple #[.int .u64 (old : Int), .bool had, .int .i64 0]) /\ Cut (kv es) key A o C /\ kv es' = A ++ (key, x) :: C /\ (o = [] /\ had = false /\ old = 0 ∨ o = [(key, old)] /\ had = true) /\
  TrS E s' t es' us' /\ St E s us s' us' k m /\ k <= 10 /\ m <= 240 + key.length / 8 /\ Sat (E.S s' F) w'
theorem gput_c (hs : Sat (E.S s F) w) (hi : E.inv s) {t : Nat} {es : List Ent} {us : List Nat} (hT : TrS E s t es us) (hn : es.length <= 1000000) {key : K} (hkl : key.length <= 16384) {kp : Option Addr} {kl kc : Nat} (hl : kl = key.length) (hk : RdB F kp key)
  {x : Nat} (hx : x = 0 ∨ E.ok s x) (htop : (E.H s).m.top + 240 + key.length / 8 <= (E.H s).m.n) (hcnt : (E.H s).t.count + 10 <= (E.H s).t.n) :
  Calls Tryz.prog 11 #[.pointer (some ⟨b, 0, none⟩), .int .u64 (t : Int), .slice kp kl kc, .int .u64 (x : Int)] w (PutG E s t es us key x F) := by
 obtain ⟨D, y, hD8, ho⟩ := depth_le hT.tree hn
 refine (ePut_c hs hi hT hn hkl hl hk hx ⟨_, _, ho⟩ (by unfold Hp.room; simp; omega)).mono ?_
 rintro e w' ⟨s', es', us', k, m, old, had, A, o, C, h1, h2, h3, h4, h5, h6, h7, h8, h9⟩
 exact ⟨s', es', us', k, m, old, had, A, o, C, h1, h2, h3, h4, h5, h6, by omega, by omega, h9⟩
end
section
variable {F : List HP} {w : World}
theorem gnd_ok {J : Hp -> Nat -> Prop} {n k : Nat} {H : Hp} {ts xs : List Nat} {r : Nat} (g : Gnd J n k H ts xs r) {t : Nat} (ht : t ∈ ts) (b : Nat) (hJ : Keeps J) (c : Nat) : TrS (engJ hJ b) (H, c) t [] [t] := by
 have h1 := g.tree t ht
 refine ⟨tree_none h1, fun z hz => ?_, by simp⟩
 simp only [List.mem_cons, List.not_mem_nil, or_false] at hz
 subst hz
 show (H.look z).isSome = true
 rw [<- ov_isSome, h1]; rfl
theorem gnd_x {J : Hp -> Nat -> Prop} {n k : Nat} {H : Hp} {ts xs : List Nat} {r : Nat} (g : Gnd J n k H ts xs r) {i x : Nat} (hx : xs[i]? = some x) : (H.look x).isSome = true := by
 rw [<- ov_isSome, g.xo i x hx]; rfl
set_option maxHeartbeats 1000000 in
theorem awake13_c (hs : Sat F w) : Calls Tryz.prog 8 #[] w (Ret (.bool true) (Sat F)) := by
 have hJ := keeps_any
 refine S_law13_awake_ok _ _ ?_
 unfold S_law13_awake
 refine (ground_c hJ (n := 4000) (k := 400) (m := 1) (by omega) (by omega) (by omega) (by omega) (by omega) hs).mono ?_
 rintro e w0 ⟨b, H, ts, xs, r, tp, xp, tc, xc, g, hts, hxs, rfl, h0⟩
 refine ⟨_, _, _, _, _, _, _, _, rfl, cond_f rfl ?_⟩
 obtain ⟨t, rfl⟩ : ∃ t, ts = [t] := List.length_eq_one_iff.1 hts
 obtain ⟨x, hx⟩ : ∃ x, xs[1]? = some x := ⟨_, List.getElem?_eq_getElem (by omega)⟩
 have h0 : Sat (Own 32 1 tp 1 tc (words [t]) :: Own 32 1 xp 5 xc (words xs) :: HeapH H .nilIface b :: F) w0 := Sat.pull (Sat.pull h0 2 rfl) 2 rfl
 refine ⟨fun w' => ∃ T, Sat (Own 32 1 tp 1 tc (words [t]) :: Own 32 1 xp 5 xc (words xs) :: T) w', ⟨_, h0.drew⟩, ?_⟩
 refine own_wordQ h0 0 rfl (fun w ⟨T, h⟩ => ⟨_, 0, h, rfl⟩) rfl (j := 0) rfl rfl ?_
 refine own_wordQ h0 1 rfl (fun w ⟨T, h⟩ => ⟨_, 1, h, rfl⟩) hxs.symm hx rfl ?_
 refine NewC.ofRow h0.drew fun b0 w1 h1 => ⟨⟨_, Sat.pull (Sat.pull h1 2 rfl) 2 rfl⟩, ?_⟩
 have h1 : Sat (Row b0 (bytesV [98]) 5 :: Own 32 1 tp 1 tc (words [t]) :: Own 32 1 xp 5 xc (words xs) :: HeapH H .nilIface b :: F) w1 := h1
 refine smark_c (x := [98]) (by kernel_rfl) (e := 5) (by kernel_rfl) rfl (by simp) h1 fun w2 h2 => ⟨⟨_, Sat.pull (Sat.pull h2 2 rfl) 2 rfl⟩, ?_⟩
 have hT := gnd_ok g (t := t) (by simp) b hJ 0
 have h3 : Sat ((engJ hJ b).S (H, 0) (Str 5 (some ⟨b0, 0, none⟩) 1 1 (bytesV [98]) :: Own 32 1 tp 1 tc (words [t]) :: Own 32 1 xp 5 xc (words xs) :: F)) w2 := toS hJ (Sat.pull h2 3 rfl)
 refine (gput_c (key := [98]) h3 trivial hT (by simp) (by simp) rfl (RdB.str 0 rfl ⟨_, rfl⟩) (.inr (gnd_x g hx)) (by show H.m.top + 240 + 0 <= H.m.n; rw [g.top, g.n]; simp; omega) (by show H.t.count + 10 <= H.t.n; rw [g.cnt, g.tn]; simp; omega)).mono ?_
 rintro e w3 ⟨s', es', us', k, m, old, had, A, o, C, rfl, q1, q2, q3, q4, q5, q6, q7, h4⟩
 have h4 := ofS hJ h4
 have hA : A = [] /\ o = [] /\ C = [] := by
  have := q1.eq
  simp at this
  exact ⟨this.1, this.2.1, this.2.2⟩
 obtain ⟨rfl, rfl, rfl⟩ := hA
 have hq3 : had = false /\ old = 0 := by
  rcases q3 with ⟨_, a, b⟩ | ⟨a, _⟩
  ·exact ⟨a, b⟩
  ·simp at a
 obtain ⟨rfl, rfl⟩ := hq3
 refine ⟨_, _, _, rfl, ?_⟩
 refine own_word h4 2 rfl rfl (j := 0) rfl rfl ?_
 refine NewC.ofRow h4 fun b1 w4 h5 => ?_
 have h5 : Sat (Row b1 (bytesV [98]) 5 :: HeapH s'.1 .nilIface b :: Str 5 (some ⟨b0, 0, none⟩) 1 1 (bytesV [98]) :: Own 32 1 tp 1 tc (words [t]) :: Own 32 1 xp 5 xc (words xs) :: F) w4 := h5
 refine smark_c (x := [98]) (by kernel_rfl) (e := 5) (by kernel_rfl) rfl (by simp) h5 fun w5 h6 => ?_
 have hes : es'.length <= 1000000 := by rw [<- kv_len, q2]; simp
 refine (tget_c (key := [98]) (Sat.pull h6 1 rfl) q4.tree hes (by simp) rfl (RdB.str 0 rfl ⟨_, rfl⟩)).mono ?_
 rintro e w6 ⟨A, o, C, y, had, c1, c2, rfl, h7⟩
 have hsr : SrtK (kv es') := srt_kv.1 q4.tree.srt
 have hg : had = true /\ y = x := by
  have e1 := c1.eq
  rw [q2] at e1
  have hcut : Cut (kv es') [98] [] [([98], x)] [] := ⟨by rw [q2]; rfl, by simp, by simp, .inr ⟨_, rfl⟩⟩
  obtain ⟨e1, e2, e3⟩ := cut_inj hcut c1 hsr
  rw [e2] at c2
  rcases c2 with ⟨a, _⟩ | ⟨a, a2⟩
  ·cases a
  ·simp only [List.cons.injEq, Prod.mk.injEq, true_and, and_true] at a
   exact ⟨a2, a.symm⟩
 obtain ⟨rfl, rfl⟩ := hg
 refine ⟨_, _, _, rfl, cond_t rfl (cond_t rfl (cond_t rfl (cond_t rfl ?_)))⟩
 refine own_word h7 4 rfl hxs.symm hx rfl ⟨?_, h7.drop.drop.drop.drop.drop⟩
 simp
end
end Go.Proofs.YtpicofkhioalkaaGreat
/- A tree and the model's list side by side, while there is ample room. -/
set_option maxRecDepth 100000
namespace Go.Proofs.YtpicofkhioalkaaGreat
open Go Go.Lw Go.Wd Go.Am Go.Tb Go.Hm Go.Kd Go.Td
section
variable {s : Hp × Nat} {b t : Nat} {es : List Ent} {us xs : List Nat} {q L : Nat} {F : List HP} {w : World}
end
end Go.Proofs.YtpicofkhioalkaaGreat
