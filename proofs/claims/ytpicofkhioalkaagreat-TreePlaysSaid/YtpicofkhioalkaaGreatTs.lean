
/- What searching a row of kids comes to: at, way, and the ways that are chosen by a key. -/
import Derived.Test.YtpicofkhioalkaaGreatTn
import Derived.Test.YtpicofkhioalkaaGreatTd
set_option maxRecDepth 100000
namespace Go.Lw
theorem FnQ.mono {P : Program} {g : FuncId} {args : Array Value} {w : World} {R R' : (Value -> Prop) -> World -> Prop} (h : FnQ P g args w R) (f : ∀ E w', R E w' -> R' E w') : FnQ P g args w R' := by
 unfold FnQ at h ⊢
 cases hc : callable P g with
 | true => rw [hc] at h; exact Calls.mono h fun e w' hh => f _ _ hh
 | false => rw [hc] at h; exact f _ _ h
theorem FnQ.calls {P : Program} {g : FuncId} {args : Array Value} {w : World} {R : (Value -> Prop) -> World -> Prop} (hc : callable P g = true) (h : Calls P g args w fun e w' => R (fun v => e = .returned v) w') : FnQ P g args w R := by
 unfold FnQ; rw [hc]; exact h
theorem LdStr.of {L : List HP} {w : World} {b off : Nat} {cs : List Value} {T : TypeId} {a : Addr} {n : ByteArray} {K : ByteArray -> Prop} (hs : Sat L w) (i : Nat) (hi : L[i]? = some (Row b cs T)) (hc : cs[off]? = some (.string n)) (ha : a = ⟨b, off, none⟩) (h : K n) : LdStr w a K :=
 ⟨n, by rw [ha]; exact hs.cell i hi hc, h⟩
end Go.Lw
namespace Go.Proofs.YtpicofkhioalkaaGreat
open Go Go.Lw Go.Wd Go.Am Go.Tb Go.Hm Go.Kd Go.Td
theorem RdP.own {F : List HP} {k : Nat} {p : Option Addr} {l : List (Nat × Nat)} {n c : Nat} (hk : F[k]? = Option.some (Own 96 2 p n c (pairsV l))) (hn : n = l.length) (hne : l ≠ [] -> ∃ a, p = Option.some a) : RdP F p l :=
 ⟨fun _ h => h.reads k hk, hne⟩
theorem own_ne {F : List HP} {w : World} {k : Nat} {p : Option Addr} {l : List (Nat × Nat)} {c : Nat} (hs : Sat F w) (hk : F[k]? = some (Own 96 2 p l.length c (pairsV l))) : l ≠ [] -> ∃ a, p = some a := by
 intro h
 obtain ⟨g, hg⟩ := hs.own_some k hk (List.length_pos_iff.2 h)
 exact ⟨_, hg⟩
theorem RdP.tail {A : HP} {F : List HP} {p : Option Addr} {l : List (Nat × Nat)} (h : RdP F p l) : RdP (A :: F) p l := ⟨fun w hs => h.reads w hs.drop, h.some⟩
def cmpI (x key : K) : Int := if lt x key then -1 else if x = key then 0 else 1
section
variable {H : Hp} {v : Value} {b : Nat} {F : List HP} {w : World}
theorem cmp1_c {d t : Nat} {c : Kid} {key : K} (hs : Sat (HeapH H v b :: Row d (trc b t) 73 :: F) w) (hc : KeyOK H.ov c) (z : Nat) :
  Calls Tryz.prog 107 #[.agg #[.int .u64 (c.k : Int), .int .u64 (z : Int)], .string (str key), .pointer (some ⟨d, 0, none⟩)] w (Ret (.int .i64 (cmpI c.key key)) (Sat (HeapH H v b :: Row d (trc b t) 73 :: F))) := by
 refine S_tree_tree_at_1_ok _ _ _ _ _ _ ?_
 unfold S_tree_tree_at_1
 refine NewC.ofRow hs fun e w1 h1 => ?_
 refine LdP.of h1 2 rfl (off := 0) rfl rfl (LdI.of h1 2 rfl (off := 1) rfl (add_mk _ _ _) (LdI.of h1 0 rfl (off := 0) rfl rfl ?_))
 refine (tkey_c (h1.pull 1 rfl) t hc.2.1 hc.1).mono ?_
 rintro e w2 ⟨rfl, h2⟩
 refine ⟨_, rfl, ?_⟩
 refine (compare_c _ _ _).mono ?_
 rintro e w3 ⟨rfl, rfl⟩
 exact ⟨_, rfl, rfl, (Sat.p1 h2).drop⟩
theorem cmp_call : callable Tryz.prog 107 = true := by kernel_rfl
theorem half_i {i j : Nat} (hi : i <= 1048576) (hj : j <= 1048576) : IntKind.wrap .i64 (bShr .u64 (IntKind.wrap .u64 (IntKind.wrap .i64 ((i : Int) + (j : Int)))) 1) = (((i + j) / 2 : Nat) : Int) := by
 rw [wrapI64 (n := (i : Int) + j) (by omega) (by omega), wrapU64 (by omega) (by omega)]
 have e : ((i : Int) + (j : Int)) = ((i + j : Nat) : Int) := by omega
 rw [e]
 have e2 : bShr .u64 (((i + j : Nat)) : Int) 1 = (((i + j) / 2 ^ 1 : Nat) : Int) := shr_u64 (i + j) 1 (by omega)
 rw [e2, Nat.pow_one, wrapI64 (by omega) (by omega)]
theorem search_c {d t : Nat} {L : List Kid} {key : K} (hs : Sat (HeapH H v b :: Row d (trc b t) 73 :: F) w) (hk : Ks L) (hc : ∀ c ∈ L, KeyOK H.ov c) {p : Option Addr} {n c : Nat} (hn : n = L.length) (hl : L.length <= 1000) (hr : RdP F p (L.map Kid.pr)) :
  Calls Tryz.prog 106 #[.slice p n c, .string (str key), .func (.func 107) #[] #[.pointer (some ⟨d, 0, none⟩)]] w fun e w' =>
   ∃ i, At L key i /\ e = .returned (.tuple #[.int .i64 (i : Int), .bool (same L key i)]) /\ Sat (HeapH H v b :: Row d (trc b t) 73 :: F) w' := by
 subst hn
 refine S_slices_BinarySearchFunc_tree_pair_tree_pair_string_ok _ _ _ _ _ _ _ _ ?_
 unfold S_slices_BinarySearchFunc_tree_pair_tree_pair_string
 have hpair : ∀ (p q : Nat) (a b : Kid), p < q -> L[p]? = some a -> L[q]? = some b -> lt a.key b.key = true := by
  intro p q a b hpq ha hb
  have hpl := get_lt ha; have hql := get_lt hb
  rw [List.getElem?_eq_getElem hpl] at ha; rw [List.getElem?_eq_getElem hql] at hb
  simp only [Option.some.injEq] at ha hb
  subst ha; subst hb
  exact List.pairwise_iff_getElem.1 hk p q hpl hql hpq
 refine ⟨fun i' j' w' => ∃ i j : Nat, i' = i /\ j' = j /\ i <= j /\ j <= L.length /\ (∀ q c, q < i -> L[q]? = some c -> lt c.key key = true) /\ (∀ q c, j <= q -> L[q]? = some c -> lt c.key key = false) /\ Sat (HeapH H v b :: Row d (trc b t) 73 :: F) w',
  fun i' j' _ => (j' - i').toNat, ⟨0, L.length, rfl, rfl, by omega, by omega, fun q c h => by omega, fun q c h hq => by have := get_lt hq; omega, hs⟩, ?_⟩
 rintro i' j' w1 ⟨i, j, rfl, rfl, hij, hjl, hlo, hhi, h1⟩
 unfold S_slices_BinarySearchFunc_tree_pair_tree_pair_string_l0
 by_cases hlt : i < j
 ·refine cond_t (by simp; omega) ?_
  intro k0 hk0
  rw [half_i (by omega) (by omega)]
  obtain ⟨a, ha⟩ : ∃ a, L[(i + j) / 2]? = some a := ⟨_, List.getElem?_eq_getElem (by omega)⟩
  refine idxP hr h1.drop.drop (q := a.pr) (by simp) rfl (by rw [List.getElem?_map, ha]; rfl) fun ad had => ?_
  obtain ⟨ad0, ad1⟩ := had w1 h1.drop.drop
  refine LdI.at ad0 (LdI.at ad1 ?_)
  refine FnQ.calls cmp_call ?_
  refine (cmp1_c h1 (hc a (List.mem_of_getElem? ha)) a.x).mono ?_
  rintro e w2 ⟨rfl, h2⟩
  refine ⟨_, rfl, ?_⟩
  cases hcm : lt a.key key with
  | true =>
   refine cond_t (by unfold cmpI; rw [hcm]; rfl) (hk0 _ _ _ ?_)
   unfold S_slices_BinarySearchFunc_tree_pair_tree_pair_string_j0
   rw [wrapI64 (n := (((i + j) / 2 : Nat) : Int) + 1) (by omega) (by omega)]
   refine ⟨⟨(i + j) / 2 + 1, j, by omega, rfl, by omega, hjl, fun q c hq hqc => ?_, hhi, h2⟩, by dsimp only; omega⟩
   rcases Nat.lt_or_ge q ((i + j) / 2) with h3 | h3
   ·exact lt_trans (hpair q _ c a h3 hqc ha) hcm
   ·have : q = (i + j) / 2 := by omega
    subst this
    rw [ha] at hqc; cases hqc; exact hcm
  | false =>
   refine cond_f (by unfold cmpI; rw [hcm]; by_cases e : a.key = key <;> simp [e]) (hk0 _ _ _ ?_)
   unfold S_slices_BinarySearchFunc_tree_pair_tree_pair_string_j0
   refine ⟨⟨i, (i + j) / 2, rfl, rfl, by omega, by omega, hlo, fun q c hq hqc => ?_, h2⟩, by dsimp only; omega⟩
   rcases Nat.lt_or_ge ((i + j) / 2) q with h3 | h3
   ·cases h4 : lt c.key key with
    | false => rfl
    | true => have := lt_trans (hpair _ q a c h3 ha hqc) h4; rw [hcm] at this; cases this
   ·have : q = (i + j) / 2 := by omega
    subst this
    rw [ha] at hqc; cases hqc; exact hcm
 ·have : i = j := by omega
  subst this
  refine cond_f (by simp) ?_
  by_cases hil : i < L.length
  ·refine cond_t (by simp; omega) ?_
   obtain ⟨a, ha⟩ : ∃ a, L[i]? = some a := ⟨_, List.getElem?_eq_getElem hil⟩
   refine idxP hr h1.drop.drop (q := a.pr) (by simp) rfl (by rw [List.getElem?_map, ha]; rfl) fun ad had => ?_
   obtain ⟨ad0, ad1⟩ := had w1 h1.drop.drop
   refine LdI.at ad0 (LdI.at ad1 ?_)
   refine FnQ.calls cmp_call ?_
   refine (cmp1_c h1 (hc a (List.mem_of_getElem? ha)) a.x).mono ?_
   rintro e w2 ⟨rfl, h2⟩
   refine ⟨_, rfl, i, ⟨by omega, hlo, hhi⟩, ?_, h2⟩
   have hna := hhi i a (Nat.le_refl _) ha
   have : (cmpI a.key key == 0) = same L key i := by
    unfold cmpI same
    rw [hna, ha]
    by_cases e : a.key = key <;> simp [e]
   rw [this]
  ·refine cond_f (by simp; omega) ⟨i, ⟨by omega, hlo, hhi⟩, ?_, h1⟩
   have : same L key i = false := by unfold same; rw [List.getElem?_eq_none (by omega)]
   rw [this]
theorem tat_c {t : Nat} {L : List Kid} {key : K} (hs : Sat (HeapH H v b :: F) w) (hk : Ks L) (hc : ∀ c ∈ L, KeyOK H.ov c) {p : Option Addr} {n c : Nat} (hn : n = L.length) (hl : L.length <= 1000) (hr : RdP F p (L.map Kid.pr)) :
  Calls Tryz.prog 56 #[trv b t, .slice p n c, .string (str key)] w fun e w' =>
   ∃ i, At L key i /\ e = .returned (.tuple #[.int .i64 (i : Int), .bool (same L key i)]) /\ Sat (HeapH H v b :: F) w' := by
 refine S_tree_tree_at_ok _ _ _ _ _ _ _ _ ?_
 unfold S_tree_tree_at
 refine NewC.ofRow hs fun d w1 h1 => ?_
 refine (search_c (h1.pull 1 rfl) hk hc hn hl hr).mono ?_
 rintro e w2 ⟨i, hi, rfl, h2⟩
 exact ⟨_, _, rfl, i, hi, rfl, (Sat.p1 h2).drop⟩
theorem tway_c {t : Nat} {L : List Kid} {key : K} (hs : Sat (HeapH H v b :: F) w) (hk : Ks L) (hc : ∀ c ∈ L, KeyOK H.ov c) {p : Option Addr} {n c : Nat} (hn : n = L.length) (hl : L.length <= 1000) (hr : RdP F p (L.map Kid.pr)) :
  Calls Tryz.prog 55 #[trv b t, .slice p n c, .string (str key)] w fun e w' =>
   ∃ i, At L key i /\ e = .returned (.int .i64 (wayI L key i : Nat)) /\ Sat (HeapH H v b :: F) w' := by
 refine S_tree_tree_way_ok _ _ _ _ _ _ _ _ ?_
 unfold S_tree_tree_way
 refine NewC.ofRow hs fun d w1 h1 => ?_
 refine LdP.of h1 0 rfl (off := 0) rfl rfl (LdI.of h1 0 rfl (off := 1) rfl (add_mk _ _ _) ?_)
 refine (tat_c (h1.pull 1 rfl) hk hc hn hl hr.tail).mono ?_
 rintro e w2 ⟨i, hi, rfl, h2⟩
 have h3 := (Sat.p1 h2).drop
 refine ⟨_, _, rfl, ?_⟩
 unfold wayI
 cases hsm : same L key i with
 | true => exact cond_t rfl ⟨i, hi, by rw [hsm]; rfl, h3⟩
 | false =>
  refine cond_f rfl ⟨i, hi, ?_, h3⟩
  have : i <= 1000 := Nat.le_trans hi.1 hl
  rw [wrapI64 (by omega) (by omega), hsm]
  simp only [Bool.false_eq_true, if_false]
  congr 2
  unfold iMax
  split <;> omega
end
end Go.Proofs.YtpicofkhioalkaaGreat
/- The way down a tree: what it is in memory, and what down comes to. -/
set_option maxRecDepth 100000
namespace Go.Proofs.YtpicofkhioalkaaGreat
open Go Go.Lw Go.Wd Go.Am Go.Tb Go.Hm Go.Kd Go.Td
def stepV (f : Fr) (q : Option Addr × Nat) : List Value := [.int .u64 (f.x : Int), .slice q.1 f.l.length q.2, .int .i64 (f.A.length : Int)]
def stepsV : List Fr -> List (Option Addr × Nat) -> List Value
 | f :: r, q :: qs => stepsV r qs ++ stepV f q
 | _, _ => []
def LsH : List Fr -> List (Option Addr × Nat) -> HP
 | f :: r, q :: qs => star (HAnd (f.l.length + 1 <= q.2) (Own 96 2 q.1 f.l.length q.2 (pairsV f.l))) (LsH r qs)
 | _, _ => hemp
def Way (bs : List Fr) (p : Option Addr) (c : Nat) : HP := HEx fun qs : List (Option Addr × Nat) => HAnd (qs.length = bs.length) (star (Own 152 3 p bs.length c (stepsV bs qs)) (LsH bs qs))
theorem _root_.Go.Lw.Sat.emp {L : List HP} {w : World} (h : Sat L w) : Sat (hemp :: L) w := by
 obtain ⟨h0, h1, h2⟩ := h
 exact ⟨h0, h1, ⟨fun _ => none, h0, fun _ => .inl rfl, fun _ => by simp, fun _ => rfl, h2⟩⟩
theorem way_nil {L : List HP} {w : World} (h : Sat L w) : Sat (Way [] none 0 :: L) w :=
 Sat.mkEx [] (Sat.mkPure rfl (Sat.join ((h.emp).ownNil _ _)))
theorem way_open {bs : List Fr} {p : Option Addr} {c : Nat} {L : List HP} {w : World} (h : Sat (Way bs p c :: L) w) : ∃ qs : List (Option Addr × Nat), qs.length = bs.length /\ Sat (Own 152 3 p bs.length c (stepsV bs qs) :: LsH bs qs :: L) w := by
 obtain ⟨qs, h⟩ := h.ex
 obtain ⟨h1, h⟩ := h.pureOf
 exact ⟨qs, h1, h.split⟩
theorem way_shut {bs : List Fr} {p : Option Addr} {c : Nat} {L : List HP} {w : World} {qs : List (Option Addr × Nat)} (hq : qs.length = bs.length) (h : Sat (Own 152 3 p bs.length c (stepsV bs qs) :: LsH bs qs :: L) w) : Sat (Way bs p c :: L) w :=
 Sat.mkEx qs (Sat.mkPure hq h.join)
def Chooses (H : Hp) (v : Value) (b : Nat) (f : Nat) (cs : Array Value) (F : List HP) (P : List Kid -> Kid -> List Kid -> Prop) : Prop :=
 ∀ (L : List Kid) (A : HP) (w : World) (p : Option Addr) (c : Nat), L ≠ [] -> L.length <= 12 -> Srt (esOf L) -> (∀ a ∈ L, KeyOK H.ov a) -> RdP (A :: F) p (L.map Kid.pr) -> Sat (HeapH H v b :: A :: F) w ->
  FnQ Tryz.prog f ((#[] ++ #[.slice p L.length c]) ++ cs) w fun E w' => ∃ X a Y, L = X ++ a :: Y /\ P X a Y /\ E (.int .i64 (X.length : Nat)) /\ Sat (HeapH H v b :: A :: F) w'
section
variable {H : Hp} {v : Value} {b : Nat} {F : List HP} {w : World}
theorem down_c (hs : Sat (HeapH H v b :: F) w) {t d n : Nat} {c : Kid} (ho : H.ov t = some (treeO c.x n (d + 1))) (hd : d + 1 <= 12) (hx0 : c.x ≠ 0) (hrep : Rep H.ov (d + 1) (if d = 0 then 1 else 2) c) (hsrt : Srt c.es)
  {f : Nat} {cs : Array Value} {P : List Kid -> Kid -> List Kid -> Prop} {I : List Ent -> Kid -> List Ent -> Prop} (hch : Chooses H v b f cs F P)
  (hP : ∀ le k ri X a Y, I le k ri -> k.es = esOf (X ++ a :: Y) -> P X a Y -> I (le ++ esOf X) a (esOf Y ++ ri)) (hI : I [] c []) :
  Calls Tryz.prog 53 #[trv b t, .func (.func f) #[] cs] w fun e w' => ∃ (bs : List Fr) (k : Kid) (L : List Kid) (wp lp : Option Addr) (wc lc : Nat),
   e = .returned (.tuple #[.slice wp bs.length wc, .int .u64 (k.x : Int), .slice lp L.length lc]) /\ Dn H.ov c (if d = 0 then 1 else 2) I bs k 1 /\ bs.length = d /\
   H.ov k.x = some (nodeO false (L.map Kid.pr)) /\ k.es = esOf L /\ k.hs = k.x :: hsOf L /\ (if bs = [] then 1 else 6) <= L.length /\ L.length <= 12 /\ (∀ a ∈ L, Rep H.ov 0 6 a) /\ L.length + 1 <= lc /\
   Sat (Own 96 2 lp L.length lc (pairsV (L.map Kid.pr)) :: Way bs wp wc :: HeapH H v b :: F) w' := by
 refine S_tree_tree_down_ok _ _ _ _ _ _ ?_
 unfold S_tree_tree_down
 refine NewC.ofRow hs fun r w1 h1 => ?_
 refine LdP.of h1 0 rfl (off := 0) rfl rfl (LdI.of h1 0 rfl (off := 1) rfl (add_mk _ _ _) ?_)
 refine (ttop_c (h1.pull 1 rfl) ho).mono ?_
 rintro e w2 ⟨rfl, h2⟩
 refine ⟨_, rfl, cond_f (by simpa using fun h => hx0 (by omega)) ?_⟩
 refine LdP.of h2 1 rfl (off := 0) rfl rfl (LdI.of h2 1 rfl (off := 1) rfl (add_mk _ _ _) ?_)
 refine (tdepth_c h2 ho hd).mono ?_
 rintro e w3 ⟨rfl, h3⟩
 refine ⟨_, rfl, ?_⟩
 refine ⟨fun wp wl wc x j w' => ∃ (bs : List Fr) (k : Kid), wl = bs.length /\ x = (k.x : Int) /\ j = (bs.length : Nat) /\ bs.length <= d /\ Dn H.ov c (if d = 0 then 1 else 2) I bs k (d + 1 - bs.length) /\
   Sat (Way bs wp wc :: HeapH H v b :: Row r (trc b t) 73 :: F) w', fun _ _ _ _ j _ => ((d : Int) - j).toNat,
  ⟨[], c, rfl, rfl, rfl, by simp, Dn.start hrep hI, way_nil h3⟩, ?_⟩
 rintro wp wl wc x j w4 ⟨bs, k, rfl, rfl, rfl, hbd, hD, h4⟩
 unfold S_tree_tree_down_l0
 rw [wrapI64 (n := ((d + 1 : Nat) : Int) - 1) (by omega) (by omega)]
 have hD0 := hD
 by_cases hlt : bs.length < d
 ·refine cond_t (by simp; omega) ?_
  obtain ⟨e, he⟩ : ∃ e, d + 1 - bs.length = e + 2 := ⟨d - 1 - bs.length, by omega⟩
  rw [he] at hD
  have hd0 : d ≠ 0 := by omega
  rw [if_neg hd0] at hD
  obtain ⟨L, g1, g2, g3, g4, g5, g6⟩ := hD.rep
  have g1 : H.ov k.x = some (nodeO true (L.map Kid.pr)) := by rw [g1]; simp
  have h4' := Sat.p1 h4
  refine LdP.of h4 2 rfl (off := 0) rfl rfl (LdI.of h4 2 rfl (off := 1) rfl (add_mk _ _ _) ?_)
  refine (pairs_c h4' t (by simpa using g5) g1).mono ?_
  rintro e1 w5 ⟨lp, lc, rfl, hlc, h5⟩
  have hL : L ≠ [] := by
   intro e0; rw [e0] at g4
   split at g4 <;> simp at g4
  refine ⟨_, _, _, rfl, ?_⟩
  refine (must_c 4 (by simpa using List.length_pos_iff.2 hL)).mono ?_
  rintro e1 w6 ⟨rfl, rfl⟩
  refine ⟨rfl, ?_⟩
  rw [List.length_map] at hlc h5 ⊢
  have hrr := own_ne (l := L.map Kid.pr) (k := 0) h5 (by rw [List.length_map]; rfl)
  have h6 : Sat (HeapH H v b :: star (Own 96 2 lp L.length lc (pairsV (L.map Kid.pr))) (star (Way bs wp wc) (Row r (trc b t) 73)) :: F) w6 :=
   Sat.p1 (Sat.join (Sat.pull (Sat.join ((Sat.pull h5 3 rfl).pull 3 rfl)) 1 rfl))
  have hkey : ∀ a ∈ L, KeyOK H.ov a := fun a ha => (g6 a ha).keyOK (by omega)
  have hsL : Srt (esOf L) := by
   rw [hD.es, g2] at hsrt
   exact (srt_append.1 (srt_append.1 hsrt).1).2.1
  refine FnQ.mono (hch L _ w6 lp lc hL g5 hsL hkey ⟨fun w' hw' => ?_, hrr⟩ h6) ?_
  ·exact (Sat.split hw').reads 0 rfl
  rintro E w7 ⟨X, a, Y, rfl, hPx, hE, h7⟩
  refine ⟨_, hE, ?_⟩
  obtain ⟨qs, hqs, h8⟩ := way_open (Sat.split (Sat.pull (Sat.split (Sat.p1 h7)) 1 rfl))
  refine RunS.one eok_step h8 0 rfl rfl (by rfl) (by omega) (by simp only [maxLen]; omega) fun wp' wc' w8 h9 => ?_
  have hxl : X.length < (X ++ a :: Y).length := by simp
  refine IdxC.ownAt h9 3 rfl hxl fun g hp => ?_
  have hga : ((X ++ a :: Y).map Kid.pr)[X.length]? = some a.pr := by simp
  refine LdI.at (Sat.ownAt h9 3 rfl hp (off := X.length * 2 + 1) (pairsV_get1 hga)) ?_
  refine ⟨⟨⟨k.x, X, a.pr, Y⟩ :: bs, a, rfl, rfl, by rw [wrapI64 (by omega) (by omega)]; simp, by simp only [List.length_cons]; omega, ?_, ?_⟩, ?_⟩
  ·rw [if_neg hd0]
   have e2 : d + 1 - ((⟨k.x, X, a.pr, Y⟩ : Fr) :: bs).length = e + 1 := by simp only [List.length_cons]; omega
   rw [e2]
   exact hD.step (Nat.le_refl 2) hP g1 g2 g3 g4 g5 g6 hPx
  ·have hfl : (⟨k.x, X, a.pr, Y⟩ : Fr).l = (X ++ a :: Y).map Kid.pr := by simp [Fr.l]
   refine way_shut (qs := (lp, lc) :: qs) (by simp [hqs]) ?_
   have h10 : Sat (Own 96 2 lp (X ++ a :: Y).length lc (pairsV ((X ++ a :: Y).map Kid.pr)) :: LsH bs qs :: Own 152 3 wp' (bs.length + 1) wc' (stepsV bs qs ++ [.int .u64 (k.x : Int), .slice lp (X ++ a :: Y).length lc, .int .i64 (X.length : Nat)]) :: HeapH H v b :: Row r (trc b t) 73 :: F) w8 :=
    ((((Sat.pull h9 2 rfl).pull 4 rfl).pull 2 rfl).pull 3 rfl).pull 4 rfl
   show Sat (Own 152 3 wp' (bs.length + 1) wc' (stepsV bs qs ++ stepV ⟨k.x, X, a.pr, Y⟩ (lp, lc)) :: star (HAnd (_ <= lc) (Own 96 2 lp _ lc (pairsV _))) (LsH bs qs) :: _) w8
   unfold stepV
   rw [hfl, List.length_map]
   exact Sat.p1 (Sat.join (Sat.mkPure hlc h10))
  ·simp only [wrapI64 (n := ((bs.length : Nat) : Int) + 1) (by omega) (by omega)]; omega
 ·have hbl : bs.length = d := by omega
  refine cond_f (by simp; omega) ?_
  have e1 : d + 1 - bs.length = 1 := by omega
  rw [e1] at hD
  obtain ⟨L, g1, g2, g3, g4, g5, g6⟩ := hD.rep
  have g1 : H.ov k.x = some (nodeO false (L.map Kid.pr)) := by rw [g1]; simp
  refine LdP.of h4 2 rfl (off := 0) rfl rfl (LdI.of h4 2 rfl (off := 1) rfl (add_mk _ _ _) ?_)
  refine (pairs_c (Sat.p1 h4) t (by simpa using g5) g1).mono ?_
  rintro e1 w5 ⟨lp, lc, rfl, hlc, h5⟩
  rw [List.length_map] at hlc h5 ⊢
  refine ⟨_, _, _, rfl, bs, k, L, wp, lp, wc, lc, rfl, hD, hbl, g1, g2, g3, ?_, g5, g6, hlc, ?_⟩
  ·cases bs with
   | nil => simp only [List.length_nil] at hbl; subst hbl; simpa using g4
   | cons _ _ => simpa using g4
  ·exact (h5.pull 3 rfl).drop |> fun g => (g.p2).p1 |> fun g => by exact g
end
end Go.Proofs.YtpicofkhioalkaaGreat
/- The choices on the way down. -/
set_option maxRecDepth 100000
namespace Go.Proofs.YtpicofkhioalkaaGreat
open Go Go.Lw Go.Wd Go.Am Go.Tb Go.Hm Go.Kd Go.Td
section
variable {H : Hp} {v : Value} {b : Nat} {F : List HP} {w : World}
theorem choose_put {d0 d1 t : Nat} {key : K} {G : List HP} : Chooses H v b 98 #[.pointer (some ⟨d0, 0, none⟩), .pointer (some ⟨d1, 0, none⟩)] (Row d0 (trc b t) 73 :: Row d1 [.string (str key)] 9 :: G) (ByKey key) := by
 intro L A w p c hne hl hs hk hr h
 refine FnQ.calls (by kernel_rfl) ?_
 refine S_tree_tree_put_1_ok _ _ _ _ _ _ _ ?_
 unfold S_tree_tree_put_1
 refine LdP.of h 2 rfl (off := 0) rfl rfl (LdI.of h 2 rfl (off := 1) rfl (add_mk _ _ _) (LdStr.of h 3 rfl (off := 0) rfl rfl ?_))
 refine (tway_c (L := L) h (srt_kids hs fun a ha => (hk a ha).2.2.2) hk rfl (by omega) hr).mono ?_
 rintro e w' ⟨i, hi, rfl, h'⟩
 obtain ⟨X, a, Y, h1, h2, h3⟩ := way_split hne hs (fun a ha => (hk a ha).2.2.2) hi
 exact ⟨_, rfl, X, a, Y, h1, h3, by rw [h2], h'⟩
theorem choose_take {d0 d1 t : Nat} {key : K} {G : List HP} : Chooses H v b 91 #[.pointer (some ⟨d0, 0, none⟩), .pointer (some ⟨d1, 0, none⟩)] (Row d0 (trc b t) 73 :: Row d1 [.string (str key)] 9 :: G) (ByKey key) := by
 intro L A w p c hne hl hs hk hr h
 refine FnQ.calls (by kernel_rfl) ?_
 refine S_tree_tree_take_1_ok _ _ _ _ _ _ _ ?_
 unfold S_tree_tree_take_1
 refine LdP.of h 2 rfl (off := 0) rfl rfl (LdI.of h 2 rfl (off := 1) rfl (add_mk _ _ _) (LdStr.of h 3 rfl (off := 0) rfl rfl ?_))
 refine (tway_c (L := L) h (srt_kids hs fun a ha => (hk a ha).2.2.2) hk rfl (by omega) hr).mono ?_
 rintro e w' ⟨i, hi, rfl, h'⟩
 obtain ⟨X, a, Y, h1, h2, h3⟩ := way_split hne hs (fun a ha => (hk a ha).2.2.2) hi
 exact ⟨_, rfl, X, a, Y, h1, h3, by rw [h2], h'⟩
theorem choose_seek {d0 d1 t : Nat} {key : K} {G : List HP} : Chooses H v b 54 #[.pointer (some ⟨d0, 0, none⟩), .pointer (some ⟨d1, 0, none⟩)] (Row d0 (trc b t) 73 :: Row d1 [.string (str key)] 9 :: G) (ByKey key) := by
 intro L A w p c hne hl hs hk hr h
 refine FnQ.calls (by kernel_rfl) ?_
 refine S_tree_Seek_2_ok _ _ _ _ _ _ _ ?_
 unfold S_tree_Seek_2
 refine LdP.of h 2 rfl (off := 0) rfl rfl (LdI.of h 2 rfl (off := 1) rfl (add_mk _ _ _) (LdStr.of h 3 rfl (off := 0) rfl rfl ?_))
 refine (tway_c (L := L) h (srt_kids hs fun a ha => (hk a ha).2.2.2) hk rfl (by omega) hr).mono ?_
 rintro e w' ⟨i, hi, rfl, h'⟩
 obtain ⟨X, a, Y, h1, h2, h3⟩ := way_split hne hs (fun a ha => (hk a ha).2.2.2) hi
 exact ⟨_, rfl, X, a, Y, h1, h3, by rw [h2], h'⟩
theorem choose_get {d0 d1 t : Nat} {key : K} {G : List HP} : Chooses H v b 62 #[.pointer (some ⟨d0, 0, none⟩), .pointer (some ⟨d1, 0, none⟩)] (Row d0 (trc b t) 73 :: Row d1 [.string (str key)] 9 :: G) (ByKey key) := by
 intro L A w p c hne hl hs hk hr h
 refine FnQ.calls (by kernel_rfl) ?_
 refine S_tree_Get_2_ok _ _ _ _ _ _ _ ?_
 unfold S_tree_Get_2
 refine LdP.of h 2 rfl (off := 0) rfl rfl (LdI.of h 2 rfl (off := 1) rfl (add_mk _ _ _) (LdStr.of h 3 rfl (off := 0) rfl rfl ?_))
 refine (tway_c (L := L) h (srt_kids hs fun a ha => (hk a ha).2.2.2) hk rfl (by omega) hr).mono ?_
 rintro e w' ⟨i, hi, rfl, h'⟩
 obtain ⟨X, a, Y, h1, h2, h3⟩ := way_split hne hs (fun a ha => (hk a ha).2.2.2) hi
 exact ⟨_, rfl, X, a, Y, h1, h3, by rw [h2], h'⟩
def ByLast (key : K) (A : List Kid) (c : Kid) (B : List Kid) : Prop := if key = [] then B = [] /\ c.es ≠ [] else ByKey key A c B
theorem str_nil (key : K) : ((str key).toList == (⟨#[]⟩ : ByteArray).toList) = decide (key = []) := by
 rw [str_toList]
 have : (⟨#[]⟩ : ByteArray).toList = [] := str_toList []
 rw [this]
 cases key <;> rfl
theorem choose_last {d0 d1 t : Nat} {key : K} {G : List HP} : Chooses H v b 60 #[.pointer (some ⟨d1, 0, none⟩), .pointer (some ⟨d0, 0, none⟩)] (Row d0 (trc b t) 73 :: Row d1 [.string (str key)] 9 :: G) (ByLast key) := by
 intro L A w p c hne hl hs hk hr h
 refine FnQ.calls (by kernel_rfl) ?_
 refine S_tree_Last_2_ok _ _ _ _ _ _ _ ?_
 unfold S_tree_Last_2
 refine LdStr.of h 3 rfl (off := 0) rfl rfl ?_
 rw [str_nil]
 by_cases hkn : key = []
 ·refine cond_t (by simp [hkn]) ?_
  have h0 := List.length_pos_iff.2 hne
  obtain ⟨X, a, rfl⟩ : ∃ X a, L = X ++ [a] := ⟨L.dropLast, L.getLast hne, (List.dropLast_concat_getLast hne).symm⟩
  refine ⟨X, a, [], rfl, by unfold ByLast; rw [if_pos hkn]; exact ⟨rfl, (hk a (by simp)).2.2.2⟩, ?_, h⟩
  show Ending.returned _ = Ending.returned _
  rw [wrapI64 (by omega) (by omega)]
  simp
 ·refine cond_f (by simp [hkn]) ?_
  refine LdP.of h 2 rfl (off := 0) rfl rfl (LdI.of h 2 rfl (off := 1) rfl (add_mk _ _ _) (LdStr.of h 3 rfl (off := 0) rfl rfl ?_))
  refine (tway_c (L := L) h (srt_kids hs fun a ha => (hk a ha).2.2.2) hk rfl (by omega) hr).mono ?_
  rintro e w' ⟨i, hi, rfl, h'⟩
  obtain ⟨X, a, Y, h1, h2, h3⟩ := way_split hne hs (fun a ha => (hk a ha).2.2.2) hi
  exact ⟨_, rfl, X, a, Y, h1, by unfold ByLast; rw [if_neg hkn]; exact h3, by rw [h2], h'⟩
end
end Go.Proofs.YtpicofkhioalkaaGreat
/- What first comes to: the least keys above a node made right. -/
set_option maxRecDepth 100000
namespace Go.Proofs.YtpicofkhioalkaaGreat
open Go Go.Lw Go.Wd Go.Am Go.Tb Go.Hm Go.Kd Go.Td
theorem stepsV_len : ∀ {bs : List Fr} {qs : List (Option Addr × Nat)}, qs.length = bs.length -> (stepsV bs qs).length = bs.length * 3
 | [], [], _ => rfl
 | [], _ :: _, h => by simp at h
 | _ :: _, [], h => by simp at h
 | f :: r, q :: qs, h => by
  simp only [stepsV, List.length_append, stepsV_len (by simpa using h : qs.length = r.length), List.length_cons]
  simp [stepV]; omega
theorem stepsV_app : ∀ {P r : List Fr} {qp qr : List (Option Addr × Nat)}, qp.length = P.length -> stepsV (P ++ r) (qp ++ qr) = stepsV r qr ++ stepsV P qp
 | [], r, [], qr, _ => by simp [stepsV]
 | [], _, _ :: _, _, h => by simp at h
 | _ :: _, _, [], _, h => by simp at h
 | f :: P, r, q :: qp, qr, h => by
  simp only [List.cons_append, stepsV, stepsV_app (by simpa using h : qp.length = P.length), List.append_assoc]
theorem stepsV_get {P r : List Fr} {f : Fr} {qp qr : List (Option Addr × Nat)} {q : Option Addr × Nat} (h1 : qp.length = P.length) (h2 : qr.length = r.length) {j : Nat} {u : Value} (hj : (stepV f q)[j]? = some u) :
  (stepsV (P ++ f :: r) (qp ++ q :: qr))[r.length * 3 + j]? = some u := by
 rw [stepsV_app h1]
 have hl := stepsV_len h2
 have hj3 := get_lt hj
 show (stepsV r qr ++ stepV f q ++ stepsV P qp)[_]? = _
 rw [List.append_assoc, List.getElem?_append_right (by omega), hl, Nat.add_sub_cancel_left, List.getElem?_append_left hj3]
 exact hj
theorem lsH_cons {f : Fr} {r : List Fr} {q : Option Addr × Nat} {qs : List (Option Addr × Nat)} {L : List HP} {w : World} (h : Sat (LsH (f :: r) (q :: qs) :: L) w) : f.l.length + 1 <= q.2 /\ Sat (Own 96 2 q.1 f.l.length q.2 (pairsV f.l) :: LsH r qs :: L) w := by
 obtain ⟨h1, h2⟩ := (Sat.split h).pureOf
 exact ⟨h1, h2⟩
theorem _root_.Go.Td.Fr.get (f : Fr) : f.l[f.A.length]? = some f.p := by simp [Fr.l]
theorem _root_.Go.Td.Fr.set_l (f : Fr) (k : Nat) : f.l.set f.A.length (k, f.p.2) = (f.with k).l := by simp [Fr.l, Fr.with]
theorem _root_.Go.Td.Fr.with_len (f : Fr) (k : Nat) : (f.with k).l.length = f.l.length := by simp [Fr.l, Fr.with]
def OkW {v : Value} {b : Nat} (E : Eng v b) (s : E.σ) (bs : List Fr) : Prop := ∀ f ∈ bs, E.ok s f.x /\ (∃ l, E.ov s f.x = some (nodeO true l) /\ l.length <= 12) /\ f.l.length <= 12 /\ ∀ p ∈ f.l, (p.1 = 0 ∨ E.ok s p.1) /\ (p.2 = 0 ∨ E.ok s p.2)
section
variable {v : Value} {b : Nat} {E : Eng v b} {s : E.σ} {F : List HP} {w : World}
theorem okw_updO {s s' : E.σ} {bs : List Fr} {x k m : Nat} {l : List (Nat × Nat)} (h : OkW E s bs) (hm : E.Mv s s' k m) (hl : l.length <= 12) (ho : E.ov s' = updO (E.ov s) x (nodeO true l)) : OkW E s' bs := by
 intro f hf
 obtain ⟨h1, ⟨l', h2, h3⟩, h4, h5⟩ := h f hf
 refine ⟨hm.ok _ h1, ?_, h4, fun p hp => ⟨hm.some (h5 p hp).1, hm.some (h5 p hp).2⟩⟩
 rw [ho]
 by_cases e : f.x = x
 ·exact ⟨l, by rw [e, updO_self], hl⟩
 ·exact ⟨l', by rw [updO_ne _ _ e]; exact h2, h3⟩
theorem with_ok {k : Nat} {f : Fr} (h : ∀ p ∈ f.l, (p.1 = 0 ∨ E.ok s p.1) /\ (p.2 = 0 ∨ E.ok s p.2)) (hk : E.ok s k) : ∀ p ∈ (f.with k).l, (p.1 = 0 ∨ E.ok s p.1) /\ (p.2 = 0 ∨ E.ok s p.2) := by
 intro p hp
 have hf : f.p ∈ f.l := by simp [Fr.l]
 simp only [Fr.l, Fr.with, List.mem_append, List.mem_cons] at hp
 rcases hp with hp | rfl | hp
 ·exact h p (by simp only [Fr.l, List.mem_append]; exact .inl hp)
 ·exact ⟨.inr hk, (h _ hf).2⟩
 ·exact h p (by simp only [Fr.l, List.mem_append, List.mem_cons]; exact .inr (.inr hp))
theorem tfirst_c {bs : List Fr} {wp : Option Addr} {wc k : Nat} (hs : Sat (Way bs wp wc :: E.S s F) w) (hi : E.inv s) (t : Nat) (hk : E.ok s k) (hbl : bs.length <= 100) (hok : OkW E s bs) :
  Calls Tryz.prog 137 #[trv b t, .slice wp bs.length wc, .int .u64 (k : Int)] w fun e w' =>
   ∃ s', e = .returned (.tuple #[]) /\ E.Mv s s' 0 0 /\ E.ov s' = fixO (E.ov s) bs k /\ Sat (E.S s' F) w' := by
 refine S_tree_tree_first_ok _ _ _ _ _ _ _ _ ?_
 unfold S_tree_tree_first
 refine NewC.ofRow hs fun d w1 h1 => ?_
 obtain ⟨qs, hqs, h2⟩ := way_open (Sat.p1 h1)
 rw [wrapI64 (n := ((bs.length : Nat) : Int) - 1) (by omega) (by omega)]
 have h2 : Sat (Own 152 3 wp bs.length wc (stepsV bs qs) :: LsH bs qs :: E.S s (Row d (trc b t) 73 :: F)) w1 :=
  ((((Sat.pull h2 2 rfl).pull 4 rfl).pull 4 rfl).pull 4 rfl).pull 4 rfl
 refine ⟨fun i w' => ∃ (P r : List Fr) (qp qr : List (Option Addr × Nat)) (s1 : E.σ), bs = P ++ r /\ qs = qp ++ qr /\ qp.length = P.length /\ qr.length = r.length /\ i = (r.length : Int) - 1 /\ E.Mv s s1 0 0 /\ OkW E s1 r /\ fixO (E.ov s1) r k = fixO (E.ov s) bs k /\
   Sat (Own 152 3 wp bs.length wc (stepsV bs qs) :: LsH r qr :: E.S s1 (Row d (trc b t) 73 :: F)) w', fun i _ => (i + 1).toNat,
  ⟨[], bs, [], qs, s, rfl, rfl, rfl, hqs, rfl, .refl hi, hok, rfl, h2⟩, ?_⟩
 rintro i w2 ⟨P, r, qp, qr, s1, hP, hq, hqp, hqr, rfl, m1, ok1, fx, h3⟩
 unfold S_tree_tree_first_l0
 have fin : ∀ s2 w3 {L : List HP}, E.Mv s1 s2 0 0 -> E.ov s2 = fixO (E.ov s1) r k -> Sat (E.S s2 (Row d (trc b t) 73 :: F)) w3 -> ∃ s', (Ending.returned (.tuple #[])) = .returned (.tuple #[]) /\ E.Mv s s' 0 0 /\ E.ov s' = fixO (E.ov s) bs k /\ Sat (E.S s' F) w3 := by
  intro s2 w3 _ a1 a2 a3
  exact ⟨s2, rfl, by simpa using m1.trans a1, by rw [a2, fx], (outS a3).drop⟩
 cases r with
 | nil => exact cond_f (by simp) (fin (L := []) s1 w2 (.refl m1.inv) rfl h3.drop.drop)
 | cons f r =>
  cases qr with
  | nil => simp at hqr
  | cons q qr =>
   have hqr' : qr.length = r.length := by simpa using hqr
   refine cond_t (by simp) ?_
   have ei : (((f :: r).length : Nat) : Int) - 1 = ((r.length : Nat) : Int) := by simp
   rw [ei]
   have hbl2 : r.length < bs.length := by rw [hP]; simp; omega
   obtain ⟨okx, ⟨l0, ol0, ll0⟩, lf, okl⟩ := ok1 f (by simp)
   obtain ⟨hcap, h4⟩ := lsH_cons (Sat.p1 h3)
   have hst : ∀ {j : Nat} {u : Value}, (stepV f q)[j]? = some u -> (stepsV bs qs)[r.length * 3 + j]? = some u := fun hj => by rw [hP, hq]; exact stepsV_get hqp hqr' hj
   refine IdxC.ownAt h4 2 rfl hbl2 fun g hg => ?_
   refine LdI.at (n := (f.x : Int)) (Sat.ownAt h4 2 rfl hg (off := r.length * 3 + 0) (hst rfl)) ?_
   refine LdS.at (p := q.1) (l := f.l.length) (c := q.2) (Sat.ownAt h4 2 rfl hg (off := r.length * 3 + 1) (hst rfl)) ?_
   refine LdI.at (n := (f.A.length : Nat)) (Sat.ownAt h4 2 rfl hg (off := r.length * 3 + 2) (hst rfl)) ?_
   refine NewC.ofRow h4 fun d2 w3 h5 => ?_
   refine StC.of h5 0 rfl (off := 0) rfl rfl fun w4 h6 => StC.of h6 0 rfl (off := 1) rfl (add_mk _ _ _) fun w5 h7 => StC.of h7 0 rfl (off := 2) rfl (add_mk _ _ _) fun w6 h8 => ?_
   refine LdS.of h8 0 rfl (off := 1) rfl (add_mk _ _ _) (LdI.of h8 0 rfl (off := 2) rfl (add_mk _ _ _) ?_)
   have hfl : f.A.length < f.l.length := by rw [Fr.l_len]; omega
   have hne : f.l ≠ [] := fun e => by rw [e] at hfl; simp at hfl
   refine IdxC.ownAt h8 1 rfl hfl fun g2 hg2 => ?_
   refine LdI.at (n := (f.p.1 : Int)) (Sat.ownAt h8 1 rfl hg2 (off := f.A.length * 2) (pairsV_get0 f.get)) ?_
   by_cases hpk : f.p.1 = k
   ·refine cond_t (by simp [hpk]) (fin (L := []) s1 w6 (.refl m1.inv) (by rw [fixO, if_pos hpk]) ?_)
    exact h8.drop.drop.drop.drop
   ·refine cond_f (by simpa using fun e => hpk (by omega)) ?_
    refine LdS.of h8 0 rfl (off := 1) rfl (add_mk _ _ _) (LdI.of h8 0 rfl (off := 2) rfl (add_mk _ _ _) ?_)
    refine IdxC.ownAt h8 1 rfl hfl fun g3 hg3 => ?_
    refine StC.ownAt h8 1 rfl hg3 (off := f.A.length * 2) (v0 := .int .u64 (f.p.1 : Int)) (pairsV_get0 f.get) rfl fun w7 h9 => ?_
    simp only [List.set_cons_succ, List.set_cons_zero] at h9
    rw [pairsV_set0 k f.get, f.set_l k] at h9
    refine LdP.of h9 6 rfl (off := 0) rfl rfl (LdI.of h9 6 rfl (off := 1) rfl (add_mk _ _ _) (LdI.of h9 0 rfl (off := 0) rfl rfl (LdS.of h9 0 rfl (off := 1) rfl (add_mk _ _ _) ?_)))
    have h10 : Sat (E.S s1 (Row d2 [.int .u64 (f.x : Int), .slice q.1 f.l.length q.2, .int .i64 (f.A.length : Nat)] 152 :: Own 96 2 q.1 f.l.length q.2 (pairsV (f.with k).l) :: LsH r qr :: Own 152 3 wp bs.length wc (stepsV bs qs) :: Row d (trc b t) 73 :: F)) w7 :=
     (Sat.pull h9 5 rfl).pull 5 rfl
    have hrd : RdP (Row d2 [.int .u64 (f.x : Int), .slice q.1 f.l.length q.2, .int .i64 (f.A.length : Nat)] 152 :: Own 96 2 q.1 f.l.length q.2 (pairsV (f.with k).l) :: LsH r qr :: Own 152 3 wp bs.length wc (stepsV bs qs) :: Row d (trc b t) 73 :: F) q.1 (f.with k).l :=
     ⟨fun w' h' => h'.reads 1 rfl, fun _ => ⟨_, hg2⟩⟩
    refine (write_c h10 m1.inv t (x := f.x) (tag := 22) (ws := nodeW l0) ol0 (nodeW_len ll0) okx (by rw [f.with_len]; exact lf) (with_ok okl (m1.ok _ hk)) (f.with_len k).symm hrd).mono ?_
    rintro e w8 ⟨s2, rfl, m2, o2, h11⟩
    have o2 : E.ov s2 = updO (E.ov s1) f.x (nodeO true (f.with k).l) := o2
    refine ⟨rfl, ?_⟩
    refine LdI.of h11 2 rfl (off := 2) rfl (add_mk _ _ _) ?_
    by_cases hA : f.A = []
    ·refine cond_f (by simp [hA]) ?_
     refine ⟨⟨P ++ [f], r, qp ++ [q], qr, s2, by rw [hP]; simp, by rw [hq]; simp, by simp [hqp], hqr', by rw [wrapI64 (by omega) (by omega)], by simpa using m1.trans m2, ?_, ?_, ?_⟩, ?_⟩
     ·exact okw_updO (fun f' hf' => ok1 f' (by simp [hf'])) m2 (by rw [f.with_len]; exact lf) o2
     ·rw [<- fx, fixO, if_neg hpk, if_pos hA, o2]
     ·exact Sat.pull (Sat.pull (outS (outS h11).drop).drop 2 rfl) 3 rfl
     ·simp only [wrapI64 (n := (r.length : Int) - 1) (by omega) (by omega)]; omega
    ·have hA0 := List.length_pos_iff.2 hA
     refine cond_t (by simp; omega) (fin (L := []) s2 w8 m2 ?_ ?_)
     ·rw [o2, fixO, if_neg hpk, if_neg hA]
     ·exact (outS (outS (outS (outS h11).drop).drop).drop).drop
end
end Go.Proofs.YtpicofkhioalkaaGreat
