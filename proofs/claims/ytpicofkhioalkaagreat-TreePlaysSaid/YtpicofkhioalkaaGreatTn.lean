
/- What the functions over a tree's nodes come to: pairs, write, node, newKey, set. -/
import Derived.Test.YtpicofkhioalkaaGreatTe
import Derived.Test.YtpicofkhioalkaaGreatKc
set_option maxRecDepth 100000
namespace Go.Lw
theorem RunS.oneC {P : Program} {L : List HP} {w : World} {t e s bytes ty : Nat} (hE : EOK P t e s bytes) {p : Option Addr} {l c : Nat} {vs : Array Value} {xs : List Value} {K : Option Addr -> Nat -> Nat -> World -> Prop} (hs : Sat L w)
  (i : Nat) (hi : L[i]? = some (Own e s p l c xs)) (hv : vs.size = s) (h1 : (vs.toList.all fun u => u.oneCell') = true) (hc : l + 1 <= c)
  (h : ∀ w', Sat (L.set i (Own e s p (l + 1) c (xs ++ vs.toList))) w' -> K p (l + 1) c w') :
  NewC (.cells vs e (0, 0)) w fun b w1 => RunS P (Builtin.append_ #[t, t] ty #[.slice p l c, .slice (some ⟨b, 0, none⟩) 1 1]) w1 K := by
 refine NewC.ofRow hs fun b w1 hs1 => ?_
 have hi1 : (Row b vs.toList e :: L)[i + 1]? = some (Own e s p l c xs) := by simpa using hi
 obtain ⟨hol, hcase⟩ := hs1.own (i + 1) hi1
 obtain ⟨hsl, ⟨ti, z, hti, hz, rfl, rfl, hzs⟩, hpos⟩ := hE
 rcases hcase with ⟨rfl, rfl, rfl⟩ | ⟨g, rest, rfl, hlc, hcm, hcl, hr⟩
 ·omega
 ·have hgi := get_set_self (b := Row g (xs ++ rest) e) hi1
  have hblk := hr.blk (i + 1) hgi
  have hlen : (xs ++ rest).length = xs.length + rest.length := List.length_append
  have hle : l * ti.size + 1 * ti.size <= c * ti.size := by rw [<- Nat.add_mul]; exact Nat.mul_le_mul_right _ (by omega)
  have hrun := run_append_room (P := P) w1 t ty e ti hsl hti g l c (xs ++ rest).toArray hblk ⟨b, 0, none⟩ 1 1 vs.toList (by simp [hv]) (fun j v hj => by
   rw [add_mk, Nat.zero_add]
   exact hs1.cell 0 rfl hj) (fun u hu => List.all_eq_true.1 h1 u hu) (by omega) (by simp only [List.size_toArray, Array.length_toList, hv, Nat.one_mul] at hle hcl ⊢; omega)
  refine ⟨_, _, _, _, hrun, h _ ?_⟩
  have h2 := hr.setRow (cs' := (xs ++ rest).take (l * ti.size) ++ vs.toList ++ (xs ++ rest).drop (l * ti.size + vs.toList.length)) (i + 1) hgi
  rw [set_set_self] at h2
  have htake : (xs ++ rest).take (l * ti.size) = xs := by rw [<- hol]; exact List.take_left
  rw [htake] at h2
  have h3 := h2.mkOwn (s := ti.size) (l := l + 1) (c := c) (i + 1) (get_set_self hi1) (by rw [List.length_append, hol, Nat.add_mul]; simp [hv]) (by omega) hcm (by
   simp only [List.length_append, List.length_drop, Array.length_toList] at hcl ⊢
   omega)
  rw [set_set_self] at h3
  have e1 : ((xs ++ rest).toArray.toList.take (l * ti.size) ++ vs.toList ++ (xs ++ rest).toArray.toList.drop (l * ti.size + vs.toList.length)).toArray = (xs ++ vs.toList ++ (xs ++ rest).drop (l * ti.size + vs.toList.length)).toArray := by
   simp only [htake]
  rw [e1]
  simp only [List.set_cons_succ] at h3
  exact h3.drop
theorem NewC.both {o : Obj} {w : World} {A B : Nat -> World -> Prop} (a : NewC o w A) (b : NewC o w B) : NewC o w fun x w' => A x w' /\ B x w' := ⟨a, b⟩
end Go.Lw
namespace Go.Proofs.YtpicofkhioalkaaGreat
open Go Go.Lw Go.Wd Go.Am Go.Tb Go.Hm Go.Kd Go.Td
theorem eok_pair : EOK Tryz.prog 86 96 2 16 := ⟨by kernel_rfl, ⟨_, _, rfl, rfl, rfl, rfl, rfl⟩, by omega⟩
theorem eok_step : EOK Tryz.prog 85 152 3 40 := ⟨by kernel_rfl, ⟨_, _, rfl, rfl, rfl, rfl, rfl⟩, by omega⟩
def pairV (p : Nat × Nat) : List Value := [.int .u64 (p.1 : Int), .int .u64 (p.2 : Int)]
def pairsV (l : List (Nat × Nat)) : List Value := l.flatMap pairV
@[simp] theorem pairsV_nil : pairsV [] = [] := rfl
@[simp] theorem pairsV_cons (p : Nat × Nat) (l : List (Nat × Nat)) : pairsV (p :: l) = .int .u64 (p.1 : Int) :: .int .u64 (p.2 : Int) :: pairsV l := rfl
theorem pairsV_append (a b : List (Nat × Nat)) : pairsV (a ++ b) = pairsV a ++ pairsV b := by simp [pairsV]
theorem pairsV_len (l : List (Nat × Nat)) : (pairsV l).length = l.length * 2 := by
 induction l with
 | nil => rfl
 | cons p l ih => simp only [pairsV_cons, List.length_cons, ih]; omega
theorem pairsV_get0 : ∀ {l : List (Nat × Nat)} {i : Nat} {p : Nat × Nat}, l[i]? = some p -> (pairsV l)[i * 2]? = some (.int .u64 (p.1 : Int))
 | [], i, p, h => by simp at h
 | q :: l, 0, p, h => by simp at h; subst h; rfl
 | q :: l, i + 1, p, h => by
  simp at h
  have : (i + 1) * 2 = i * 2 + 2 := by omega
  rw [this, pairsV_cons, List.getElem?_cons_succ, List.getElem?_cons_succ]
  exact pairsV_get0 h
theorem pairsV_get1 : ∀ {l : List (Nat × Nat)} {i : Nat} {p : Nat × Nat}, l[i]? = some p -> (pairsV l)[i * 2 + 1]? = some (.int .u64 (p.2 : Int))
 | [], i, p, h => by simp at h
 | q :: l, 0, p, h => by simp at h; subst h; rfl
 | q :: l, i + 1, p, h => by
  simp at h
  have : (i + 1) * 2 + 1 = i * 2 + 1 + 2 := by omega
  rw [this, pairsV_cons, List.getElem?_cons_succ, List.getElem?_cons_succ]
  exact pairsV_get1 h
theorem pairsV_set0 : ∀ {l : List (Nat × Nat)} {i : Nat} {p : Nat × Nat} (k : Nat), l[i]? = some p -> (pairsV l).set (i * 2) (.int .u64 (k : Int)) = pairsV (l.set i (k, p.2))
 | [], i, p, k, h => by simp at h
 | q :: l, 0, p, k, h => by simp at h; subst h; rfl
 | q :: l, i + 1, p, k, h => by
  simp at h
  have : (i + 1) * 2 = i * 2 + 2 := by omega
  rw [this, pairsV_cons, List.set_cons_succ, List.set_cons_succ, pairsV_set0 k h]; rfl
theorem pairsV_set1 : ∀ {l : List (Nat × Nat)} {i : Nat} {p : Nat × Nat} (k : Nat), l[i]? = some p -> (pairsV l).set (i * 2 + 1) (.int .u64 (k : Int)) = pairsV (l.set i (p.1, k))
 | [], i, p, k, h => by simp at h
 | q :: l, 0, p, k, h => by simp at h; subst h; rfl
 | q :: l, i + 1, p, k, h => by
  simp at h
  have : (i + 1) * 2 + 1 = i * 2 + 1 + 2 := by omega
  rw [this, pairsV_cons, List.set_cons_succ, List.set_cons_succ, pairsV_set1 k h]; rfl
structure RdP (F : List HP) (p : Option Addr) (l : List (Nat × Nat)) : Prop where
 reads : ∀ w, Sat F w -> Reads w p (pairsV l)
 some : l ≠ [] -> ∃ a, p = some a
theorem idxP {K : Addr -> Prop} {F : List HP} {w : World} {p : Option Addr} {l : List (Nat × Nat)} (hr : RdP F p l) (hs : Sat F w) {n i : Nat} {j : Int} {q : Nat × Nat} (hn : n = l.length) (hj : j = i) (hi : l[i]? = some q)
  (h : ∀ a, (∀ w', Sat F w' -> w'.cell? a = some (.int .u64 (q.1 : Int)) /\ w'.cell? (a.add 1) = some (.int .u64 (q.2 : Int))) -> K a) : IdxC p n j 2 K := by
 have hlt := get_lt hi
 subst hn; subst hj
 obtain ⟨a, rfl⟩ := hr.some (by intro e; rw [e] at hlt; simp at hlt)
 refine ⟨by omega, by omega, h _ fun w' hs' => ?_⟩
 have h0 := hr.reads w' hs' a rfl _ _ (pairsV_get0 hi)
 have h1 := hr.reads w' hs' a rfl _ _ (pairsV_get1 hi)
 rw [Int.toNat_natCast]
 refine ⟨h0, ?_⟩
 rw [<- h1]
 congr 1
 unfold Addr.add
 split <;> split <;> split <;> first | rfl | omega | (simp only [Addr.mk.injEq]; refine ⟨rfl, by omega, ?_⟩; first | rfl | trivial) | skip
 all_goals (first | (simp; done) | (simp; omega) | skip)
section
variable {H : Hp} {v : Value} {b : Nat} {F : List HP} {w : World}
theorem pairs_c (hs : Sat (HeapH H v b :: F) w) (t : Nat) {x : Nat} {inner : Bool} {l : List (Nat × Nat)} (hl : l.length <= 12) (ho : H.ov x = some (nodeO inner l)) :
  Calls Tryz.prog 105 #[trv b t, .int .u64 (x : Int), .bool inner] w fun e w' => ∃ p c, e = .returned (.slice p l.length c) /\ l.length + 1 <= c /\ Sat (Own 96 2 p l.length c (pairsV l) :: HeapH H v b :: F) w' := by
 refine S_tree_tree_pairs_ok _ _ _ _ _ _ ?_
 unfold S_tree_tree_pairs
 have hw : (nodeO inner l).w.length = 25 := nodeW_len hl
 refine NewC.ofRow hs fun d w1 h1 => ?_
 refine LdP.of h1 0 rfl (off := 0) rfl rfl ?_
 refine (thead_c (h1.pull 1 rfl) ho).mono ?_
 rintro e w2 ⟨rfl, h2⟩
 refine ⟨_, _, _, _, rfl, ?_⟩
 refine right_c.mono ?_
 rintro e w3 ⟨rfl, rfl⟩
 refine ⟨rfl, cond_t rfl (cond_t (by rw [hw]; rfl) (cond_t (by cases inner <;> rfl) ?_))⟩
 refine (must_c 4 (by cases inner <;> rfl)).mono ?_
 rintro e w4 ⟨rfl, rfl⟩
 refine ⟨rfl, ?_⟩
 refine LdP.of h2 1 rfl (off := 0) rfl rfl (LdI.of h2 1 rfl (off := 1) rfl (add_mk _ _ _) ?_)
 refine (tword_c h2 t (i := 0) ho (by show (nodeW l)[24 + 0]? = _; exact nodeW_last hl) (by omega) rfl).mono ?_
 rintro e w5 ⟨rfl, h5⟩
 refine ⟨_, rfl, ?_⟩
 refine (must_c 4 (by simp; omega)).mono ?_
 rintro e w6 ⟨rfl, rfl⟩
 refine ⟨rfl, ?_⟩
 refine RunS.makeOwn eok_pair h5 (by rw [wrapI64 (by omega) (by omega)]; omega) (by rw [wrapI64 (by omega) (by omega)]; omega) (by rw [wrapI64 (by omega) (by omega)]; omega) fun op w7 h7 => ?_
 have ec : (IntKind.wrap .i64 ((l.length : Nat) + 1 : Int)).toNat = l.length + 1 := by rw [wrapI64 (by omega) (by omega)]; omega
 rw [ec] at h7 ⊢
 refine ⟨fun p' l' c' n w' => ∃ i : Nat, n = i /\ i <= l.length /\ l' = i /\ c' = l.length + 1 /\ Sat (Own 96 2 p' l' c' (pairsV (l.take i)) :: HeapH H v b :: Row d (trc b t) 73 :: F) w',
  fun _ _ _ n _ => ((l.length : Nat) - n).toNat, ⟨0, rfl, by omega, rfl, rfl, h7⟩, ?_⟩
 rintro p' l' c' n w8 ⟨i, rfl, hi, rfl, rfl, h8⟩
 unfold S_tree_tree_pairs_l0
 by_cases hlt : l' < l.length
 ·refine cond_t (by simp; omega) ?_
  obtain ⟨q, hq⟩ : ∃ q, l[l']? = some q := ⟨_, List.getElem?_eq_getElem hlt⟩
  have hC : ∀ {w' : World} {L : List HP}, Sat (Own 96 2 p' l' (l.length + 1) (pairsV (l.take l')) :: HeapH H v b :: Row d (trc b t) 73 :: L) w' -> ∃ L, Sat (Row d (trc b t) 73 :: L) w' := fun h => ⟨_, h.pull 2 rfl⟩
  refine ⟨fun w' => ∃ L, Sat (Row d (trc b t) 73 :: L) w', hC h8.drew, ?_⟩
  have hld : ∀ w', (∃ L, Sat (Row d (trc b t) 73 :: L) w') -> LdP w' (⟨d, 0, none⟩) fun p => LdI .u64 w' (Addr.add (⟨d, 0, none⟩) 1) fun n => Value.agg #[.pointer p, .int .u64 n] = .agg #[.pointer (some ⟨b, 0, none⟩), .int .u64 (t : Int)] := by
   rintro w' ⟨L, h⟩
   exact LdP.of h 0 rfl (off := 0) rfl rfl (LdI.of h 0 rfl (off := 1) rfl (add_mk _ _ _) rfl)
  refine ⟨_, _, hld, _, _, hld, ?_⟩
  rw [wrapI64 (n := 2 * (l' : Int)) (by omega) (by omega)]
  have hr : (nodeO inner l).refs = 24 := rfl
  refine (tref_c (Sat.p1 h8.drew) t (i := 2 * l') ho (by rw [hr]; omega) (nodeW_get0 hq) (by omega)).mono ?_
  rintro e w9 ⟨rfl, h9⟩
  refine ⟨_, rfl, ⟨_, h9.pull 2 rfl⟩, ?_⟩
  rw [wrapI64 (n := 2 * (l' : Int) + 1) (by omega) (by omega)]
  refine (tref_c h9 t (i := 2 * l' + 1) ho (by rw [hr]; omega) (nodeW_get1 hq) (by omega)).mono ?_
  rintro e w10 ⟨rfl, h10⟩
  refine ⟨_, rfl, ⟨_, h10.pull 2 rfl⟩, ?_⟩
  refine NewC.both (NewC.ofRow h10 fun d2 w11 h11 => ⟨_, h11.pull 3 rfl⟩) ?_
  refine RunS.oneC eok_pair (Sat.p1 h10) 0 rfl (by rfl) (by rfl) (by omega) fun w12 h12 => ?_
  refine ⟨⟨_, h12.pull 2 rfl⟩, ⟨l' + 1, by rw [wrapI64 (by omega) (by omega)]; omega, by omega, rfl, rfl, ?_⟩, by simp only [wrapI64 (n := (l' : Int) + 1) (by omega) (by omega)]; omega⟩
  have ht : l.take (l' + 1) = l.take l' ++ [q] := by rw [List.take_add_one, hq]; rfl
  rw [ht, pairsV_append]
  exact h12
 ·have : l' = l.length := by omega
  subst this
  refine cond_f (by simp) ⟨_, _, rfl, by omega, ?_⟩
  rw [List.take_of_length_le (by omega)] at h8
  exact (h8.pull 2 rfl).drop
end
theorem inS {A B C : HP} {F : List HP} {w : World} (h : Sat (A :: B :: C :: F) w) : Sat (B :: C :: A :: F) w := h.p2.p2
theorem outS {A B C : HP} {F : List HP} {w : World} (h : Sat (B :: C :: A :: F) w) : Sat (A :: B :: C :: F) w := h.p2
def padW (l : List (Nat × Nat)) : List Nat := flat l ++ List.replicate (24 - 2 * l.length) 0
theorem padW_len {l : List (Nat × Nat)} (h : l.length <= 12) : (padW l).length = 24 := by
 simp only [padW, List.length_append, flat_len, List.length_replicate]; omega
def padP (l : List (Nat × Nat)) (i : Nat) : Nat × Nat := match l[i]? with | some q => q | none => (0, 0)
theorem pad_get {l : List (Nat × Nat)} {i : Nat} (hi : i < 12) : (padW l)[2 * i]? = some (padP l i).1 /\ (padW l)[2 * i + 1]? = some (padP l i).2 := by
 unfold padP padW
 cases h : l[i]? with
 | some q =>
  have h0 := flat_get0 h
  have h1 := flat_get1 h
  exact ⟨by rw [List.getElem?_append_left (get_lt h0)]; exact h0, by rw [List.getElem?_append_left (get_lt h1)]; exact h1⟩
 | none =>
  have hl : l.length <= i := by
   rcases Nat.lt_or_ge i l.length with h' | h'
   ·rw [List.getElem?_eq_getElem h'] at h; cases h
   ·exact h'
  have hf := flat_len l
  exact ⟨by rw [List.getElem?_append_right (by omega), List.getElem?_replicate, if_pos (by omega)], by rw [List.getElem?_append_right (by omega), List.getElem?_replicate, if_pos (by omega)]⟩
def mixW (T ws : List Nat) (j : Nat) : List Nat := T.take j ++ ws.drop j
theorem mix_len {T ws : List Nat} {j : Nat} (h : j <= T.length) (h2 : j <= ws.length) : (mixW T ws j).length = ws.length := by simp [mixW]; omega
theorem mix_get {T ws : List Nat} {j : Nat} (h : j <= T.length) : (mixW T ws j)[j]? = ws[j]? := by
 unfold mixW
 rw [List.getElem?_append_right (by simp; omega), List.length_take, Nat.min_eq_left h, Nat.sub_self, List.getElem?_drop]; rfl
theorem mix_set {T ws : List Nat} {j y : Nat} (h : T[j]? = some y) (h2 : j < ws.length) : (mixW T ws j).set j y = mixW T ws (j + 1) := by
 have hl := get_lt h
 unfold mixW
 rw [List.set_append_right _ _ (by simp; omega), List.length_take, Nat.min_eq_left (by omega), Nat.sub_self, List.take_add_one, h, List.append_assoc]
 congr 1
 rw [List.drop_eq_getElem_cons h2]
 rfl
theorem mix_same {T ws : List Nat} {j y : Nat} (h : T[j]? = some y) (h2 : ws[j]? = some y) : mixW T ws j = mixW T ws (j + 1) := by
 have hl := get_lt h2
 rw [<- mix_set h hl]
 unfold mixW
 have hT := get_lt h
 rw [List.set_append_right _ _ (by simp; omega), List.length_take, Nat.min_eq_left (by omega), Nat.sub_self, List.drop_eq_getElem_cons hl]
 rw [List.getElem?_eq_getElem hl] at h2
 simp only [Option.some.injEq] at h2
 rw [h2]; rfl
theorem updO_updO (f : Lk) (x : Nat) (a b : Ov) : updO (updO f x a) x b = updO f x b := by
 funext y; unfold updO; split <;> rfl
theorem updO_same {f : Lk} {x : Nat} {a : Ov} (h : f x = some a) : updO f x a = f := by
 funext y; unfold updO; split
 ·rename_i e; rw [e, h]
 ·rfl
section
variable {v : Value} {b : Nat} {E : Eng v b} {s : E.σ} {F : List HP} {w : World}
theorem write_c (hs : Sat (E.S s F) w) (hi : E.inv s) (t : Nat) {x tag : Nat} {ws : List Nat} {l : List (Nat × Nat)} (ho : E.ov s x = some ⟨tag, 24, ws⟩) (hw : ws.length = 25) (hx : E.ok s x) (hl : l.length <= 12)
  (hok : ∀ p ∈ l, (p.1 = 0 ∨ E.ok s p.1) /\ (p.2 = 0 ∨ E.ok s p.2)) {p : Option Addr} {n c : Nat} (hn : n = l.length) (hr : RdP F p l) :
  Calls Tryz.prog 101 #[trv b t, .int .u64 (x : Int), .slice p n c] w fun e w' =>
   ∃ s', e = .returned (.tuple #[]) /\ E.Mv s s' 0 0 /\ E.ov s' = updO (E.ov s) x ⟨tag, 24, nodeW l⟩ /\ Sat (E.S s' F) w' := by
 subst hn
 refine S_tree_tree_write_ok _ _ _ _ _ _ _ _ ?_
 unfold S_tree_tree_write
 have hT := padW_len hl
 have hokP : ∀ i, ((padP l i).1 = 0 ∨ E.ok s (padP l i).1) /\ ((padP l i).2 = 0 ∨ E.ok s (padP l i).2) := by
  intro i
  unfold padP
  cases h : l[i]? with
  | some q => exact hok q (List.mem_of_getElem? h)
  | none => exact ⟨.inl rfl, .inl rfl⟩
 refine NewC.ofRow hs fun d w1 h1 => ?_
 refine ⟨fun n w' => ∃ i s', n = (i : Nat) /\ i <= 12 /\ E.Mv s s' 0 0 /\ E.ov s' = updO (E.ov s) x ⟨tag, 24, mixW (padW l) ws (2 * i)⟩ /\ Sat (E.S s' (Row d (trc b t) 73 :: F)) w', fun n _ => ((12 : Int) - n).toNat,
  ⟨0, s, rfl, by omega, .refl hi, by rw [updO_same]; exact ho, inS h1⟩, ?_⟩
 rintro n w2 ⟨i, s1, rfl, hi12, hm1, hov1, h2⟩
 unfold S_tree_tree_write_l1
 by_cases hlt : i < 12
 ·refine cond_t (by simp; omega) ?_
  refine NewC.ofRow h2 fun d1 w3 h3 => ?_
  refine StC.of h3 0 rfl (off := 0) rfl rfl fun w4 h4 => StC.of h4 0 rfl (off := 1) rfl (add_mk _ _ _) fun w5 h5 => ?_
  intro k0 hk0
  have key : ∀ w6, Sat (Row d1 [.int .u64 ((padP l i).1 : Int), .int .u64 ((padP l i).2 : Int)] 96 :: E.S s1 (Row d (trc b t) 73 :: F)) w6 -> k0 w6 := by
   intro w6 h6
   refine hk0 w6 ?_
   unfold S_tree_tree_write_j1
   refine LdI.of h6 0 rfl (off := 0) rfl rfl (LdI.of h6 0 rfl (off := 1) rfl (add_mk _ _ _) ?_)
   refine ⟨fun n w' => ∃ k s', n = (k : Nat) /\ k <= 2 /\ E.Mv s s' 0 0 /\ E.ov s' = updO (E.ov s) x ⟨tag, 24, mixW (padW l) ws (2 * i + k)⟩ /\ Sat (E.S s' (Row d (trc b t) 73 :: F)) w', fun n _ => ((2 : Int) - n).toNat,
    ⟨0, s1, rfl, by omega, hm1, hov1, h6.drop⟩, ?_⟩
   rintro n w7 ⟨k, s2, rfl, hk2, hm2, hov2, h7⟩
   unfold S_tree_tree_write_l0
   by_cases hk : k < 2
   ·refine cond_t (by simp; omega) ?_
    intro k1 hk1
    have hy : ∃ y, (padW l)[2 * i + k]? = some y /\ (y = 0 ∨ E.ok s y) /\ (#[Value.int .u64 ((padP l i).1 : Int), .int .u64 ((padP l i).2 : Int)] : Array Value)[k]? = some (.int .u64 (y : Int)) := by
     have hg := pad_get (l := l) hlt
     have hp := hokP i
     rcases (by omega : k = 0 ∨ k = 1) with rfl | rfl
     ·exact ⟨_, hg.1, hp.1, rfl⟩
     ·exact ⟨_, hg.2, hp.2, rfl⟩
    obtain ⟨y, hy1, hy2, hy3⟩ := hy
    refine ⟨(y : Int), by omega, by omega, by rw [Int.toNat_natCast]; exact hy3, ?_⟩
    refine LdP.of h7 2 rfl (off := 0) rfl rfl ?_
    have e1 : IntKind.wrap .i64 (IntKind.wrap .i64 (2 * (i : Int)) + (k : Int)) = ((2 * i + k : Nat) : Int) := by
     rw [wrapI64 (n := 2 * (i : Int)) (by omega) (by omega), wrapI64 (by omega) (by omega)]; omega
    rw [e1]
    have hox : E.ov s2 x = some ⟨tag, 24, mixW (padW l) ws (2 * i + k)⟩ := by rw [hov2, updO_self]
    obtain ⟨z, hz⟩ : ∃ z, ws[2 * i + k]? = some z := ⟨_, List.getElem?_eq_getElem (by omega)⟩
    have hmx : (mixW (padW l) ws (2 * i + k))[2 * i + k]? = some z := by rw [mix_get (by omega)]; exact hz
    refine (tgref_c h7 (i := 2 * i + k) hox (by show _ < 24; omega) hmx rfl).mono ?_
    rintro e w8 ⟨rfl, h8⟩
    refine ⟨_, _, rfl, ?_⟩
    have fin : ∀ s3 w9, E.Mv s2 s3 0 0 -> E.ov s3 = updO (E.ov s) x ⟨tag, 24, mixW (padW l) ws (2 * i + (k + 1))⟩ -> Sat (E.S s3 (Row d (trc b t) 73 :: F)) w9 -> k1 w9 := by
     intro s3 w9 a1 a2 a3
     refine hk1 w9 ?_
     unfold S_tree_tree_write_j0
     exact ⟨⟨k + 1, s3, by rw [wrapI64 (by omega) (by omega)]; omega, by omega, by simpa using hm2.trans a1, a2, a3⟩, by simp only [wrapI64 (n := (k : Int) + 1) (by omega) (by omega)]; omega⟩
    by_cases hzy : z = y
    ·subst hzy
     refine cond_f (by simp) (fin s2 w8 (.refl hm2.inv) ?_ h8)
     rw [hov2, mix_same hy1 hz]; rfl
    ·refine cond_t (by simpa using fun h => hzy (by omega)) ?_
     refine LdP.of h8 2 rfl (off := 0) rfl rfl ?_
     refine esr_c h8 hm2.inv (i := 2 * i + k) hox (hm2.ok _ hx) (by show _ < 24; omega) rfl (hy2.imp id (hm2.ok y)) ?_
     intro s3 w9 a1 a2 a3
     refine ⟨_, rfl, fin s3 w9 a1 ?_ a3⟩
     rw [a2, hov2, updO_updO]
     congr 2
     exact mix_set hy1 (by omega)
   ·have : k = 2 := by omega
    subst this
    refine cond_f (by simp) ⟨⟨i + 1, s2, by rw [wrapI64 (by omega) (by omega)]; omega, by omega, hm2, hov2, h7⟩, by simp only [wrapI64 (n := (i : Int) + 1) (by omega) (by omega)]; omega⟩
  by_cases hil : i < l.length
  ·refine cond_t (by simp; omega) ?_
   obtain ⟨q, hq⟩ : ∃ q, l[i]? = some q := ⟨_, List.getElem?_eq_getElem hil⟩
   refine idxP hr h5.drop.drop.drop.drop rfl rfl hq fun a ha => ?_
   obtain ⟨ha0, ha1⟩ := ha w5 h5.drop.drop.drop.drop
   refine LdI.at ha0 (LdI.at ha1 ?_)
   refine StC.of h5 0 rfl (off := 0) rfl rfl fun w6 h6 => StC.of h6 0 rfl (off := 1) rfl (add_mk _ _ _) fun w7 h7 => key w7 ?_
   have : padP l i = q := by unfold padP; rw [hq]
   rw [this]
   exact h7
  ·refine cond_f (by simp; omega) (key w5 ?_)
   have : padP l i = (0, 0) := by unfold padP; rw [List.getElem?_eq_none (by omega)]
   rw [this]
   exact h5
 ·have : i = 12 := by omega
  subst this
  refine cond_f (by simp) ?_
  refine LdP.of h2 2 rfl (off := 0) rfl rfl ?_
  have hox : E.ov s1 x = some ⟨tag, 24, mixW (padW l) ws 24⟩ := by rw [hov1, updO_self]
  have hml := mix_len (T := padW l) (ws := ws) (j := 24) (by omega) (by omega)
  have el : IntKind.wrap .u64 ((l.length : Nat) : Int) = ((l.length : Nat) : Int) := wrapU64 (by omega) (by omega)
  rw [el]
  refine esw_c h2 hm1.inv (i := 0) hox (hm1.ok _ hx) (by show 24 + 0 < (mixW (padW l) ws 24).length; omega) rfl (by omega) ?_
  intro s3 w9 a1 a2 a3
  refine ⟨_, rfl, s3, rfl, by simpa using hm1.trans a1, ?_, (outS a3).drop⟩
  rw [a2, hov1, updO_updO]
  congr 2
  show (mixW (padW l) ws 24).set (24 + 0) l.length = nodeW l
  unfold mixW
  rw [List.take_of_length_le (by omega), List.set_append_right _ _ (by omega), hT]
  have : ∃ z, ws.drop 24 = [z] := by
   rw [List.drop_eq_getElem_cons (by omega), List.drop_eq_nil_of_le (by omega)]; exact ⟨_, rfl⟩
  obtain ⟨z, hz⟩ := this
  rw [hz]; rfl
end
end Go.Proofs.YtpicofkhioalkaaGreat
/- What node, newKey, set and topped come to. -/
set_option maxRecDepth 100000
namespace Go.Proofs.YtpicofkhioalkaaGreat
open Go Go.Lw Go.Wd Go.Am Go.Tb Go.Hm Go.Kd Go.Td
theorem trv_ld {L : List HP} {w : World} {d b t : Nat} (h : Sat L w) (k : Nat) (hk : L[k]? = some (Row d (trc b t) 73)) :
  LdP w (⟨d, 0, none⟩) fun p => LdI .u64 w (Addr.add (⟨d, 0, none⟩) 1) fun n => Value.agg #[.pointer p, .int .u64 n] = .agg #[.pointer (some ⟨b, 0, none⟩), .int .u64 (t : Int)] :=
 LdP.of h k hk (off := 0) rfl rfl (LdI.of h k hk (off := 1) rfl (add_mk _ _ _) rfl)
section
variable {v : Value} {b : Nat} {E : Eng v b} {s : E.σ} {F : List HP} {w : World}
theorem Eng.Mv.some {s s' : E.σ} {k m : Nat} (h : E.Mv s s' k m) {y : Nat} (hy : y = 0 ∨ E.ok s y) : y = 0 ∨ E.ok s' y := hy.imp id (h.ok y)
theorem node_c (hs : Sat (E.S s F) w) (hi : E.inv s) (t : Nat) {inner : Bool} {l : List (Nat × Nat)} (hl : l.length <= 12)
  (hok : ∀ p ∈ l, (p.1 = 0 ∨ E.ok s p.1) /\ (p.2 = 0 ∨ E.ok s p.2)) (h4 : (E.H s).m.top + 26 <= (E.H s).m.n) (h5 : (E.H s).t.count < (E.H s).t.n) {p : Option Addr} {n c : Nat} (hn : n = l.length) (hr : RdP F p l) :
  Calls Tryz.prog 99 #[trv b t, .slice p n c, .bool inner] w fun e w' =>
   ∃ (s' : E.σ) (x : Nat), e = .returned (.int .u64 (x : Int)) /\ E.Mv s s' 1 26 /\ x ≠ 0 /\ E.ov s x = none /\ E.ok s' x /\ E.ov s' = updO (E.ov s) x (nodeO inner l) /\ Sat (E.S s' F) w' := by
 subst hn
 refine S_tree_tree_node_ok _ _ _ _ _ _ _ _ ?_
 unfold S_tree_tree_node
 refine NewC.ofRow hs fun d w1 h1 => ?_
 have h2 : Sat (E.S s (Row d (trc b t) 73 :: F)) w1 := inS h1
 intro k0 hk0
 have key : ∀ tag : Nat, tag = (if inner then 22 else 21) -> k0 (tag : Int) w1 := by
  intro tag ht
  refine hk0 _ _ ?_
  unfold S_tree_tree_node_j0
  refine LdP.of h2 2 rfl (off := 0) rfl rfl ?_
  refine emk_c h2 hi (tag := tag) (refs := 24) (size := 25) (by subst ht; cases inner <;> decide) (by omega) (by omega) (by omega) h5 ?_
  intro s' x w2 m1 x0 xl xn xk xo h3
  refine ⟨_, _, rfl, ?_⟩
  refine (must_c 5 (by rfl)).mono ?_
  rintro e w3 ⟨rfl, rfl⟩
  refine ⟨rfl, ?_⟩
  refine LdP.of h3 2 rfl (off := 0) rfl rfl (LdI.of h3 2 rfl (off := 1) rfl (add_mk _ _ _) ?_)
  have hrF : RdP (Row d (trc b t) 73 :: F) p l := ⟨fun w h => hr.reads w h.drop, hr.some⟩
  refine (write_c h3 m1.inv t (x := x) (tag := tag) (ws := List.replicate 25 0) (by rw [xo, updO_self]) (by simp) xk hl (fun q hq => ⟨m1.some (hok q hq).1, m1.some (hok q hq).2⟩) rfl hrF).mono ?_
  rintro e w4 ⟨s2, rfl, m2, o2, h4⟩
  refine ⟨rfl, s2, x, rfl, by simpa using m1.trans m2, x0, xn, m2.ok x xk, ?_, (outS h4).drop⟩
  rw [o2, xo, updO_updO]
  unfold nodeO
  rw [<- ht]
 cases inner
 ·exact cond_f rfl (key 21 rfl)
 ·exact cond_t rfl (key 22 rfl)
theorem newKey_c (hs : Sat (E.S s F) w) (hi : E.inv s) (t : Nat) {x : K} (hx : x.length <= 16384) (h4 : (E.H s).m.top + 2 + nWords x <= (E.H s).m.n) (h5 : (E.H s).t.count < (E.H s).t.n) :
  Calls Tryz.prog 100 #[trv b t, .string (str x)] w fun e w' =>
   ∃ (s' : E.σ) (k : Nat), e = .returned (.int .u64 (k : Int)) /\ E.Mv s s' 1 (2 + nWords x) /\ k ≠ 0 /\ E.ov s k = none /\ E.ok s' k /\ E.ov s' = updO (E.ov s) k (keyO x) /\ Sat (E.S s' F) w' := by
 refine S_tree_tree_newKey_ok _ _ _ _ _ ?_
 unfold S_tree_tree_newKey
 have hlen := packW_len x
 have hnw : nWords x <= 2048 := by unfold nWords; omega
 refine NewC.ofRow hs fun d w1 h1 => ?_
 refine (tpacked_c (by omega) h1).mono ?_
 rintro e w2 ⟨p, c, rfl, h2⟩
 refine ⟨_, _, _, rfl, ?_⟩
 have h3 : Sat (E.S s (Row d (trc b t) 73 :: Own 32 1 p (packW x).length c (words (packW x)) :: F)) w2 := (h2.p1.pull 3 rfl).pull 3 rfl
 refine LdP.of h3 2 rfl (off := 0) rfl rfl ?_
 have e1 : ((((packW x).length : Nat)) : Int) = ((1 + nWords x : Nat) : Int) := by rw [hlen]
 rw [e1]
 refine emk_c h3 hi (tag := 23) (refs := 0) (size := 1 + nWords x) (by omega) (by omega) (by omega) (by omega) h5 ?_
 intro s1 k w3 m1 x0 xl xn xk xo h4
 refine ⟨_, _, rfl, ?_⟩
 refine (must_c 5 (by rfl)).mono ?_
 rintro e w4 ⟨rfl, rfl⟩
 refine ⟨rfl, ?_⟩
 have hrl : (List.replicate (1 + nWords x) 0).length = 1 + nWords x := by simp
 refine ⟨fun n w' => ∃ i s', n = (i : Nat) /\ i <= 1 + nWords x /\ E.Mv s s' 1 (2 + nWords x) /\ E.ok s' k /\ E.ov s' = updO (E.ov s) k ⟨23, 0, mixW (packW x) (List.replicate (1 + nWords x) 0) i⟩ /\
   Sat (E.S s' (Row d (trc b t) 73 :: Own 32 1 p (packW x).length c (words (packW x)) :: F)) w', fun n _ => (((1 + nWords x : Nat) : Int) - n).toNat,
  ⟨0, s1, rfl, by omega, by have : 2 + nWords x = 1 + (1 + nWords x) := by omega
                            rw [this]; exact m1, xk, xo, h4⟩, ?_⟩
 rintro n w5 ⟨i, s2, rfl, hi2, m2, k2, o2, h5⟩
 unfold S_tree_tree_newKey_l0
 rw [e1]
 by_cases hlt : i < 1 + nWords x
 ·refine cond_t (by simp; omega) ?_
  obtain ⟨y, hy⟩ : ∃ y, (packW x)[i]? = some y := ⟨_, List.getElem?_eq_getElem (by omega)⟩
  have hyl : y < 18446744073709551616 := packW_lt x (by omega) y (List.mem_of_getElem? hy)
  refine own_word h5 3 rfl rfl hy rfl ?_
  refine LdP.of h5 2 rfl (off := 0) rfl rfl ?_
  have hml := mix_len (T := packW x) (ws := List.replicate (1 + nWords x) 0) (j := i) (by omega) (by omega)
  refine esw_c h5 m2.inv (i := i) (o := ⟨23, 0, mixW (packW x) (List.replicate (1 + nWords x) 0) i⟩) (by rw [o2, updO_self]) k2 (by show 0 + i < (mixW _ _ _).length; omega) rfl hyl ?_
  intro s3 w6 a1 a2 a3
  refine ⟨_, rfl, ⟨i + 1, s3, by rw [wrapI64 (by omega) (by omega)]; omega, by omega, by simpa using m2.trans a1, a1.ok k k2, ?_, a3⟩, by simp only [wrapI64 (n := (i : Int) + 1) (by omega) (by omega)]; omega⟩
  rw [a2, o2, updO_updO]
  congr 2
  show (mixW _ _ i).set (0 + i) y = _
  rw [Nat.zero_add]
  exact mix_set hy (by omega)
 ·have : i = 1 + nWords x := by omega
  subst this
  refine cond_f (by simp) ⟨s2, k, rfl, m2, x0, xn, k2, ?_, (outS (outS h5).drop).drop⟩
  rw [o2]
  unfold keyO mixW
  rw [List.take_of_length_le (by omega), List.drop_eq_nil_of_le (by omega), List.append_nil]
theorem tset_c (hs : Sat (E.S s F) w) (hi : E.inv s) {t : Nat} {top0 n0 d0 top n d : Nat} (ho : E.ov s t = some (treeO top0 n0 d0)) (ht : E.ok s t) (htop : top = 0 ∨ E.ok s top) (hn : n < 9223372036854775808) (hd : d < 9223372036854775808) :
  Calls Tryz.prog 92 #[trv b t, .int .u64 (top : Int), .int .i64 (n : Int), .int .i64 (d : Int)] w fun e w' =>
   ∃ s', e = .returned (.tuple #[]) /\ E.Mv s s' 0 0 /\ E.ov s' = updO (E.ov s) t (treeO top n d) /\ Sat (E.S s' F) w' := by
 refine S_tree_tree_set_ok _ _ _ _ _ _ _ ?_
 unfold S_tree_tree_set
 refine NewC.ofRow hs fun r w1 h1 => ?_
 have h2 : Sat (E.S s (Row r (trc b t) 73 :: F)) w1 := inS h1
 refine LdP.of h2 2 rfl (off := 0) rfl rfl (LdI.of h2 2 rfl (off := 1) rfl (add_mk _ _ _) ?_)
 refine esr_c h2 hi (i := 0) ho ht (by show 0 < 1; omega) rfl htop ?_
 intro s1 w2 m1 o1 h3
 refine ⟨_, rfl, ?_⟩
 refine LdP.of h3 2 rfl (off := 0) rfl rfl (LdI.of h3 2 rfl (off := 1) rfl (add_mk _ _ _) ?_)
 rw [wrapU64 (by omega) (by omega)]
 refine esw_c h3 m1.inv (i := 0) (by rw [o1, updO_self]) (m1.ok _ ht) (by show 1 + 0 < 3; omega) rfl (by omega) ?_
 intro s2 w3 m2 o2 h4
 refine ⟨_, rfl, ?_⟩
 refine LdP.of h4 2 rfl (off := 0) rfl rfl (LdI.of h4 2 rfl (off := 1) rfl (add_mk _ _ _) ?_)
 rw [wrapU64 (by omega) (by omega)]
 refine esw_c h4 m2.inv (i := 1) (by rw [o2, updO_self]) (m2.ok _ (m1.ok _ ht)) (by show 1 + 1 < 3; omega) rfl (by omega) ?_
 intro s3 w4 m3 o3 h5
 refine ⟨_, rfl, s3, rfl, by simpa using (m1.trans m2).trans m3, ?_, (outS h5).drop⟩
 rw [o3, o2, o1, updO_updO, updO_updO]
 rfl
end
end Go.Proofs.YtpicofkhioalkaaGreat
