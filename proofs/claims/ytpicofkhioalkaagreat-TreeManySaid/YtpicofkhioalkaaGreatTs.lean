
/- What searching a row of kids comes to: at, way, and the ways that are chosen by a key. -/
import Derived.Test.YtpicofkhioalkaaGreatTo
import Derived.Test.YtpicofkhioalkaaGreatTu
set_option maxRecDepth 100000
namespace Go.Lw
theorem FnQ.mono {P : Program} {g : FuncId} {args : Array Value} {w : World} {R R' : (Value → Prop) → World → Prop} (h : FnQ P g args w R) (f : ∀ E w', R E w' → R' E w') : FnQ P g args w R' := by
  unfold FnQ at h ⊢
  cases hc : callable P g with
  | true => rw [hc] at h; exact Calls.mono h fun e w' hh => f _ _ hh
  | false => rw [hc] at h; exact f _ _ h
theorem FnQ.calls {P : Program} {g : FuncId} {args : Array Value} {w : World} {R : (Value → Prop) → World → Prop} (hc : callable P g = true) (h : Calls P g args w fun e w' => R (fun v => e = .returned v) w') : FnQ P g args w R := by
  unfold FnQ; rw [hc]; exact h
theorem LdStr.of {L : List HP} {w : World} {b off : Nat} {cs : List Value} {T : TypeId} {a : Addr} {n : ByteArray} {K : ByteArray → Prop} (hs : Sat L w) (i : Nat) (hi : L[i]? = some (Row b cs T)) (hc : cs[off]? = some (.string n)) (ha : a = ⟨b, off, none⟩) (h : K n) : LdStr w a K :=
  ⟨n, by rw [ha]; exact hs.cell i hi hc, h⟩
end Go.Lw
namespace Go.Proofs.YtpicofkhioalkaaGreat
open Go Go.Lw Go.Wd Go.Am Go.Tb Go.Hm Go.Kd Go.Td

theorem RdP.own {F : List HP} {k : Nat} {p : Option Addr} {l : List (Nat × Nat)} {n c : Nat} (hk : F[k]? = Option.some (Own 96 2 p n c (pairsV l))) (hn : n = l.length) (hne : l ≠ [] → ∃ a, p = Option.some a) : RdP F p l :=
  ⟨fun _ h => h.reads k hk, hne⟩
theorem own_ne {F : List HP} {w : World} {k : Nat} {p : Option Addr} {l : List (Nat × Nat)} {c : Nat} (hs : Sat F w) (hk : F[k]? = some (Own 96 2 p l.length c (pairsV l))) : l ≠ [] → ∃ a, p = some a := by
  intro h
  obtain ⟨g, hg⟩ := hs.own_some k hk (List.length_pos_iff.2 h)
  exact ⟨_, hg⟩
theorem RdP.tail {A : HP} {F : List HP} {p : Option Addr} {l : List (Nat × Nat)} (h : RdP F p l) : RdP (A :: F) p l := ⟨fun w hs => h.reads w hs.drop, h.some⟩

def cmpI (x key : K) : Int := if lt x key then -1 else if x = key then 0 else 1
section
variable {H : Hp} {v : Value} {b : Nat} {F : List HP} {w : World}
theorem cmp1_c {d t : Nat} {c : Kid} {key : K} (hs : Sat (HeapH H v b :: Row d (trc b t) 73 :: F) w) (hc : KeyOK H.ov c) (z : Nat) :
    Calls Tryz.prog 107 #[.agg #[.int .u64 (c.k : Int), .int .u64 (z : Int)], .string (str key), .pointer (some ⟨d, 0, none⟩)] w (Ret (.int .i64 (cmpI c.key key)) (Sat (HeapH H v b :: Row d (trc b t) 73 :: F))) := by
  refine S_tree_tree_at_1_ok _ _ _ _ _ _ ?_
  unfold S_tree_tree_at_1
  refine NewC.ofRow hs fun e w1 h1 => ?_
  refine LdP.of h1 2 rfl (off := 0) rfl rfl (LdI.of h1 2 rfl (off := 1) rfl (add_mk _ _ _) (LdI.of h1 0 rfl (off := 0) rfl rfl ?_))
  refine (tkey_c (h1.pull 1 rfl) t hc.2.1 hc.1).mono ?_
  rintro e w2 ⟨rfl, h2⟩
  refine ⟨_, rfl, ?_⟩
  refine (compare_c _ _ _).mono ?_
  rintro e w3 ⟨rfl, rfl⟩
  exact ⟨_, rfl, rfl, (Sat.p1 h2).drop⟩

theorem cmp_call : callable Tryz.prog 107 = true := by kernel_rfl
theorem half_i {i j : Nat} (hi : i ≤ 1048576) (hj : j ≤ 1048576) : IntKind.wrap .i64 (bShr .u64 (IntKind.wrap .u64 (IntKind.wrap .i64 ((i : Int) + (j : Int)))) 1) = (((i + j) / 2 : Nat) : Int) := by
  rw [wrapI64 (n := (i : Int) + j) (by omega) (by omega), wrapU64 (by omega) (by omega)]
  have e : ((i : Int) + (j : Int)) = ((i + j : Nat) : Int) := by omega
  rw [e]
  have e2 : bShr .u64 (((i + j : Nat)) : Int) 1 = (((i + j) / 2 ^ 1 : Nat) : Int) := shr_u64 (i + j) 1 (by omega)
  rw [e2, Nat.pow_one, wrapI64 (by omega) (by omega)]
theorem search_c {d t : Nat} {L : List Kid} {key : K} (hs : Sat (HeapH H v b :: Row d (trc b t) 73 :: F) w) (hk : Ks L) (hc : ∀ c ∈ L, KeyOK H.ov c) {p : Option Addr} {n c : Nat} (hn : n = L.length) (hl : L.length ≤ 1000) (hr : RdP F p (L.map Kid.pr)) :
    Calls Tryz.prog 106 #[.slice p n c, .string (str key), .func (.func 107) #[] #[.pointer (some ⟨d, 0, none⟩)]] w fun e w' =>
      ∃ i, At L key i ∧ e = .returned (.tuple #[.int .i64 (i : Int), .bool (same L key i)]) ∧ Sat (HeapH H v b :: Row d (trc b t) 73 :: F) w' := by
  subst hn
  refine S_slices_BinarySearchFunc_tree_pair_tree_pair_string_ok _ _ _ _ _ _ _ _ ?_
  unfold S_slices_BinarySearchFunc_tree_pair_tree_pair_string
  have hpair : ∀ (p q : Nat) (a b : Kid), p < q → L[p]? = some a → L[q]? = some b → lt a.key b.key = true := by
    intro p q a b hpq ha hb
    have hpl := get_lt ha; have hql := get_lt hb
    rw [List.getElem?_eq_getElem hpl] at ha; rw [List.getElem?_eq_getElem hql] at hb
    simp only [Option.some.injEq] at ha hb
    subst ha; subst hb
    exact List.pairwise_iff_getElem.1 hk p q hpl hql hpq
  refine ⟨fun i' j' w' => ∃ i j : Nat, i' = i ∧ j' = j ∧ i ≤ j ∧ j ≤ L.length ∧ (∀ q c, q < i → L[q]? = some c → lt c.key key = true) ∧ (∀ q c, j ≤ q → L[q]? = some c → lt c.key key = false) ∧ Sat (HeapH H v b :: Row d (trc b t) 73 :: F) w',
    fun i' j' _ => (j' - i').toNat, ⟨0, L.length, rfl, rfl, by omega, by omega, fun q c h => by omega, fun q c h hq => by have := get_lt hq; omega, hs⟩, ?_⟩
  rintro i' j' w1 ⟨i, j, rfl, rfl, hij, hjl, hlo, hhi, h1⟩
  unfold S_slices_BinarySearchFunc_tree_pair_tree_pair_string_l0
  by_cases hlt : i < j
  · refine cond_t (by simp; omega) ?_
    intro k0 hk0
    rw [half_i (by omega) (by omega)]
    obtain ⟨a, ha⟩ : ∃ a, L[(i + j) / 2]? = some a := ⟨_, List.getElem?_eq_getElem (by omega)⟩
    refine idxP hr h1.drop.drop (q := a.pr) (by simp) rfl (by rw [List.getElem?_map, ha]; rfl) fun ad had => ?_
    obtain ⟨ad0, ad1⟩ := had w1 h1.drop.drop
    refine LdI.at ad0 (LdI.at ad1 ?_)
    refine FnQ.calls cmp_call ?_
    refine (cmp1_c h1 (hc a (List.mem_of_getElem? ha)) a.x).mono ?_
    rintro e w2 ⟨rfl, h2⟩
    refine ⟨_, rfl, ?_⟩
    cases hcm : lt a.key key with
    | true =>
      refine cond_t (by unfold cmpI; rw [hcm]; rfl) (hk0 _ _ _ ?_)
      unfold S_slices_BinarySearchFunc_tree_pair_tree_pair_string_j0
      rw [wrapI64 (n := (((i + j) / 2 : Nat) : Int) + 1) (by omega) (by omega)]
      refine ⟨⟨(i + j) / 2 + 1, j, by omega, rfl, by omega, hjl, fun q c hq hqc => ?_, hhi, h2⟩, by dsimp only; omega⟩
      rcases Nat.lt_or_ge q ((i + j) / 2) with h3 | h3
      · exact lt_trans (hpair q _ c a h3 hqc ha) hcm
      · have : q = (i + j) / 2 := by omega
        subst this
        rw [ha] at hqc; cases hqc; exact hcm
    | false =>
      refine cond_f (by unfold cmpI; rw [hcm]; by_cases e : a.key = key <;> simp [e]) (hk0 _ _ _ ?_)
      unfold S_slices_BinarySearchFunc_tree_pair_tree_pair_string_j0
      refine ⟨⟨i, (i + j) / 2, rfl, rfl, by omega, by omega, hlo, fun q c hq hqc => ?_, h2⟩, by dsimp only; omega⟩
      rcases Nat.lt_or_ge ((i + j) / 2) q with h3 | h3
      · cases h4 : lt c.key key with
        | false => rfl
        | true => have := lt_trans (hpair _ q a c h3 ha hqc) h4; rw [hcm] at this; cases this
      · have : q = (i + j) / 2 := by omega
        subst this
        rw [ha] at hqc; cases hqc; exact hcm
  · have : i = j := by omega
    subst this
    refine cond_f (by simp) ?_
    by_cases hil : i < L.length
    · refine cond_t (by simp; omega) ?_
      obtain ⟨a, ha⟩ : ∃ a, L[i]? = some a := ⟨_, List.getElem?_eq_getElem hil⟩
      refine idxP hr h1.drop.drop (q := a.pr) (by simp) rfl (by rw [List.getElem?_map, ha]; rfl) fun ad had => ?_
      obtain ⟨ad0, ad1⟩ := had w1 h1.drop.drop
      refine LdI.at ad0 (LdI.at ad1 ?_)
      refine FnQ.calls cmp_call ?_
      refine (cmp1_c h1 (hc a (List.mem_of_getElem? ha)) a.x).mono ?_
      rintro e w2 ⟨rfl, h2⟩
      refine ⟨_, rfl, i, ⟨by omega, hlo, hhi⟩, ?_, h2⟩
      have hna := hhi i a (Nat.le_refl _) ha
      have : (cmpI a.key key == 0) = same L key i := by
        unfold cmpI same
        rw [hna, ha]
        by_cases e : a.key = key <;> simp [e]
      rw [this]
    · refine cond_f (by simp; omega) ⟨i, ⟨by omega, hlo, hhi⟩, ?_, h1⟩
      have : same L key i = false := by unfold same; rw [List.getElem?_eq_none (by omega)]
      rw [this]

theorem tat_c {t : Nat} {L : List Kid} {key : K} (hs : Sat (HeapH H v b :: F) w) (hk : Ks L) (hc : ∀ c ∈ L, KeyOK H.ov c) {p : Option Addr} {n c : Nat} (hn : n = L.length) (hl : L.length ≤ 1000) (hr : RdP F p (L.map Kid.pr)) :
    Calls Tryz.prog 56 #[trv b t, .slice p n c, .string (str key)] w fun e w' =>
      ∃ i, At L key i ∧ e = .returned (.tuple #[.int .i64 (i : Int), .bool (same L key i)]) ∧ Sat (HeapH H v b :: F) w' := by
  refine S_tree_tree_at_ok _ _ _ _ _ _ _ _ ?_
  unfold S_tree_tree_at
  refine NewC.ofRow hs fun d w1 h1 => ?_
  refine (search_c (h1.pull 1 rfl) hk hc hn hl hr).mono ?_
  rintro e w2 ⟨i, hi, rfl, h2⟩
  exact ⟨_, _, rfl, i, hi, rfl, (Sat.p1 h2).drop⟩
theorem tway_c {t : Nat} {L : List Kid} {key : K} (hs : Sat (HeapH H v b :: F) w) (hk : Ks L) (hc : ∀ c ∈ L, KeyOK H.ov c) {p : Option Addr} {n c : Nat} (hn : n = L.length) (hl : L.length ≤ 1000) (hr : RdP F p (L.map Kid.pr)) :
    Calls Tryz.prog 55 #[trv b t, .slice p n c, .string (str key)] w fun e w' =>
      ∃ i, At L key i ∧ e = .returned (.int .i64 (wayI L key i : Nat)) ∧ Sat (HeapH H v b :: F) w' := by
  refine S_tree_tree_way_ok _ _ _ _ _ _ _ _ ?_
  unfold S_tree_tree_way
  refine NewC.ofRow hs fun d w1 h1 => ?_
  refine LdP.of h1 0 rfl (off := 0) rfl rfl (LdI.of h1 0 rfl (off := 1) rfl (add_mk _ _ _) ?_)
  refine (tat_c (h1.pull 1 rfl) hk hc hn hl hr.tail).mono ?_
  rintro e w2 ⟨i, hi, rfl, h2⟩
  have h3 := (Sat.p1 h2).drop
  refine ⟨_, _, rfl, ?_⟩
  unfold wayI
  cases hsm : same L key i with
  | true => exact cond_t rfl ⟨i, hi, by rw [hsm]; rfl, h3⟩
  | false =>
    refine cond_f rfl ⟨i, hi, ?_, h3⟩
    have : i ≤ 1000 := Nat.le_trans hi.1 hl
    rw [wrapI64 (by omega) (by omega), hsm]
    simp only [Bool.false_eq_true, if_false]
    congr 2
    unfold iMax
    split <;> omega
end
end Go.Proofs.YtpicofkhioalkaaGreat
