/- One deed done to an arena and to the document's own: both answer alike. -/
import Derived.Test.YtmcifhineibhpaaARefC
import Derived.Test.YtmcifhineibhpaaAKnown
namespace Go.Proofs.Ytmcifhineibhpaa
open Go Go.Lw Go.Tb Go.Wd Go.Am

theorem IdxC.of0 {p : Option Addr} {l j : Nat} {a : Addr} {K : Addr → Prop} (hp : ∃ a', p = some a' ∧ a = a'.add j) (hj : j < l) (h : K a) : IdxC p l (j : Int) 1 K := by
  obtain ⟨a', rfl, rfl⟩ := hp
  exact ⟨by omega, by omega, by rw [Int.toNat_natCast, Nat.mul_one]; exact h⟩
section
variable {W : World} {S : Mem} {F : List HP} {w : World} {m : Am} {r : Rm} {b : Nat}
theorem findI_toNat {at_ : Int} {o : Ob} (h : m.findI at_ = some o) : ∃ k : Nat, at_ = k ∧ m.find k = some o ∧ at_.toNat = k := by
  obtain ⟨k, rfl, h2⟩ := findI_some h
  exact ⟨k, rfl, h2, Int.toNat_natCast k⟩

theorem play_c (hr : RAr S m r) {d0 d1 d2 d3 d4 : Int} {z : Nat} (hz : z < 18446744073709551616) (hs : Sat (Arena m b :: Ro W S :: F) w) :
    Calls Try.prog 24 #[.pointer (some ⟨b, 0, none⟩), r.agg, .agg #[.int .i64 d0, .int .i64 d1, .int .i64 d2, .int .i64 d3, .int .i64 d4, .int .u64 (z : Int)]] w fun e w' =>
      ∃ S' m' r', Ext S S' ∧ RAr S' m' r' ∧ Ret (.tuple #[r'.agg, .bool true]) (Sat (Arena m' b :: Ro W S' :: F)) e w' := by
  have hm := (arena_open hs).1
  refine S_law7_play_ok _ _ _ _ _ _ _ _ _ _ _ _ _ _ _ _ _ _ ?_
  unfold S_law7_play
  refine NewC.ofRow hs fun b0 w1 h1 => NewC.ofRow h1 fun b1 w2 h2 => NewC.ofRow h2 fun b2 w3 h3 => ?_
  have h3 : Sat (Row b2 rm0 61 :: Row b1 [.int .i64 d0, .int .i64 d1, .int .i64 d2, .int .i64 d3, .int .i64 d4, .int .u64 (z : Int)] 35 :: Row b0 r.cells 61 :: Arena m b :: Ro W S :: F) w3 := h3
  clear h1 h2 hs
  have hA : Sat (Arena m b :: Row b2 rm0 61 :: Row b1 [.int .i64 d0, .int .i64 d1, .int .i64 d2, .int .i64 d3, .int .i64 d4, .int .u64 (z : Int)] 35 :: Row b0 r.cells 61 :: Ro W S :: F) w3 := h3.pull 3 rfl
  have beq : ∀ x : Int, (x == x) = true := fun x => beq_self_eq_true x
  have clean : ∀ {S' : Mem} {m' : Am} {w : World} {X Y Z : HP}, Sat (Ro W S' :: Arena m' b :: X :: Y :: Z :: F) w → Sat (Arena m' b :: Ro W S' :: F) w := fun h =>
    ((((h.pull 2 rfl).drop.pull 2 rfl).drop.pull 2 rfl).drop).pull 1 rfl
  refine LdI.of h3 1 rfl (off := 0) rfl (by simp) ?_
  by_cases c3 : d0 ≤ 3
  · refine cond_t (by simpa using c3) ?_
    refine LdI.of h3 1 rfl (off := 2) rfl (by simp [add_mk]) (LdI.of h3 1 rfl (off := 3) rfl (by simp [add_mk]) (LdI.of h3 1 rfl (off := 4) rfl (by simp [add_mk]) (LdI.of h3 1 rfl (off := 1) rfl (by simp [add_mk]) ?_)))
    have both : ∃ (m' : Am) (id er : Int), Calls Try.prog 10 #[.pointer (some ⟨b, 0, none⟩), .int .i64 d2, .int .i64 d3, .int .i64 d4, .int .i64 d1] w3 (Ret (.tuple #[.int .i64 id, .int .i64 er]) (Sat (Arena m' b :: Row b2 rm0 61 :: Row b1 [.int .i64 d0, .int .i64 d1, .int .i64 d2, .int .i64 d3, .int .i64 d4, .int .u64 (z : Int)] 35 :: Row b0 r.cells 61 :: Ro W S :: F))) ∧
        ∀ (F : List HP) (w : World), Sat (Ro W S :: F) w → Calls Try.prog 34 #[r.agg, .int .i64 d2, .int .i64 d3, .int .i64 d4, .int .i64 d1] w fun e w' => ∃ S' r', Ext S S' ∧ RAr S' m' r' ∧ Ret (.tuple #[r'.agg, .int .i64 id, .int .i64 er]) (Sat (Ro W S' :: F)) e w' := by
      by_cases hf : Fit d2 d3 d4 d1
      · have hf' := hf
        unfold Fit at hf'
        obtain ⟨tag, rfl⟩ := Int.eq_ofNat_of_zero_le (show 0 ≤ d2 by omega)
        obtain ⟨refs, rfl⟩ := Int.eq_ofNat_of_zero_le (show 0 ≤ d3 by omega)
        obtain ⟨size, rfl⟩ := Int.eq_ofNat_of_zero_le (show 0 ≤ d4 by omega)
        obtain ⟨owner, rfl⟩ := Int.eq_ofNat_of_zero_le (show 0 ≤ d1 by omega)
        by_cases hn : m.n < m.top + 1 + size
        · refine ⟨m, 0, 5, alloc2_full hA hf (by omega), fun F w hs => (ralloc_c hr hm hf hs).mono fun e w' h => ?_⟩
          rw [if_pos hn] at h
          exact ⟨S, r, Ext.refl S, hr, h⟩
        · refine ⟨m.alloc (Ob.fresh tag refs size owner), (m.top : Int), 0, alloc2 hA hf (by omega), fun F w hs => (ralloc_c hr hm hf hs).mono fun e w' h => ?_⟩
          rw [if_neg hn] at h
          exact h
      · exact ⟨m, 0, 1, alloc2_arg hA hf, fun F w hs => (ralloc_no hr hf hs).mono fun e w' h => ⟨S, r, Ext.refl S, hr, h⟩⟩
    obtain ⟨m', id, er, hc, hS⟩ := both
    refine hc.mono ?_
    rintro e w4 ⟨rfl, h4⟩
    refine ⟨_, _, rfl, ?_⟩
    refine ldRm h4 3 rfl ?_
    refine LdI.of h4 2 rfl (off := 2) rfl (by simp [add_mk]) (LdI.of h4 2 rfl (off := 3) rfl (by simp [add_mk]) (LdI.of h4 2 rfl (off := 4) rfl (by simp [add_mk]) (LdI.of h4 2 rfl (off := 1) rfl (by simp [add_mk]) ?_)))
    refine (hS _ _ (h4.pull 4 rfl)).mono ?_
    rintro e w5 ⟨S', r', e1, hr', rfl, h5⟩
    refine ⟨_, _, _, _, _, _, _, _, _, _, _, rfl, ?_⟩
    refine NewC.ofRow h5 fun b4 w6 h6 => stRow5 h6 0 rfl fun w7 h7 => ?_
    refine ldRm (r := r') h7 0 rfl ?_
    refine cond_t (beq er) ?_
    refine stRow5 (c0 := .int .i64 0) (c1 := .slice none 0 0) (c2 := .slice none 0 0) (c3 := .int .i64 0) (c4 := .bool false) h7 3 rfl fun w8 h8 => ?_
    refine ldRm (r := r') h8 3 rfl ?_
    rw [beq id]
    exact ⟨S', m', r', e1, hr', rfl, clean h8.drop⟩
  refine cond_f (by simpa using c3) ?_
  refine LdI.of h3 1 rfl (off := 0) rfl (by simp) ?_
  by_cases c5 : d0 ≤ 5
  · refine cond_t (by simpa using c5) ?_
    refine LdI.of h3 1 rfl (off := 1) rfl (by simp [add_mk]) (LdI.of h3 1 rfl (off := 2) rfl (by simp [add_mk]) (LdI.of h3 1 rfl (off := 5) rfl (by simp [add_mk]) ?_))
    refine (put2 hA d1 d2 hz).mono ?_
    intro e w4 h4
    have both : ∃ (m' : Am) (ok : Bool), Ret (.int .i64 (bif ok then 0 else 1)) (Sat (Arena m' b :: Row b2 rm0 61 :: Row b1 [.int .i64 d0, .int .i64 d1, .int .i64 d2, .int .i64 d3, .int .i64 d4, .int .u64 (z : Int)] 35 :: Row b0 r.cells 61 :: Ro W S :: F)) e w4 ∧
        ∀ (F : List HP) (w : World), Sat (Ro W S :: F) w → Calls Try.prog 35 #[r.agg, .int .i64 d1, .int .i64 d2, .int .u64 (z : Int)] w fun e w' => ∃ S' r', Ext S S' ∧ RAr S' m' r' ∧ Ret (.tuple #[r'.agg, .bool ok]) (Sat (Ro W S' :: F)) e w' := by
      rcases h4 with ⟨hno, h4⟩ | ⟨k, j, o, rfl, rfl, hk, hj, h4⟩
      · refine ⟨m, false, h4, fun F w hs => (rput_c hr hm d1 d2 z hs).mono ?_⟩
        rintro e w' ⟨S', r', ok, e1, hh, h⟩
        cases ok
        · exact ⟨S', r', e1, hh.2, h⟩
        · obtain ⟨j, o, rfl, hj, ho, _⟩ := hh
          rw [ho] at hno
          simp [getO, hj] at hno
      · refine ⟨m.set k (o.put j z), true, h4, fun F w hs => (rput_c hr hm _ _ z hs).mono ?_⟩
        rintro e w' ⟨S', r', ok, e1, hh, h⟩
        have hfk : m.findI (k : Int) = some o := by rw [findI_nat]; exact hk
        cases ok
        · have := hh.1
          rw [hfk] at this
          simp [getO, hj] at this
        · obtain ⟨j', o', hj', _, ho', hr'⟩ := hh
          rw [hfk] at ho'
          cases ho'
          have : j = j' := by omega
          subst this
          rw [Int.toNat_natCast] at hr'
          exact ⟨S', r', e1, hr', h⟩
    clear h4
    obtain ⟨m', ok, ⟨rfl, h4⟩, hS⟩ := both
    refine ⟨_, rfl, ?_⟩
    refine ldRm h4 3 rfl ?_
    refine LdI.of h4 2 rfl (off := 1) rfl (by simp [add_mk]) (LdI.of h4 2 rfl (off := 2) rfl (by simp [add_mk]) (LdI.of h4 2 rfl (off := 5) rfl (by simp [add_mk]) ?_))
    refine (hS _ _ (h4.pull 4 rfl)).mono ?_
    rintro e w5 ⟨S', r', e1, hr', rfl, h5⟩
    refine ⟨_, _, _, _, _, _, _, _, _, _, rfl, ?_⟩
    refine NewC.ofRow h5 fun b4 w6 h6 => stRow5 h6 0 rfl fun w7 h7 => ?_
    refine ldRm (r := r') h7 0 rfl ?_
    refine cond_t (by cases ok <;> rfl) ?_
    cases ok
    · refine cond_f rfl ?_
      refine stRow5 (c0 := .int .i64 0) (c1 := .slice none 0 0) (c2 := .slice none 0 0) (c3 := .int .i64 0) (c4 := .bool false) h7 3 rfl fun w8 h8 => ?_
      refine ldRm (r := r') h8 3 rfl ?_
      exact ⟨S', m', r', e1, hr', rfl, clean h8.drop⟩
    · refine cond_t rfl ?_
      refine stRow5 (c0 := .int .i64 0) (c1 := .slice none 0 0) (c2 := .slice none 0 0) (c3 := .int .i64 0) (c4 := .bool false) h7 3 rfl fun w8 h8 => ?_
      refine ldRm (r := r') h8 3 rfl ?_
      exact ⟨S', m', r', e1, hr', rfl, clean h8.drop⟩
  refine cond_f (by simpa using c5) ?_
  refine LdI.of h3 1 rfl (off := 0) rfl (by simp) ?_
  by_cases c6 : d0 = 6
  · refine cond_t (by simpa using c6) ?_
    refine LdI.of h3 1 rfl (off := 1) rfl (by simp [add_mk]) (LdI.of h3 1 rfl (off := 2) rfl (by simp [add_mk]) ?_)
    refine (mark2 hA d1 _).mono ?_
    intro e w4 h4
    have both : ∃ (m' : Am) (ok : Bool), Ret (.int .i64 (bif ok then 0 else 1)) (Sat (Arena m' b :: Row b2 rm0 61 :: Row b1 [.int .i64 d0, .int .i64 d1, .int .i64 d2, .int .i64 d3, .int .i64 d4, .int .u64 (z : Int)] 35 :: Row b0 r.cells 61 :: Ro W S :: F)) e w4 ∧
        ∀ (F : List HP) (w : World), Sat (Ro W S :: F) w → Calls Try.prog 36 #[r.agg, .int .i64 d1, .bool (bAnd .i64 d2 1 == 1)] w fun e w' => ∃ S' r', Ext S S' ∧ RAr S' m' r' ∧ Ret (.tuple #[r'.agg, .bool ok]) (Sat (Ro W S' :: F)) e w' := by
      rcases h4 with ⟨hno, h4⟩ | ⟨k, o, rfl, hk, h4⟩
      · refine ⟨m, false, h4, fun F w hs => (rmark_c hr hm d1 _ hs).mono ?_⟩
        rintro e w' ⟨S', r', ok, e1, hh, h⟩
        cases ok
        · exact ⟨S', r', e1, hh.2, h⟩
        · obtain ⟨o, ho, _⟩ := hh
          rw [ho] at hno
          cases hno
      · refine ⟨m.set k (o.marked _), true, h4, fun F w hs => (rmark_c hr hm _ _ hs).mono ?_⟩
        rintro e w' ⟨S', r', ok, e1, hh, h⟩
        have hfk : m.findI (k : Int) = some o := by rw [findI_nat]; exact hk
        cases ok
        · have := hh.1
          rw [hfk] at this
          cases this
        · obtain ⟨o', ho', hr'⟩ := hh
          rw [hfk] at ho'
          cases ho'
          rw [Int.toNat_natCast] at hr'
          exact ⟨S', r', e1, hr', h⟩
    clear h4
    obtain ⟨m', ok, ⟨rfl, h4⟩, hS⟩ := both
    refine ⟨_, rfl, ?_⟩
    refine ldRm h4 3 rfl ?_
    refine LdI.of h4 2 rfl (off := 1) rfl (by simp [add_mk]) (LdI.of h4 2 rfl (off := 2) rfl (by simp [add_mk]) ?_)
    refine (hS _ _ (h4.pull 4 rfl)).mono ?_
    rintro e w5 ⟨S', r', e1, hr', rfl, h5⟩
    refine ⟨_, _, _, _, _, _, _, _, _, _, rfl, ?_⟩
    refine NewC.ofRow h5 fun b4 w6 h6 => stRow5 h6 0 rfl fun w7 h7 => ?_
    refine ldRm (r := r') h7 0 rfl ?_
    refine cond_t (by cases ok <;> rfl) ?_
    cases ok
    · refine cond_f rfl ?_
      refine stRow5 (c0 := .int .i64 0) (c1 := .slice none 0 0) (c2 := .slice none 0 0) (c3 := .int .i64 0) (c4 := .bool false) h7 3 rfl fun w8 h8 => ?_
      refine ldRm (r := r') h8 3 rfl ?_
      exact ⟨S', m', r', e1, hr', rfl, clean h8.drop⟩
    · refine cond_t rfl ?_
      refine stRow5 (c0 := .int .i64 0) (c1 := .slice none 0 0) (c2 := .slice none 0 0) (c3 := .int .i64 0) (c4 := .bool false) h7 3 rfl fun w8 h8 => ?_
      refine ldRm (r := r') h8 3 rfl ?_
      exact ⟨S', m', r', e1, hr', rfl, clean h8.drop⟩
  refine cond_f (by simpa using c6) ?_
  refine LdI.of h3 1 rfl (off := 0) rfl (by simp) ?_
  by_cases c7 : d0 = 7
  · refine cond_t (by simpa using c7) ?_
    refine LdI.of h3 1 rfl (off := 1) rfl (by simp [add_mk]) (LdI.of h3 1 rfl (off := 2) rfl (by simp [add_mk]) ?_)
    refine (get2 hA d1 d2).mono ?_
    rintro e w4 ⟨he, h4⟩
    have both : ∃ (y er : Int), e = .returned (.tuple #[.int .u64 y, .int .i64 er]) ∧ ((getO (m.findI d1) d2 = none ∧ y = 0 ∧ er = 1) ∨ ∃ v : Nat, getO (m.findI d1) d2 = some v ∧ y = v ∧ er = 0) := by
      cases hg : getO (m.findI d1) d2 with
      | none => rw [hg] at he; exact ⟨0, 1, he, .inl ⟨rfl, rfl, rfl⟩⟩
      | some v => rw [hg] at he; exact ⟨_, 0, he, .inr ⟨v, rfl, rfl, rfl⟩⟩
    obtain ⟨y, er, rfl, hg⟩ := both
    refine ⟨_, _, rfl, ?_⟩
    refine ldRm h4 3 rfl ?_
    refine LdI.of h4 2 rfl (off := 1) rfl (by simp [add_mk]) ?_
    refine (rat_c hr hm d1 (h4.pull 4 rfl)).mono ?_
    rintro e w5 ⟨x, ok, hx, hf, rfl, h5⟩
    refine ⟨_, _, _, _, _, _, _, _, rfl, ?_⟩
    refine NewC.ofRow h5 fun b3 w6 h6 => stRow5 h6 0 rfl fun w7 h7 => ?_
    have h7 : Sat (Row b3 x.cells 81 :: Ro W S :: Arena m b :: Row b2 rm0 61 :: Row b1 [.int .i64 d0, .int .i64 d1, .int .i64 d2, .int .i64 d3, .int .i64 d4, .int .u64 (z : Int)] 35 :: Row b0 r.cells 61 :: F) w7 := h7
    have fin : ∀ {w8 : World}, Sat (Row b3 x.cells 81 :: Ro W S :: Arena m b :: Row b2 r.cells 61 :: Row b1 [.int .i64 d0, .int .i64 d1, .int .i64 d2, .int .i64 d3, .int .i64 d4, .int .u64 (z : Int)] 35 :: Row b0 r.cells 61 :: F) w8 →
        ∃ S' m' r', Ext S S' ∧ RAr S' m' r' ∧ Ret (.tuple #[r'.agg, .bool true]) (Sat (Arena m' b :: Ro W S' :: F)) (.returned (.tuple #[r.agg, .bool true])) w8 := fun h => ⟨S, m, r, Ext.refl S, hr, rfl, clean h.drop⟩
    have bad : getO (m.findI d1) d2 = none → y = 0 ∧ er = 1 := fun h => by
      rcases hg with ⟨_, h1, h2⟩ | ⟨v, h1, _⟩
      · exact ⟨h1, h2⟩
      · rw [h] at h1; cases h1
    cases ok with
    | false =>
      obtain ⟨rfl, rfl⟩ := bad (by rw [hf.1]; rfl)
      refine cond_t rfl (ldRm h7 5 rfl (cond_t rfl ?_))
      refine stRow5 (c0 := .int .i64 0) (c1 := .slice none 0 0) (c2 := .slice none 0 0) (c3 := .int .i64 0) (c4 := .bool false) h7 3 rfl fun w8 h8 => ?_
      exact ldRm (r := r) h8 3 rfl (fin h8)
    | true =>
      have hf : m.findI d1 = some x.o := hf
      refine cond_f rfl ?_
      refine LdI.of h7 4 rfl (off := 2) rfl (by simp [add_mk]) ?_
      by_cases hi0 : d2 < 0
      · obtain ⟨rfl, rfl⟩ := bad (by rw [hf]; unfold getO; dsimp only; rw [if_neg (by omega)])
        refine cond_t (by simpa using hi0) (ldRm h7 5 rfl (cond_t rfl ?_))
        refine stRow5 (c0 := .int .i64 0) (c1 := .slice none 0 0) (c2 := .slice none 0 0) (c3 := .int .i64 0) (c4 := .bool false) h7 3 rfl fun w8 h8 => ?_
        exact ldRm (r := r) h8 3 rfl (fin h8)
      refine cond_f (by simpa using hi0) ?_
      obtain ⟨j, rfl⟩ := Int.eq_ofNat_of_zero_le (show 0 ≤ d2 by omega)
      refine LdI.of h7 4 rfl (off := 2) rfl (by simp [add_mk]) (LdS.of h7 0 rfl (off := 4) rfl (by simp [add_mk]) ?_)
      by_cases hij : j < x.o.w.length
      rotate_left
      · obtain ⟨rfl, rfl⟩ := bad (by rw [hf]; unfold getO; dsimp only; rw [if_pos (by omega), Int.toNat_natCast, List.getElem?_eq_none (by omega)])
        refine cond_t (by simp; omega) (ldRm h7 5 rfl (cond_t rfl ?_))
        refine stRow5 (c0 := .int .i64 0) (c1 := .slice none 0 0) (c2 := .slice none 0 0) (c3 := .int .i64 0) (c4 := .bool false) h7 3 rfl fun w8 h8 => ?_
        exact ldRm (r := r) h8 3 rfl (fin h8)
      refine cond_f (by simp; omega) ?_
      have hgo : getO (m.findI d1) (j : Int) = some x.o.w[j] := by rw [hf]; unfold getO; dsimp only; rw [if_pos (by omega), Int.toNat_natCast, List.getElem?_eq_getElem hij]
      obtain ⟨rfl, rfl⟩ : y = (x.o.w[j] : Int) ∧ er = 0 := by
        rcases hg with ⟨h1, _⟩ | ⟨v, h1, h2, h3⟩
        · rw [hgo] at h1; cases h1
        · rw [hgo] at h1; cases h1; exact ⟨h2, h3⟩
      have h8 := h7.drew
      refine ⟨fun w => ∃ (L : List HP) (i j' k : Nat), L[i]? = some (Row b0 r.cells 61) ∧ L[j']? = some (Row b3 x.cells 81) ∧ L[k]? = some (Row b1 [.int .i64 d0, .int .i64 d1, .int .i64 (j : Int), .int .i64 d3, .int .i64 d4, .int .u64 (z : Int)] 35) ∧ Has S w ∧ Sat L w, ⟨_, 5, 0, 4, rfl, rfl, rfl, h8.has 1 rfl, h8⟩, ?_⟩
      refine ⟨r.n, r.lp, r.ll, r.lc, r.hp, r.hl, r.hc, r.en, r.op, fun w ⟨L, i, _, _, hi, _, _, _, h⟩ => ldRm h i hi rfl, ?_⟩
      refine cond_t rfl ?_
      refine ⟨x.p, x.o.w.length, x.c, fun w ⟨L, _, j', _, _, hj, _, _, h⟩ => LdS.of h j' hj (off := 4) rfl (by simp [add_mk]) rfl, ?_⟩
      refine ⟨(j : Int), fun w ⟨L, _, _, k, _, _, hk, _, h⟩ => LdI.of h k hk (off := 2) rfl (by simp [add_mk]) rfl, ?_⟩
      have hwl : (wcells x.o.w)[j]? = some (.int .u64 (x.o.w[j] : Int)) := by unfold wcells; rw [List.getElem?_map, List.getElem?_eq_getElem hij]; rfl
      obtain ⟨pa, hpa, hrd⟩ := CRs.reads hx j _ hwl
      refine IdxC.of0 ⟨pa, hpa, rfl⟩ hij ?_
      refine ⟨(x.o.w[j] : Int), fun w ⟨L, _, _, _, _, _, _, hw, h⟩ => LdI.at (hrd w hw) rfl, ?_⟩
      refine stRow5 (c0 := .int .i64 0) (c1 := .slice none 0 0) (c2 := .slice none 0 0) (c3 := .int .i64 0) (c4 := .bool false) h8 3 rfl fun w9 h9 => ⟨⟨_, 5, 0, 4, rfl, rfl, rfl, h9.has 1 rfl, h9⟩, ?_⟩
      refine ldRm (r := r) h9 3 rfl ?_
      rw [beq]
      exact fin h9
  refine cond_f (by simpa using c7) ?_
  refine LdI.of h3 1 rfl (off := 0) rfl (by simp) ?_
  by_cases c8 : d0 = 8
  · refine cond_t (by simpa using c8) ?_
    refine (open2 hA).mono ?_
    intro e w4 h4
    have both : ∃ er : Int, er = (bif m.op then 16 else 0) ∧ Ret (.int .i64 er) (Sat (Arena (bif m.op then m else m.opened) b :: Row b2 rm0 61 :: Row b1 [.int .i64 d0, .int .i64 d1, .int .i64 d2, .int .i64 d3, .int .i64 d4, .int .u64 (z : Int)] 35 :: Row b0 r.cells 61 :: Ro W S :: F)) e w4 := by
      cases ho : m.op
      · rw [ho, if_neg (by simp)] at h4; exact ⟨0, rfl, h4⟩
      · rw [ho, if_pos rfl] at h4; exact ⟨16, rfl, h4⟩
    clear h4
    obtain ⟨er, her, rfl, h5⟩ := both
    refine ⟨_, rfl, ?_⟩
    refine ldRm h5 3 rfl ?_
    refine (ropen_c hr (h5.pull 4 rfl)).mono ?_
    rintro e w5 ⟨r', hr', rfl, h6⟩
    refine ⟨_, _, _, _, _, _, _, _, _, _, rfl, ?_⟩
    refine NewC.ofRow h6 fun b4 w6 h7 => stRow5 h7 0 rfl fun w7 h8 => ?_
    refine ldRm (r := r') h8 0 rfl ?_
    cases ho : m.op
    · rw [ho] at her hr' h8
      subst her
      refine cond_t rfl (cond_t rfl ?_)
      refine stRow5 (c0 := .int .i64 0) (c1 := .slice none 0 0) (c2 := .slice none 0 0) (c3 := .int .i64 0) (c4 := .bool false) h8 3 rfl fun w8 h9 => ?_
      refine ldRm (r := r') h9 3 rfl ?_
      exact ⟨S, _, r', Ext.refl S, hr', rfl, clean h9.drop⟩
    · rw [ho] at her hr' h8
      subst her
      refine cond_f rfl (cond_t rfl ?_)
      refine stRow5 (c0 := .int .i64 0) (c1 := .slice none 0 0) (c2 := .slice none 0 0) (c3 := .int .i64 0) (c4 := .bool false) h8 3 rfl fun w8 h9 => ?_
      refine ldRm (r := r') h9 3 rfl ?_
      exact ⟨S, _, r', Ext.refl S, hr', rfl, clean h9.drop⟩
  refine cond_f (by simpa using c8) ?_
  refine LdI.of h3 1 rfl (off := 0) rfl (by simp) ?_
  by_cases c10 : d0 ≤ 10
  · refine cond_t (by simpa using c10) ?_
    have both : ∃ (m' : Am) (x y er : Int), Calls Try.prog 20 #[.pointer (some ⟨b, 0, none⟩)] w3 (Ret (.tuple #[.int .i64 x, .int .i64 y, .int .i64 er]) (Sat (Arena m' b :: Row b2 rm0 61 :: Row b1 [.int .i64 d0, .int .i64 d1, .int .i64 d2, .int .i64 d3, .int .i64 d4, .int .u64 (z : Int)] 35 :: Row b0 r.cells 61 :: Ro W S :: F))) ∧
        ∀ (F : List HP) (w : World), Sat (Ro W S :: F) w → Calls Try.prog 39 #[r.agg] w fun e w' => ∃ S' r', Ext S S' ∧ RAr S' m' r' ∧ Ret (.tuple #[r'.agg, .int .i64 x, .int .i64 y, .int .i64 er]) (Sat (Ro W S' :: F)) e w' := by
      cases hh : m.high with
      | nil => exact ⟨m, 0, 0, _, keep2_no hA hh, fun F w hs => (rkeep_no hr hm hh hs).mono fun e w' h => ⟨S, r, Ext.refl S, hr, h⟩⟩
      | cons o l => exact ⟨m.keep, _, _, 0, keep2 hA hh, fun F w hs => rkeep_c hr hm hh hs⟩
    obtain ⟨m', x, y, er, hc, hS⟩ := both
    refine hc.mono ?_
    rintro e w4 ⟨rfl, h4⟩
    refine ⟨_, _, _, rfl, ?_⟩
    refine ldRm h4 3 rfl ?_
    refine (hS _ _ (h4.pull 4 rfl)).mono ?_
    rintro e w5 ⟨S', r', e1, hr', rfl, h5⟩
    refine ⟨_, _, _, _, _, _, _, _, _, _, _, _, rfl, ?_⟩
    refine NewC.ofRow h5 fun b4 w6 h6 => stRow5 h6 0 rfl fun w7 h7 => ?_
    refine ldRm (r := r') h7 0 rfl ?_
    refine cond_t (beq er) (cond_t (beq x) ?_)
    refine stRow5 (c0 := .int .i64 0) (c1 := .slice none 0 0) (c2 := .slice none 0 0) (c3 := .int .i64 0) (c4 := .bool false) h7 3 rfl fun w8 h8 => ?_
    refine ldRm (r := r') h8 3 rfl ?_
    rw [beq y]
    exact ⟨S', m', r', e1, hr', rfl, clean h8.drop⟩
  refine cond_f (by simpa using c10) ?_
  refine LdI.of h3 1 rfl (off := 0) rfl (by simp) ?_
  by_cases c11 : d0 = 11
  · refine cond_t (by simpa using c11) ?_
    have both : ∃ (m' : Am) (x er : Int), Calls Try.prog 17 #[.pointer (some ⟨b, 0, none⟩)] w3 (Ret (.tuple #[.int .i64 x, .int .i64 er]) (Sat (Arena m' b :: Row b2 rm0 61 :: Row b1 [.int .i64 d0, .int .i64 d1, .int .i64 d2, .int .i64 d3, .int .i64 d4, .int .u64 (z : Int)] 35 :: Row b0 r.cells 61 :: Ro W S :: F))) ∧
        ∀ (F : List HP) (w : World), Sat (Ro W S :: F) w → Calls Try.prog 40 #[r.agg] w fun e w' => ∃ S' r', Ext S S' ∧ RAr S' m' r' ∧ Ret (.tuple #[r'.agg, .int .i64 x, .int .i64 er]) (Sat (Ro W S' :: F)) e w' := by
      cases hh : m.high with
      | nil => exact ⟨m, 0, _, skip2_no hA hh, fun F w hs => (rskip_no hr hm hh hs).mono fun e w' h => ⟨S, r, Ext.refl S, hr, h⟩⟩
      | cons o l => exact ⟨m.skip, _, 0, skip2 hA hh, fun F w hs => (rskip_c hr hm hh hs).mono fun e w' ⟨r', h1, h2⟩ => ⟨S, r', Ext.refl S, h1, h2⟩⟩
    obtain ⟨m', x, er, hc, hS⟩ := both
    refine hc.mono ?_
    rintro e w4 ⟨rfl, h4⟩
    refine ⟨_, _, rfl, ?_⟩
    refine ldRm h4 3 rfl ?_
    refine (hS _ _ (h4.pull 4 rfl)).mono ?_
    rintro e w5 ⟨S', r', e1, hr', rfl, h5⟩
    refine ⟨_, _, _, _, _, _, _, _, _, _, _, rfl, ?_⟩
    refine NewC.ofRow h5 fun b4 w6 h6 => stRow5 h6 0 rfl fun w7 h7 => ?_
    refine ldRm (r := r') h7 0 rfl ?_
    refine cond_t (beq er) ?_
    refine stRow5 (c0 := .int .i64 0) (c1 := .slice none 0 0) (c2 := .slice none 0 0) (c3 := .int .i64 0) (c4 := .bool false) h7 3 rfl fun w8 h8 => ?_
    refine ldRm (r := r') h8 3 rfl ?_
    rw [beq x]
    exact ⟨S', m', r', e1, hr', rfl, clean h8.drop⟩
  refine cond_f (by simpa using c11) ?_
  refine (close2 hA).mono ?_
  intro e w4 h4
  have both : ∃ (m' : Am) (er : Int), Ret (.int .i64 er) (Sat (Arena m' b :: Row b2 rm0 61 :: Row b1 [.int .i64 d0, .int .i64 d1, .int .i64 d2, .int .i64 d3, .int .i64 d4, .int .u64 (z : Int)] 35 :: Row b0 r.cells 61 :: Ro W S :: F)) e w4 ∧
      ∀ (F : List HP) (w : World), Sat (Ro W S :: F) w → Calls Try.prog 41 #[r.agg] w fun e w' => ∃ S' r', Ext S S' ∧ RAr S' m' r' ∧ Ret (.tuple #[r'.agg, .int .i64 er]) (Sat (Ro W S' :: F)) e w' := by
    by_cases ho : m.op = true
    · rw [if_pos ho] at h4
      by_cases hh : m.high = []
      · rw [if_pos hh] at h4
        refine ⟨m.close, 0, h4, fun F w hs => (rclose_c hr hs).mono fun e w' h => ?_⟩
        rw [if_pos ho, if_pos hh] at h
        obtain ⟨r', h1, h2⟩ := h
        exact ⟨S, r', Ext.refl S, h1, h2⟩
      · rw [if_neg hh] at h4
        refine ⟨m, 20, h4, fun F w hs => (rclose_c hr hs).mono fun e w' h => ?_⟩
        rw [if_pos ho, if_neg hh] at h
        exact ⟨S, r, Ext.refl S, hr, h⟩
    · rw [if_neg ho] at h4
      refine ⟨m, 16, h4, fun F w hs => (rclose_c hr hs).mono fun e w' h => ?_⟩
      rw [if_neg ho] at h
      exact ⟨S, r, Ext.refl S, hr, h⟩
  clear h4
  obtain ⟨m', er, ⟨rfl, h4⟩, hS⟩ := both
  refine ⟨_, rfl, ?_⟩
  refine ldRm h4 3 rfl ?_
  refine (hS _ _ (h4.pull 4 rfl)).mono ?_
  rintro e w5 ⟨S', r', e1, hr', rfl, h5⟩
  refine ⟨_, _, _, _, _, _, _, _, _, _, rfl, ?_⟩
  refine NewC.ofRow h5 fun b4 w6 h6 => stRow5 h6 0 rfl fun w7 h7 => ?_
  refine cpRm (r := r') h7 0 rfl 3 rfl fun w8 h8 => ?_
  refine ldRm (r := r') h8 3 rfl ?_
  rw [beq er]
  exact ⟨S', m', r', e1, hr', rfl, clean h8.drop⟩
end
end Go.Proofs.Ytmcifhineibhpaa
