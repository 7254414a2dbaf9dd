/- The document's own arena (ref7): marks, words, what comes next, the gap moved. -/
import Derived.Test.YtmcifhineibhpaaARefB
namespace Go.Proofs.Ytmcifhineibhpaa
open Go Go.Lw Go.Tb Go.Wd Go.Am

theorem ORs.idxS {S : Mem} {L : List Ob} {om : List Om} {p : Option Addr} {l c : Nat} (h : ORs S L om p l c) {q : Nat} {x : Om} (hx : om[q]? = some x) {K : Addr → Prop}
    (hk : ∀ a, (∀ j v, x.cells[j]? = some v → RdS S (a.add j) v) → K a) : IdxC p l (q : Int) 5 K := by
  have h1 := h.omlen; have h2 := h.len; have h3 := get_lt hx
  have h0 : (ocells om)[q * 5 + 0]? = some (.int .i64 (x.o.tag : Int)) := by rw [ocells_get hx (by omega)]; rfl
  obtain ⟨a, rfl, _⟩ := h.row.reads _ _ h0
  refine ⟨by omega, by omega, hk _ fun j v hj => ?_⟩
  have hlt : j < 5 := by have := get_lt hj; rwa [Om.len] at this
  obtain ⟨b, e1, h4⟩ := h.row.reads (q * 5 + j) v (by rw [ocells_get hx hlt]; exact hj)
  cases e1
  rw [add_add, Int.toNat_natCast]
  exact h4
theorem wcells_set (l : List Nat) (j x : Nat) : (wcells l).set j (.int .u64 (x : Int)) = wcells (l.set j x) := by unfold wcells; rw [List.map_set]
theorem ORs.tail {S : Mem} {o : Ob} {L : List Ob} {om : List Om} {p : Option Addr} {l c : Nat} (h : ORs S (o :: L) om p l c) : ORs S L (om.drop 1) (slAddr p c 1 5) (l - 1) (c - 1) := by
  have hl := h.len
  rw [List.length_cons] at hl
  refine ⟨by rw [List.map_drop, h.same]; rfl, fun x hx => h.words x (List.mem_of_mem_drop hx), ?_⟩
  rw [← ocells_drop1]
  exact h.row.from (by omega)

section
variable {W : World} {S : Mem} {F : List HP} {w : World} {m : Am} {r : Rm}
theorem rmark_c (hr : RAr S m r) (hm : m.WF) (at_ : Int) (on : Bool) (hs : Sat (Ro W S :: F) w) : Calls Try.prog 36 #[r.agg, .int .i64 at_, .bool on] w fun e w' =>
    ∃ S' r' ok, Ext S S' ∧ (bif ok then ∃ o, m.findI at_ = some o ∧ RAr S' (m.set at_.toNat (o.marked on)) r' else (m.findI at_ = none ∧ RAr S' m r')) ∧ Ret (.tuple #[r'.agg, .bool ok]) (Sat (Ro W S' :: F)) e w' := by
  refine S_ref7_Mark_ok _ _ _ _ _ _ _ _ _ _ _ _ _ ?_
  unfold S_ref7_Mark
  refine NewC.ofRow hs fun b0 w1 h1 => NewC.ofRow h1 fun b1 w2 h2 => ?_
  have h2 : Sat (Row b1 rm0 61 :: Row b0 r.cells 61 :: Ro W S :: F) w2 := h2
  refine ldRm h2 1 rfl ?_
  refine (rat_c hr hm at_ (h2.pull 2 rfl)).mono ?_
  rintro e w3 ⟨x, ok, hx, hf, rfl, h3⟩
  refine ⟨_, _, _, _, _, _, _, _, rfl, ?_⟩
  refine NewC.ofRow h3 fun b3 w4 h4 => stRow5 h4 0 rfl fun w5 h5 => ?_
  have h5 : Sat (Row b3 x.cells 81 :: Ro W S :: Row b1 rm0 61 :: Row b0 r.cells 61 :: F) w5 := h5
  cases ok with
  | false =>
    refine cond_t rfl (mvRm h5 3 rfl 2 rfl fun w6 h6 => ?_)
    exact ⟨S, r, false, Ext.refl S, ⟨hf.1, hr⟩, rfl, (((h6.drop).pull 1 rfl).drop.pull 1 rfl).drop⟩
  | true =>
    refine cond_f rfl ?_
    refine StC.of h5 0 rfl (off := 3) rfl (by simp [add_mk]) fun w6 h6 => ?_
    have h6 : Sat (Row b3 ({ x with o := x.o.marked on } : Om).cells 81 :: Ro W S :: Row b1 rm0 61 :: Row b0 r.cells 61 :: F) w6 := h6
    refine ldRm h6 3 rfl (ldOmRow (x := { x with o := x.o.marked on }) h6 0 rfl ?_)
    refine (rwith_c hr hm hf (x := { x with o := x.o.marked on }) hx (h6.pull 1 rfl)).mono ?_
    rintro e w7 ⟨S', r', e1, hr', rfl, h7⟩
    refine ⟨_, _, _, _, _, _, _, _, _, rfl, ?_⟩
    refine stRow5 (c0 := .int .i64 0) (c1 := .slice none 0 0) (c2 := .slice none 0 0) (c3 := .int .i64 0) (c4 := .bool false) h7 2 rfl fun w8 h8 => ?_
    refine ldRm (r := r') h8 2 rfl ?_
    exact ⟨S', r', true, e1, ⟨x.o, hf, hr'⟩, rfl, (((h8.pull 1 rfl).drop.pull 1 rfl).drop.pull 1 rfl).drop⟩

theorem rput_c (hr : RAr S m r) (hm : m.WF) (at_ i : Int) (z : Nat) (hs : Sat (Ro W S :: F) w) : Calls Try.prog 35 #[r.agg, .int .i64 at_, .int .i64 i, .int .u64 (z : Int)] w fun e w' =>
    ∃ S' r' ok, Ext S S' ∧ (bif ok then ∃ (j : Nat) (o : Ob), i = j ∧ j < o.w.length ∧ m.findI at_ = some o ∧ RAr S' (m.set at_.toNat (o.put j z)) r' else (getO (m.findI at_) i = none ∧ RAr S' m r')) ∧ Ret (.tuple #[r'.agg, .bool ok]) (Sat (Ro W S' :: F)) e w' := by
  refine S_ref7_Put_ok _ _ _ _ _ _ _ _ _ _ _ _ _ _ ?_
  unfold S_ref7_Put
  refine NewC.ofRow hs fun b0 w1 h1 => NewC.ofRow h1 fun b1 w2 h2 => ?_
  have h2 : Sat (Row b1 rm0 61 :: Row b0 r.cells 61 :: Ro W S :: F) w2 := h2
  refine ldRm h2 1 rfl ?_
  refine (rat_c hr hm at_ (h2.pull 2 rfl)).mono ?_
  rintro e w3 ⟨x, ok, hx, hf, rfl, h3⟩
  refine ⟨_, _, _, _, _, _, _, _, rfl, ?_⟩
  refine NewC.ofRow h3 fun b3 w4 h4 => stRow5 h4 0 rfl fun w5 h5 => ?_
  have h5 : Sat (Row b3 x.cells 81 :: Ro W S :: Row b1 rm0 61 :: Row b0 r.cells 61 :: F) w5 := h5
  cases ok with
  | false =>
    refine cond_t rfl (mvRm h5 3 rfl 2 rfl fun w6 h6 => ?_)
    exact ⟨S, r, false, Ext.refl S, ⟨by rw [hf.1]; rfl, hr⟩, rfl, (((h6.drop).pull 1 rfl).drop.pull 1 rfl).drop⟩
  | true =>
    have hf : m.findI at_ = some x.o := hf
    refine cond_f rfl ?_
    by_cases hi0 : i < 0
    · refine cond_t (by simpa using hi0) (mvRm h5 3 rfl 2 rfl fun w6 h6 => ?_)
      exact ⟨S, r, false, Ext.refl S, ⟨by rw [hf]; unfold getO; dsimp only; rw [if_neg (by omega)], hr⟩, rfl, (((h6.drop).pull 1 rfl).drop.pull 1 rfl).drop⟩
    refine cond_f (by simpa using hi0) ?_
    obtain ⟨j, rfl⟩ := Int.eq_ofNat_of_zero_le (show 0 ≤ i by omega)
    refine LdS.of h5 0 rfl (off := 4) rfl (by simp [add_mk]) ?_
    by_cases hij : j < x.o.w.length
    rotate_left
    · refine cond_t (by simp; omega) (mvRm h5 3 rfl 2 rfl fun w6 h6 => ?_)
      exact ⟨S, r, false, Ext.refl S, ⟨by rw [hf]; unfold getO; dsimp only; rw [if_pos (by omega), Int.toNat_natCast, List.getElem?_eq_none (by omega)], hr⟩, rfl, (((h6.drop).pull 1 rfl).drop.pull 1 rfl).drop⟩
    refine cond_f (by simp; omega) ?_
    refine LdS.of h5 0 rfl (off := 4) rfl (by simp [add_mk]) ?_
    have hlim := CRs.lim hx
    have h6 := h5.ownNil 33 1
    refine RunS.appRo eok_wd h6 0 rfl 2 rfl hx (by omega) (by omega) fun p1 c1 w6 h7 => ?_
    rw [List.nil_append, Nat.zero_add] at h7
    rw [Nat.zero_add]
    refine StC.of h7 1 rfl (off := 4) rfl (by simp [add_mk]) fun w7 h8 => ?_
    refine LdS.of h8 1 rfl (off := 4) rfl (by simp [add_mk]) ?_
    refine IdxC.ownAt h8 0 rfl (k := j) hij fun g hg => ?_
    have hwl : (wcells x.o.w)[j]? = some (.int .u64 (x.o.w[j] : Int)) := by unfold wcells; rw [List.getElem?_map, List.getElem?_eq_getElem hij]; rfl
    refine StC.ownAt h8 0 rfl hg (off := j) hwl (by simp) fun w8 h9 => ?_
    rw [wcells_set] at h9
    have h9 : Sat (Own 33 1 p1 x.o.w.length c1 (wcells (x.o.put j z).w) :: Row b3 (({ x with o := x.o.put j z, p := p1, c := c1 } : Om)).cells 81 :: Ro W S :: Row b1 rm0 61 :: Row b0 r.cells 61 :: F) w8 := by
      have e1 : (x.o.put j z).w.length = x.o.w.length := by simp [Ob.put]
      unfold Om.cells
      dsimp only
      rw [e1]
      exact h9
    have hcap := h9.own_cap 0 rfl
    obtain ⟨S1, e1, h10, h11⟩ := Sat.freezeAny ((h9.pull 2 rfl).pull 1 rfl)
    have hpl : (x.o.put j z).w.length = x.o.w.length := by simp [Ob.put]
    have hx' : OmR S1 ({ x with o := x.o.put j z, p := p1, c := c1 } : Om) := by
      refine ⟨by unfold wcells; rw [List.length_map, Nat.mul_one], by rw [hpl]; exact hlim, by rw [hpl]; exact hcap, fun u hu => ?_, h10⟩
      unfold wcells at hu
      obtain ⟨y, _, rfl⟩ := List.mem_map.1 hu
      rfl
    have h11 : Sat (Ro W S1 :: Row b3 (({ x with o := x.o.put j z, p := p1, c := c1 } : Om)).cells 81 :: Row b1 rm0 61 :: Row b0 r.cells 61 :: F) w8 := h11
    refine ldRm h11 3 rfl (ldOmRow (x := ({ x with o := x.o.put j z, p := p1, c := c1 } : Om)) h11 1 rfl ?_)
    refine (rwith_c (hr.mono e1) hm hf (x := ({ x with o := x.o.put j z, p := p1, c := c1 } : Om)) hx' h11).mono ?_
    rintro e w9 ⟨S', r', e2, hr', rfl, h12⟩
    refine ⟨_, _, _, _, _, _, _, _, _, rfl, ?_⟩
    refine stRow5 (c0 := .int .i64 0) (c1 := .slice none 0 0) (c2 := .slice none 0 0) (c3 := .int .i64 0) (c4 := .bool false) h12 2 rfl fun w10 h13 => ?_
    refine ldRm (r := r') h13 2 rfl ?_
    exact ⟨S', r', true, e1.trans e2, ⟨j, x.o, rfl, hij, hf, hr'⟩, rfl, (((h13.pull 1 rfl).drop.pull 1 rfl).drop.pull 1 rfl).drop⟩

theorem rnext_c (hr : RAr S m r) (hm : m.WF) (at_ : Int) (hs : Sat (Ro W S :: F) w) : Calls Try.prog 48 #[r.agg, .int .i64 at_] w fun e w' =>
    (m.findI at_ = none ∧ Ret (.tuple #[.int .i64 0, .bool false]) (Sat (Ro W S :: F)) e w') ∨
    ∃ o, m.findI at_ = some o ∧ Ret (.tuple #[.int .i64 ((m.next (at_.toNat + 1 + o.w.length) : Nat) : Int), .bool true]) (Sat (Ro W S :: F)) e w' := by
  have h1 := hm.low_le; have h2 := hm.hi_le; have h3 := hm.top; have h4 := hm.most; have hen := hr.en; have hop := hr.op
  obtain ⟨lo, hlo⟩ := hr.lo
  obtain ⟨hi, hhi⟩ := hr.hi
  have hll := hlo.len; have hhl := hhi.len; have ln1 := osz_len m.low
  refine S_ref7_Next_ok _ _ _ _ _ _ _ _ _ _ _ _ ?_
  unfold S_ref7_Next
  refine NewC.ofRow hs fun b0 w1 h5 => ?_
  have h5 : Sat (Row b0 r.cells 61 :: Ro W S :: F) w1 := h5
  refine ldRm h5 0 rfl ?_
  refine (rfind_c hr hm at_ (h5.pull 1 rfl)).mono ?_
  rintro e w3 ⟨hb, i, hf, rfl, h6⟩
  refine ⟨_, _, rfl, ?_⟩
  have h6 : Sat (Row b0 r.cells 61 :: Ro W S :: F) w3 := h6.pull 1 rfl
  cases hf with
  | none hn => exact cond_t rfl (.inl ⟨hn, rfl, h6.drop⟩)
  | high k o hk hat hfi _ =>
    obtain ⟨x, hx1, rfl, hx2⟩ := hhi.get hk
    have hlt := osz_lt hk
    refine cond_f (by simp) (cond_t rfl ?_)
    refine LdS.of h6 0 rfl (off := 2) rfl (by simp [add_mk]) (hhi.idx (h6.has 1 rfl) hx1 fun a ha => LdS.at (ha 4 _ rfl) ?_)
    refine .inr ⟨x.o, hfi, ?_, h6.drop⟩
    rw [wrapI64 (n := at_ + 1) (by omega) (by omega), wrapI64 (by omega) (by omega)]
    have e1 : m.next (at_.toNat + 1 + x.o.w.length) = at_.toNat + 1 + x.o.w.length := by
      unfold Am.next
      cases ho : m.op
      · rfl
      · have := hm.gap ho
        rw [show (at_.toNat + 1 + x.o.w.length == osz m.low) = false by simp; omega]; rfl
    rw [e1, show at_ + 1 + (x.o.w.length : Int) = ((at_.toNat + 1 + x.o.w.length : Nat) : Int) by omega]
  | low k o hk hat hfi _ =>
    obtain ⟨x, hx1, rfl, hx2⟩ := hlo.get hk
    have hlt := osz_lt hk
    have hkl := get_lt hk
    have hst := osz_step hk
    refine cond_f (by simp) (cond_f rfl ?_)
    refine LdS.of h6 0 rfl (off := 1) rfl (by simp [add_mk]) ?_
    rw [wrapI64 (n := ((k : Nat) : Int) + 1) (by omega) (by omega)]
    have val : IntKind.wrap .i64 (IntKind.wrap .i64 (at_ + 1) + (x.o.w.length : Int)) = ((at_.toNat + 1 + x.o.w.length : Nat) : Int) := by
      rw [wrapI64 (n := at_ + 1) (by omega) (by omega), wrapI64 (by omega) (by omega)]; omega
    by_cases hk1 : k + 1 < m.low.length
    · refine cond_t (by simp; omega) ?_
      refine LdS.of h6 0 rfl (off := 1) rfl (by simp [add_mk]) (hlo.idx (h6.has 1 rfl) hx1 fun a ha => LdS.at (ha 4 _ rfl) ?_)
      refine .inr ⟨x.o, hfi, ?_, h6.drop⟩
      rw [val]
      have hy : m.low[k + 1]? = some m.low[k + 1] := List.getElem?_eq_getElem hk1
      have hlt2 := osz_lt hy
      have e1 : m.next (at_.toNat + 1 + x.o.w.length) = at_.toNat + 1 + x.o.w.length := by
        unfold Am.next
        rw [show (at_.toNat + 1 + x.o.w.length == osz m.low) = false by simp; omega, Bool.and_false]; rfl
      rw [e1]
    · have hke : k + 1 = m.low.length := by omega
      have hfull : at_.toNat + 1 + x.o.w.length = osz m.low := by
        rw [hke, List.take_length] at hst
        omega
      refine cond_f (by simp; omega) ?_
      refine LdB.of h6 0 rfl (off := 4) rfl (by simp [add_mk]) ?_
      cases ho : m.op
      · rw [ho] at hop
        rw [hop]
        refine cond_t rfl ?_
        refine LdS.of h6 0 rfl (off := 1) rfl (by simp [add_mk]) (hlo.idx (h6.has 1 rfl) hx1 fun a ha => LdS.at (ha 4 _ rfl) ?_)
        refine .inr ⟨x.o, hfi, ?_, h6.drop⟩
        rw [val]
        have e1 : m.next (at_.toNat + 1 + x.o.w.length) = at_.toNat + 1 + x.o.w.length := by
          unfold Am.next
          rw [ho]; rfl
        rw [e1]
      · rw [ho] at hop
        rw [hop]
        refine cond_f rfl ?_
        refine LdI.of h6 0 rfl (off := 3) rfl (by simp [add_mk]) ?_
        refine .inr ⟨x.o, hfi, ?_, h6.drop⟩
        have e1 : m.next (at_.toNat + 1 + x.o.w.length) = m.hi := by
          unfold Am.next
          rw [ho, hfull]; simp
        rw [e1, hen]

theorem rfirst_c (hr : RAr S m r) (hm : m.WF) (hs : Sat (Ro W S :: F) w) : Calls Try.prog 47 #[r.agg] w (Ret (.int .i64 ((m.next 0 : Nat) : Int)) (Sat (Ro W S :: F))) := by
  have hen := hr.en; have hop := hr.op
  obtain ⟨lo, hlo⟩ := hr.lo
  have hll := hlo.len; have ln1 := osz_len m.low
  refine S_ref7_First_ok _ _ _ _ _ _ _ _ _ _ _ ?_
  unfold S_ref7_First
  refine NewC.ofRow hs fun b0 w1 h5 => ?_
  have h5 : Sat (Row b0 r.cells 61 :: Ro W S :: F) w1 := h5
  refine LdS.of h5 0 rfl (off := 1) rfl (by simp [add_mk]) ?_
  by_cases h0 : 0 < m.low.length
  · refine cond_t (by simp; omega) ⟨?_, h5.drop⟩
    have e1 : m.next 0 = 0 := by
      unfold Am.next
      rw [show (0 == osz m.low) = false by simp; omega, Bool.and_false]; rfl
    rw [e1]; rfl
  · refine cond_f (by simp; omega) ?_
    have hn : m.low = [] := List.eq_nil_of_length_eq_zero (by omega)
    refine LdB.of h5 0 rfl (off := 4) rfl (by simp [add_mk]) ?_
    cases ho : m.op
    · rw [ho] at hop
      rw [hop]
      refine cond_t rfl ⟨?_, h5.drop⟩
      unfold Am.next
      rw [ho]; rfl
    · rw [ho] at hop
      rw [hop]
      refine cond_f rfl (LdI.of h5 0 rfl (off := 3) rfl (by simp [add_mk]) ⟨?_, h5.drop⟩)
      unfold Am.next
      rw [ho, hn, hen]; rfl

theorem ropen_c (hr : RAr S m r) (hs : Sat (Ro W S :: F) w) : Calls Try.prog 38 #[r.agg] w fun e w' => ∃ r', RAr S (bif m.op then m else m.opened) r' ∧ Ret (.tuple #[r'.agg, .bool (!m.op)]) (Sat (Ro W S :: F)) e w' := by
  have hop := hr.op
  obtain ⟨lo, hlo⟩ := hr.lo
  refine S_ref7_Open_ok _ _ _ _ _ _ _ _ _ _ _ ?_
  unfold S_ref7_Open
  refine NewC.ofRow hs fun b0 w1 h1 => NewC.ofRow h1 fun b1 w2 h2 => ?_
  have h2 : Sat (Row b1 rm0 61 :: Row b0 r.cells 61 :: Ro W S :: F) w2 := h2
  refine LdB.of h2 1 rfl (off := 4) rfl (by simp [add_mk]) ?_
  cases ho : m.op
  · rw [ho] at hop
    rw [hop]
    refine cond_f rfl ?_
    refine StC.of h2 1 rfl (off := 4) rfl (by simp [add_mk]) fun w3 h3 => StC.of h3 1 rfl (off := 3) rfl (by simp [add_mk]) fun w4 h4 => ?_
    refine LdS.of h4 1 rfl (off := 1) rfl (by simp [add_mk]) ?_
    refine StC.of h4 1 rfl (off := 2) rfl (by simp [add_mk]) fun w5 h5 => StC.of h5 1 rfl (off := 1) rfl (by simp [add_mk]) fun w6 h6 => ?_
    refine mvRm (r := ⟨r.n, none, 0, 0, r.lp, r.ll, r.lc, 0, true⟩) h6 1 rfl 0 rfl fun w7 h7 => ?_
    exact ⟨⟨r.n, none, 0, 0, r.lp, r.ll, r.lc, 0, true⟩, ⟨hr.n, rfl, rfl, ⟨[], ORs.nil S⟩, ⟨lo, hlo⟩⟩, rfl, h7.drop.drop⟩
  · rw [ho] at hop
    rw [hop]
    refine cond_t rfl (mvRm h2 1 rfl 0 rfl fun w3 h3 => ?_)
    exact ⟨r, hr, rfl, h3.drop.drop⟩

theorem rgap_c (hr : RAr S m r) (hm : m.WF) (hs : Sat (Ro W S :: F) w) : Calls Try.prog 43 #[r.agg] w (Ret (.tuple #[.int .i64 ((bif m.op then osz m.low else 0 : Nat) : Int), .int .i64 (m.hi : Int)]) (Sat (Ro W S :: F))) := by
  have hop := hr.op; have hen := hr.en; have h1 := hm.low_le; have h3 := hm.top; have h4 := hm.most
  obtain ⟨lo, hlo⟩ := hr.lo
  refine S_ref7_Gap_ok _ _ _ _ _ _ _ _ _ _ _ ?_
  unfold S_ref7_Gap
  refine NewC.ofRow hs fun b0 w1 h5 => ?_
  have h5 : Sat (Row b0 r.cells 61 :: Ro W S :: F) w1 := h5
  refine LdB.of h5 0 rfl (off := 4) rfl (by simp [add_mk]) ?_
  cases ho : m.op
  · rw [ho] at hop
    rw [hop, (hm.shut ho).1]
    exact cond_t rfl ⟨rfl, h5.drop⟩
  · rw [ho] at hop
    rw [hop]
    refine cond_f rfl ?_
    have h6 := h5.drew
    refine ⟨fun w => ∃ L i, L[i]? = some (Row b0 r.cells 61) ∧ Sat L w, ⟨_, 0, rfl, h6⟩, ?_⟩
    refine ⟨r.lp, r.ll, r.lc, fun w ⟨L, i, hi, h⟩ => LdS.of h i hi (off := 1) rfl (by simp [add_mk]) rfl, ?_⟩
    refine ⟨r.en, fun w ⟨L, i, hi, h⟩ => LdI.of h i hi (off := 3) rfl (by simp [add_mk]) rfl, ?_⟩
    refine (rsize_c hlo (by omega) (h6.pull 1 rfl)).mono ?_
    rintro e w2 ⟨rfl, h7⟩
    refine ⟨_, rfl, ⟨_, 1, rfl, h7⟩, ?_, (h7.pull 1 rfl).drop⟩
    rw [hen]; rfl

theorem rclose_c (hr : RAr S m r) (hs : Sat (Ro W S :: F) w) : Calls Try.prog 41 #[r.agg] w fun e w' =>
    if m.op = true then (if m.high = [] then ∃ r', RAr S m.close r' ∧ Ret (.tuple #[r'.agg, .int .i64 0]) (Sat (Ro W S :: F)) e w' else Ret (.tuple #[r.agg, .int .i64 20]) (Sat (Ro W S :: F)) e w') else Ret (.tuple #[r.agg, .int .i64 16]) (Sat (Ro W S :: F)) e w' := by
  have hop := hr.op
  obtain ⟨hi, hhi⟩ := hr.hi
  have hhl := hhi.len
  refine S_ref7_Close_ok _ _ _ _ _ _ _ _ _ _ _ ?_
  unfold S_ref7_Close
  refine NewC.ofRow hs fun b0 w1 h1 => NewC.ofRow h1 fun b1 w2 h2 => ?_
  have h2 : Sat (Row b1 rm0 61 :: Row b0 r.cells 61 :: Ro W S :: F) w2 := h2
  refine LdB.of h2 1 rfl (off := 4) rfl (by simp [add_mk]) ?_
  cases ho : m.op
  · rw [ho] at hop
    rw [hop]
    refine cond_t rfl (mvRm h2 1 rfl 0 rfl fun w3 h3 => ?_)
    dsimp only
    rw [if_neg (by simp)]
    exact ⟨rfl, h3.drop.drop⟩
  · rw [ho] at hop
    rw [hop]
    refine cond_f rfl ?_
    refine LdS.of h2 1 rfl (off := 2) rfl (by simp [add_mk]) ?_
    by_cases h0 : m.high = []
    · refine cond_f (by rw [hhl, h0]; rfl) ?_
      refine StC.of h2 1 rfl (off := 4) rfl (by simp [add_mk]) fun w3 h3 => StC.of h3 1 rfl (off := 3) rfl (by simp [add_mk]) fun w4 h4 => ?_
      refine mvRm (r := { r with en := 0, op := false }) h4 1 rfl 0 rfl fun w5 h5 => ?_
      dsimp only
      rw [if_pos rfl, if_pos h0]
      exact ⟨{ r with en := 0, op := false }, ⟨hr.n, rfl, rfl, hr.lo, hr.hi⟩, rfl, h5.drop.drop⟩
    · have hpos : 0 < m.high.length := List.length_pos_iff.2 h0
      refine cond_t (by simp; omega) (mvRm h2 1 rfl 0 rfl fun w3 h3 => ?_)
      dsimp only
      rw [if_pos rfl, if_neg h0]
      exact ⟨rfl, h3.drop.drop⟩

theorem rskip_no (hr : RAr S m r) (hm : m.WF) (h0 : m.high = []) (hs : Sat (Ro W S :: F) w) : Calls Try.prog 40 #[r.agg] w (Ret (.tuple #[r.agg, .int .i64 0, .int .i64 (if m.op = true then 17 else 16)]) (Sat (Ro W S :: F))) := by
  have hop := hr.op
  obtain ⟨hi, hhi⟩ := hr.hi
  have hhl := hhi.len
  refine S_ref7_Skip_ok _ _ _ _ _ _ _ _ _ _ _ ?_
  unfold S_ref7_Skip
  refine NewC.ofRow hs fun b0 w1 h1 => NewC.ofRow h1 fun b1 w2 h2 => ?_
  have h2 : Sat (Row b1 rm0 61 :: Row b0 r.cells 61 :: Ro W S :: F) w2 := h2
  refine LdB.of h2 1 rfl (off := 4) rfl (by simp [add_mk]) ?_
  cases ho : m.op
  · rw [ho] at hop
    rw [hop]
    exact cond_t rfl (mvRm h2 1 rfl 0 rfl fun w3 h3 => ⟨by simp; rfl, h3.drop.drop⟩)
  · rw [ho] at hop
    rw [hop]
    refine cond_f rfl ?_
    refine LdS.of h2 1 rfl (off := 2) rfl (by simp [add_mk]) ?_
    exact cond_t (by rw [hhl, h0]; rfl) (mvRm h2 1 rfl 0 rfl fun w3 h3 => ⟨by simp; rfl, h3.drop.drop⟩)
theorem rkeep_no (hr : RAr S m r) (hm : m.WF) (h0 : m.high = []) (hs : Sat (Ro W S :: F) w) : Calls Try.prog 39 #[r.agg] w (Ret (.tuple #[r.agg, .int .i64 0, .int .i64 0, .int .i64 (if m.op = true then 17 else 16)]) (Sat (Ro W S :: F))) := by
  have hop := hr.op
  obtain ⟨hi, hhi⟩ := hr.hi
  have hhl := hhi.len
  refine S_ref7_Keep_ok _ _ _ _ _ _ _ _ _ _ _ ?_
  unfold S_ref7_Keep
  refine NewC.ofRow hs fun b0 w1 h1 => NewC.ofRow h1 fun b1 w2 h2 => ?_
  have h2 : Sat (Row b1 rm0 61 :: Row b0 r.cells 61 :: Ro W S :: F) w2 := h2
  refine LdB.of h2 1 rfl (off := 4) rfl (by simp [add_mk]) ?_
  cases ho : m.op
  · rw [ho] at hop
    rw [hop]
    exact cond_t rfl (mvRm h2 1 rfl 0 rfl fun w3 h3 => ⟨by simp; rfl, h3.drop.drop⟩)
  · rw [ho] at hop
    rw [hop]
    refine cond_f rfl ?_
    refine LdS.of h2 1 rfl (off := 2) rfl (by simp [add_mk]) ?_
    exact cond_t (by rw [hhl, h0]; rfl) (mvRm h2 1 rfl 0 rfl fun w3 h3 => ⟨by simp; rfl, h3.drop.drop⟩)

theorem rskip_c (hr : RAr S m r) (hm : m.WF) {o : Ob} {l : List Ob} (hh : m.high = o :: l) (hs : Sat (Ro W S :: F) w) : Calls Try.prog 40 #[r.agg] w fun e w' =>
    ∃ r', RAr S m.skip r' ∧ Ret (.tuple #[r'.agg, .int .i64 (m.hi : Int), .int .i64 0]) (Sat (Ro W S :: F)) e w' := by
  have hop := hr.op; have hen := hr.en; have h2' := hm.hi_le; have h3' := hm.top; have h4' := hm.most
  have ho := Am.op_of hm hh
  obtain ⟨hi, hhi⟩ := hr.hi
  have hhl := hhi.len
  rw [hh] at hhi hhl h2'
  rw [List.length_cons] at hhl
  simp only [osz] at h2'
  obtain ⟨x, hx1, rfl, hx2⟩ := hhi.get (q := 0) rfl
  rw [ho] at hop
  refine S_ref7_Skip_ok _ _ _ _ _ _ _ _ _ _ _ ?_
  unfold S_ref7_Skip
  refine NewC.ofRow hs fun b0 w1 h1 => NewC.ofRow h1 fun b1 w2 h2 => ?_
  have h2 : Sat (Row b1 rm0 61 :: Row b0 r.cells 61 :: Ro W S :: F) w2 := h2
  refine LdB.of h2 1 rfl (off := 4) rfl (by simp [add_mk]) ?_
  rw [hop]
  refine cond_f rfl ?_
  refine LdS.of h2 1 rfl (off := 2) rfl (by simp [add_mk]) (cond_f (by rw [hhl]; simp; omega) ?_)
  refine LdI.of h2 1 rfl (off := 3) rfl (by simp [add_mk]) ?_
  have h3 := h2.drew
  refine LdI.of h3 1 rfl (off := 3) rfl (by simp [add_mk]) (LdS.of h3 1 rfl (off := 2) rfl (by simp [add_mk]) ?_)
  refine hhi.idx (q := 0) (h3.has 2 rfl) hx1 fun a ha => LdS.at (ha 4 _ rfl) ?_
  have ev : IntKind.wrap .i64 (IntKind.wrap .i64 (r.en + 1) + (x.o.w.length : Int)) = ((m.hi + 1 + x.o.w.length : Nat) : Int) := by
    rw [hen, wrapI64 (n := ((m.hi : Nat) : Int) + 1) (by omega) (by omega), wrapI64 (by omega) (by omega)]; omega
  rw [ev]
  refine StC.of h3 1 rfl (off := 3) rfl (by simp [add_mk]) fun w4 h4 => ?_
  refine LdS.of h4 1 rfl (off := 2) rfl (by simp [add_mk]) ?_
  have hcap := hhi.row.cap
  refine SlC.of 1 r.hl r.hc rfl rfl rfl (by omega) (by omega) (by omega) ?_
  refine StC.of h4 1 rfl (off := 2) rfl (by simp [add_mk]) fun w5 h5 => ?_
  refine mvRm (r := { r with hp := slAddr r.hp r.hc 1 5, hl := r.hl - 1, hc := r.hc - 1, en := ((m.hi + 1 + x.o.w.length : Nat) : Int) }) h5 1 rfl 0 rfl fun w6 h6 => ?_
  refine ⟨{ r with hp := slAddr r.hp r.hc 1 5, hl := r.hl - 1, hc := r.hc - 1, en := ((m.hi + 1 + x.o.w.length : Nat) : Int) }, ?_, ?_, h6.drop.drop⟩
  · unfold Am.skip
    rw [hh]
    exact ⟨hr.n, rfl, hr.op, hr.lo, ⟨_, hhi.tail⟩⟩
  · rw [hen]; rfl

theorem rkeep_c (hr : RAr S m r) (hm : m.WF) {o : Ob} {l : List Ob} (hh : m.high = o :: l) (hs : Sat (Ro W S :: F) w) : Calls Try.prog 39 #[r.agg] w fun e w' =>
    ∃ S' r', Ext S S' ∧ RAr S' m.keep r' ∧ Ret (.tuple #[r'.agg, .int .i64 (m.hi : Int), .int .i64 ((osz m.low : Nat) : Int), .int .i64 0]) (Sat (Ro W S' :: F)) e w' := by
  have hop := hr.op; have hen := hr.en; have h2' := hm.hi_le; have h3' := hm.top; have h4' := hm.most; have h1' := hm.low_le; have ln1 := osz_len m.low
  have ho := Am.op_of hm hh
  have hgap := hm.gap ho
  obtain ⟨lo, hlo⟩ := hr.lo
  obtain ⟨hi, hhi⟩ := hr.hi
  have hhl := hhi.len; have hll := hlo.len; have ol := hlo.omlen
  rw [hh] at hhi hhl h2'
  rw [List.length_cons] at hhl
  simp only [osz] at h2'
  obtain ⟨x, hx1, rfl, hx2⟩ := hhi.get (q := 0) rfl
  rw [ho] at hop
  refine S_ref7_Keep_ok _ _ _ _ _ _ _ _ _ _ _ ?_
  unfold S_ref7_Keep
  refine NewC.ofRow hs fun b0 w1 h1 => NewC.ofRow h1 fun b1 w2 h2 => ?_
  have h2 : Sat (Row b1 rm0 61 :: Row b0 r.cells 61 :: Ro W S :: F) w2 := h2
  refine LdB.of h2 1 rfl (off := 4) rfl (by simp [add_mk]) ?_
  rw [hop]
  refine cond_f rfl ?_
  refine LdS.of h2 1 rfl (off := 2) rfl (by simp [add_mk]) (cond_f (by rw [hhl]; simp; omega) ?_)
  refine LdI.of h2 1 rfl (off := 3) rfl (by simp [add_mk]) (LdS.of h2 1 rfl (off := 1) rfl (by simp [add_mk]) ?_)
  refine (rsize_c hlo (by omega) (h2.pull 2 rfl)).mono ?_
  rintro e w3 ⟨rfl, h3⟩
  refine ⟨_, rfl, ?_⟩
  intro k0 hk0
  have h4 : Sat (Ro W S :: Row b1 rm0 61 :: Row b0 r.cells 61 :: F) w3.drew := h3.drew
  refine ⟨fun w => ∃ (L : List HP) (i j : Nat), L[i]? = some (Row b0 r.cells 61) ∧ L[j]? = some (Ro W S) ∧ Sat L w, ⟨_, 2, 0, rfl, rfl, h4⟩, ?_⟩
  refine ⟨r.lp, r.ll, r.lc, fun w ⟨L, i, j, hi, hj, h⟩ => LdS.of h i hi (off := 1) rfl (by simp [add_mk]) rfl, ?_⟩
  refine ⟨r.hp, r.hl, r.hc, fun w ⟨L, i, j, hi, hj, h⟩ => LdS.of h i hi (off := 2) rfl (by simp [add_mk]) rfl, ?_⟩
  refine hhi.idxS (q := 0) hx1 fun a ha => ?_
  refine ⟨x.o.tag, x.o.refs, x.o.owner, x.o.mark, x.p, x.o.w.length, x.c, fun w ⟨L, i, j, hi, hj, h⟩ => ldOm (x := x) (fun j' v hj' => ha j' v hj' w (h.has j hj)) rfl, ?_⟩
  have ev : IntKind.wrap .i64 (IntKind.wrap .i64 (r.en + 1) + (x.o.w.length : Int)) = ((m.hi + 1 + x.o.w.length : Nat) : Int) := by
    rw [hen, wrapI64 (n := ((m.hi : Nat) : Int) + 1) (by omega) (by omega), wrapI64 (by omega) (by omega)]; omega
  have hcap := hhi.row.cap
  have tail : ∀ (p' : Option Addr) (c' : Nat) (w' : World), Sat (Own 81 5 p' (r.ll + 1) c' (ocells (lo ++ [x])) :: Ro W S :: Row b1 rm0 61 :: Row b0 ({ r with lp := p', ll := r.ll + 1, lc := c' } : Rm).cells 61 :: F) w' → k0 w' := by
    intro p' c' w' h
    refine hk0 _ ?_
    unfold S_ref7_Keep_j0
    have h5 := h.drew
    refine LdI.of h5 3 rfl (off := 3) rfl (by simp [add_mk]) (LdS.of h5 3 rfl (off := 2) rfl (by simp [add_mk]) ?_)
    refine hhi.idx (q := 0) (h5.has 1 rfl) hx1 fun a ha => LdS.at (ha 4 _ rfl) ?_
    rw [ev]
    refine StC.of h5 3 rfl (off := 3) rfl (by simp [add_mk]) fun w4 h6 => ?_
    refine LdS.of h6 3 rfl (off := 2) rfl (by simp [add_mk]) ?_
    refine SlC.of 1 r.hl r.hc rfl rfl rfl (by omega) (by omega) (by first | omega | (dsimp only; omega)) ?_
    refine StC.of h6 3 rfl (off := 2) rfl (by simp [add_mk]) fun w5 h7 => ?_
    refine mvRm (r := { r with lp := p', ll := r.ll + 1, lc := c', hp := slAddr r.hp r.hc 1 5, hl := r.hl - 1, hc := r.hc - 1, en := ((m.hi + 1 + x.o.w.length : Nat) : Int) }) h7 3 rfl 2 rfl fun w6 h8 => ?_
    obtain ⟨S2, e2, q1, q2⟩ := ORs.frozen (L := m.low ++ [x.o]) (by rw [List.map_append, hlo.same]; rfl) (fun y hy => by rcases List.mem_append.1 hy with h | h; exact hlo.words y h; rw [List.mem_singleton.1 h]; exact hx2) (by omega) (by rw [List.length_append, List.length_singleton]; omega) h8
    refine ⟨S2, { r with lp := p', ll := r.ll + 1, lc := c', hp := slAddr r.hp r.hc 1 5, hl := r.hl - 1, hc := r.hc - 1, en := ((m.hi + 1 + x.o.w.length : Nat) : Int) }, e2, ?_, ?_, ((q2.pull 1 rfl).drop.pull 1 rfl).drop⟩
    · unfold Am.keep
      rw [hh]
      exact ⟨hr.n, rfl, hr.op, ⟨_, q1⟩, ⟨_, (hhi.tail).mono e2⟩⟩
    · rw [hen]; rfl
  refine snoc2 (W := W) (S := S) (k0 := 0) h4 rfl (fun X w' h => ⟨_, X.length + 2, X.length, by rw [List.getElem?_append_right (by omega)]; simp, by rw [List.getElem?_append_right (by omega)]; simp, h⟩) hlo.row (by omega) x (fun p' c' w' h => ?_) (fun p' c' w' h => ?_)
  · exact StC.of h 3 rfl (off := 1) rfl (by simp [add_mk]) fun w7 h10 => tail p' c' w7 h10
  · exact StC.of h 3 rfl (off := 1) rfl (by simp [add_mk]) fun w7 h10 => tail p' c' w7 h10

theorem headed_c (x : Om) {F : List HP} {w : World} (hs : Sat F w) : Calls Try.prog 49 #[headO x.o, x.agg] w (Ret (.bool true) (Sat F)) := by
  refine S_law7_headed_ok _ _ _ _ _ _ _ _ _ _ _ _ _ _ ?_
  unfold S_law7_headed
  refine NewC.ofRow hs fun b0 w1 h1 => NewC.ofRow h1 fun b1 w2 h2 => ?_
  simp only [add_mk, Nat.zero_add]
  refine LdI.of h2 1 rfl (off := 0) rfl rfl (LdI.of h2 0 rfl (off := 0) rfl rfl (cond_t (by simp) ?_))
  refine LdI.of h2 1 rfl (off := 1) rfl rfl (LdI.of h2 0 rfl (off := 1) rfl rfl (cond_t (by simp) ?_))
  refine LdI.of h2 1 rfl (off := 2) rfl rfl (LdS.of h2 0 rfl (off := 4) rfl rfl (cond_t (by simp) ?_))
  refine LdB.of h2 1 rfl (off := 3) rfl rfl (LdB.of h2 0 rfl (off := 3) rfl rfl (cond_t (by simp) ?_))
  refine LdI.of h2 1 rfl (off := 4) rfl rfl (LdI.of h2 0 rfl (off := 2) rfl rfl ⟨?_, h2.drop.drop⟩)
  simp
end
end Go.Proofs.Ytmcifhineibhpaa
