/- The document's own arena (ref7): objects told, changed, made; the gap. -/
import Derived.Test.YtmcifhineibhpaaARef
namespace Go.Proofs.Ytmcifhineibhpaa
open Go Go.Lw Go.Tb Go.Wd Go.Am

def xz : Om := ⟨⟨0, 0, 0, false, []⟩, none, 0⟩
theorem xz_words (S : Mem) : OmR S xz := ⟨rfl, by simp [xz], by simp [xz], fun u hu => by simp [xz, wcells] at hu, fun j v hj => by simp [xz, wcells] at hj⟩

section
variable {W : World} {S : Mem} {F : List HP} {w : World} {m : Am} {r : Rm}
theorem rat_c (hr : RAr S m r) (hm : m.WF) (at_ : Int) (hs : Sat (Ro W S :: F) w) : Calls Try.prog 37 #[r.agg, .int .i64 at_] w fun e w' =>
    ∃ (x : Om) (ok : Bool), OmR S x ∧ (bif ok then m.findI at_ = some x.o else (m.findI at_ = none ∧ x = xz)) ∧ Ret (.tuple #[x.agg, .bool ok]) (Sat (Ro W S :: F)) e w' := by
  obtain ⟨lo, hlo⟩ := hr.lo
  obtain ⟨hi, hhi⟩ := hr.hi
  refine S_ref7_At_ok _ _ _ _ _ _ _ _ _ _ _ _ ?_
  unfold S_ref7_At
  refine NewC.ofRow hs fun b0 w1 h1 => NewC.ofRow h1 fun b1 w2 h2 => ?_
  have h2 : Sat (Row b1 xz.cells 81 :: Row b0 r.cells 61 :: Ro W S :: F) w2 := h2
  refine ldRm h2 1 rfl ?_
  refine (rfind_c hr hm at_ (h2.pull 2 rfl)).mono ?_
  rintro e w3 ⟨hb, i, hf, rfl, h3⟩
  refine ⟨_, _, rfl, ?_⟩
  have h4 : Sat (Row b1 xz.cells 81 :: Row b0 r.cells 61 :: Ro W S :: F) w3 := (h3.pull 2 rfl).pull 2 rfl |>.pull 1 rfl |>.pull 1 rfl
  cases hf with
  | none hn =>
    refine cond_t rfl ?_
    refine stRow5 (c0 := .int .i64 0) (c1 := .int .i64 0) (c2 := .int .i64 0) (c3 := .bool false) (c4 := .slice none 0 0) h4 0 rfl fun w4 h5 => ?_
    refine ldOmRow (x := xz) h5 0 rfl ?_
    exact ⟨xz, false, xz_words S, ⟨hn, rfl⟩, rfl, h5.drop.drop⟩
  | low k o hk _ hfi _ =>
    obtain ⟨x, hx1, rfl, hx2⟩ := hlo.get hk
    refine cond_f (by simp) (cond_f rfl ?_)
    refine LdS.of h4 1 rfl (off := 1) rfl (by simp [add_mk]) (hlo.idx (h4.has 2 rfl) hx1 fun a ha => ?_)
    refine ldOm (x := x) ha ?_
    refine stRow5 (c0 := .int .i64 0) (c1 := .int .i64 0) (c2 := .int .i64 0) (c3 := .bool false) (c4 := .slice none 0 0) h4 0 rfl fun w4 h5 => ?_
    refine ldOmRow (x := x) h5 0 rfl ?_
    exact ⟨x, true, hx2, hfi, rfl, h5.drop.drop⟩
  | high k o hk _ hfi _ =>
    obtain ⟨x, hx1, rfl, hx2⟩ := hhi.get hk
    refine cond_f (by simp) (cond_t rfl ?_)
    refine LdS.of h4 1 rfl (off := 2) rfl (by simp [add_mk]) (hhi.idx (h4.has 2 rfl) hx1 fun a ha => ?_)
    refine ldOm (x := x) ha ?_
    refine stRow5 (c0 := .int .i64 0) (c1 := .int .i64 0) (c2 := .int .i64 0) (c3 := .bool false) (c4 := .slice none 0 0) h4 0 rfl fun w4 h5 => ?_
    refine ldOmRow (x := x) h5 0 rfl ?_
    exact ⟨x, true, hx2, hfi, rfl, h5.drop.drop⟩

/-- one's own row of objects stands from now on. -/
theorem ORs.frozen {L : List Ob} {om : List Om} {p : Option Addr} {l c : Nat} {e : Nat} (hL : om.map (·.o) = L) (hw : ∀ x ∈ om, OmR S x) (hl : l ≤ 1048576) (hlen : om.length = l) (hs : Sat (Own e 5 p l c (ocells om) :: Ro W S :: F) w) :
    ∃ S', Ext S S' ∧ ORs S' L om p l c ∧ Sat (Ro W S' :: F) w := by
  have hcap := hs.own_cap 0 rfl
  obtain ⟨S', e1, h1, h2⟩ := Sat.freezeAny hs
  exact ⟨S', e1, ⟨hL, fun x hx => (hw x hx).mono e1, ⟨by rw [ocells_len, hlen], hl, hcap, ocells_one _, h1⟩⟩, h2⟩

theorem rwith_c (hr : RAr S m r) (hm : m.WF) {at_ : Int} {o : Ob} (ho : m.findI at_ = some o) {x : Om} (hx : OmR S x) (hs : Sat (Ro W S :: F) w) : Calls Try.prog 50 #[r.agg, .int .i64 at_, x.agg] w fun e w' =>
    ∃ S' r', Ext S S' ∧ RAr S' (m.set at_.toNat x.o) r' ∧ Ret r'.agg (Sat (Ro W S' :: F)) e w' := by
  obtain ⟨lo, hlo⟩ := hr.lo
  obtain ⟨hi, hhi⟩ := hr.hi
  have hll := hlo.len; have hhl := hhi.len; have ol := hlo.omlen; have oh := hhi.omlen; have lim1 := hlo.row.lim; have lim2 := hhi.row.lim
  refine S_ref7_with_ok _ _ _ _ _ _ _ _ _ _ _ _ _ _ _ _ _ _ _ ?_
  unfold S_ref7_with
  refine NewC.ofRow hs fun b0 w1 h1 => NewC.ofRow h1 fun b1 w2 h2 => NewC.ofRow h2 fun b2 w3 h3 => ?_
  have h3 : Sat (Row b2 rm0 61 :: Row b1 x.cells 81 :: Row b0 r.cells 61 :: Ro W S :: F) w3 := h3
  refine ldRm h3 2 rfl ?_
  refine (rfind_c hr hm at_ (h3.pull 3 rfl)).mono ?_
  rintro e w4 ⟨hb, i, hf, rfl, h4⟩
  refine ⟨_, _, rfl, ?_⟩
  have h5 : Sat (Row b2 rm0 61 :: Row b1 x.cells 81 :: Row b0 r.cells 61 :: Ro W S :: F) w4 := by
    have a1 := h4.pull 3 rfl
    have a2 := a1.pull 3 rfl
    exact a2.pull 3 rfl
  clear h1 h2 h3 h4
  cases hf with
  | none hn => rw [hn] at ho; cases ho
  | low k o' hk _ hfi hset =>
    have hlt := get_lt hk
    refine cond_f rfl ?_
    refine LdS.of h5 2 rfl (off := 1) rfl (by simp [add_mk]) ?_
    have h6 := h5.ownNil 81 5
    refine RunS.appRo eok_ob h6 0 rfl 4 rfl hlo.row (by omega) (by omega) fun p1 c1 w5 h7 => ?_
    rw [List.nil_append, Nat.zero_add] at h7
    rw [Nat.zero_add]
    refine StC.of h7 3 rfl (off := 1) rfl (by simp [add_mk]) fun w6 h8 => ?_
    refine LdS.of h8 3 rfl (off := 1) rfl (by simp [add_mk]) ?_
    refine ldOmRow (x := x) h8 2 rfl ?_
    refine IdxC.ownAt h8 0 rfl (k := k) (by omega) fun g hg => ?_
    refine stOm (x := x) h8 0 rfl hg (by omega) fun w7 h9 => ?_
    refine mvRm (r := { r with lp := p1, ll := r.ll, lc := c1 }) h9 3 rfl 1 rfl fun w8 h10 => ?_
    have a1 := (h10.pull 1 rfl).drop
    have a2 := (a1.pull 1 rfl).drop
    have a3 : Sat (Own 81 5 p1 r.ll c1 (ocells (lo.set k x)) :: Ro W S :: F) w8 := (a2.pull 1 rfl).drop
    obtain ⟨S', e1, q1, q2⟩ := ORs.frozen (L := m.low.set k x.o) (by rw [List.map_set, hlo.same]) (fun y hy => by rcases List.mem_or_eq_of_mem_set hy with h | rfl; exact hlo.words y h; exact hx) lim1 (by rw [List.length_set]; omega) a3
    refine ⟨S', { r with lp := p1, ll := r.ll, lc := c1 }, e1, ?_, rfl, q2⟩
    rw [hset x.o]
    exact ⟨hr.n, hr.en, hr.op, ⟨_, q1⟩, ⟨_, hhi.mono e1⟩⟩
  | high k o' hk _ hfi hset =>
    have hlt := get_lt hk
    refine cond_t rfl ?_
    refine LdS.of h5 2 rfl (off := 2) rfl (by simp [add_mk]) ?_
    have h6 := h5.ownNil 81 5
    refine RunS.appRo eok_ob h6 0 rfl 4 rfl hhi.row (by omega) (by omega) fun p1 c1 w5 h7 => ?_
    rw [List.nil_append, Nat.zero_add] at h7
    rw [Nat.zero_add]
    refine StC.of h7 3 rfl (off := 2) rfl (by simp [add_mk]) fun w6 h8 => ?_
    refine LdS.of h8 3 rfl (off := 2) rfl (by simp [add_mk]) ?_
    refine ldOmRow (x := x) h8 2 rfl ?_
    refine IdxC.ownAt h8 0 rfl (k := k) (by omega) fun g hg => ?_
    refine stOm (x := x) h8 0 rfl hg (by omega) fun w7 h9 => ?_
    refine mvRm (r := { r with hp := p1, hl := r.hl, hc := c1 }) h9 3 rfl 1 rfl fun w8 h10 => ?_
    have a1 := (h10.pull 1 rfl).drop
    have a2 := (a1.pull 1 rfl).drop
    have a3 : Sat (Own 81 5 p1 r.hl c1 (ocells (hi.set k x)) :: Ro W S :: F) w8 := (a2.pull 1 rfl).drop
    obtain ⟨S', e1, q1, q2⟩ := ORs.frozen (L := m.high.set k x.o) (by rw [List.map_set, hhi.same]) (fun y hy => by rcases List.mem_or_eq_of_mem_set hy with h | rfl; exact hhi.words y h; exact hx) lim2 (by rw [List.length_set]; omega) a3
    refine ⟨S', { r with hp := p1, hl := r.hl, hc := c1 }, e1, ?_, rfl, q2⟩
    rw [hset x.o]
    exact ⟨hr.n, hr.en, hr.op, ⟨_, hlo.mono e1⟩, ⟨_, q1⟩⟩

/-- 'append(append(nil, l...), o)', in whatever order the object is made. -/
theorem snoc2 {C : World → Prop} {L0 : List HP} {k0 : Nat} (hs : Sat L0 w) (hRo : L0[k0]? = some (Ro W S)) (hC : ∀ X w', Sat (X ++ L0) w' → C w') {om : List Om} {p : Option Addr} {l c : Nat} (hrow : CRs S 5 (ocells om) p l c) (hl : l + 1 ≤ 1048576) (x : Om)
    {K K' : Option Addr → Nat → Nat → World → Prop} (hK : ∀ p' c' w', Sat (Own 81 5 p' (l + 1) c' (ocells (om ++ [x])) :: L0) w' → K p' (l + 1) c' w') (hK' : ∀ p' c' w', Sat (Own 81 5 p' (l + 1) c' (ocells (om ++ [x])) :: L0) w' → K' p' (l + 1) c' w') :
    (RunS Try.prog (Builtin.append_ #[59, 59] 59 #[.slice none 0 0, .slice p l c]) w fun q n d w1 => C w1 ∧
      NewC (.cells #[.int .i64 (x.o.tag : Int), .int .i64 (x.o.refs : Int), .int .i64 (x.o.owner : Int), .bool x.o.mark, .slice x.p x.o.w.length x.c] 81 (0, 0)) w1 fun b w2 => C w2 ∧
      RunS Try.prog (Builtin.append_ #[59, 59] 59 #[.slice q n d, .slice (some ⟨b, 0, none⟩) 1 1]) w2 fun q n d w3 => C w3 ∧ K q n d w3) ∧
    (NewC (.cells #[.int .i64 (x.o.tag : Int), .int .i64 (x.o.refs : Int), .int .i64 (x.o.owner : Int), .bool x.o.mark, .slice x.p x.o.w.length x.c] 81 (0, 0)) w fun b w1 => C w1 ∧
      RunS Try.prog (Builtin.append_ #[59, 59] 59 #[.slice none 0 0, .slice p l c]) w1 fun q n d w2 => C w2 ∧
      RunS Try.prog (Builtin.append_ #[59, 59] 59 #[.slice q n d, .slice (some ⟨b, 0, none⟩) 1 1]) w2 fun q n d w3 => C w3 ∧ K' q n d w3) := by
  have news : ∀ {w : World} {L : List HP} {b T : Nat} (i : Nat), Sat L w → L[i]? = some (Row b x.cells T) → Reads w (some ⟨b, 0, none⟩) x.cells := by
    intro w L b T i h hi a ha j v hj
    cases ha
    rw [add_mk, Nat.zero_add]
    exact h.cell i hi hj
  constructor
  · have h1 := hs.ownNil 81 5
    refine RunS.appRo eok_ob h1 0 rfl (k0 + 1) (by simpa using hRo) hrow (by omega) (by omega) fun p1 c1 w1 h2 => ⟨hC [_] _ h2, ?_⟩
    rw [List.nil_append, Nat.zero_add] at h2
    rw [Nat.zero_add]
    refine NewC.ofRow h2 fun b w2 h3 => ⟨hC [_, _] _ h3, ?_⟩
    refine RunS.own eok_ob h3 1 rfl (news := x.cells) (news 0 h3 rfl) (by rw [Om.len]) x.one (by omega) (by simp only [maxLen]; omega) fun p2 c2 w3 h4 => ⟨hC [_, _] _ h4, hK _ _ _ ?_⟩
    rw [ocells_snoc]
    exact h4.drop
  · refine NewC.ofRow hs fun b w1 h1 => ⟨hC [_] _ h1, ?_⟩
    have h2 := h1.ownNil 81 5
    refine RunS.appRo eok_ob h2 0 rfl (k0 + 2) (by simpa using hRo) hrow (by omega) (by omega) fun p1 c1 w2 h3 => ⟨hC [_, _] _ h3, ?_⟩
    rw [List.nil_append, Nat.zero_add] at h3
    rw [Nat.zero_add]
    refine RunS.own eok_ob h3 0 rfl (news := x.cells) (news 1 h3 rfl) (by rw [Om.len]) x.one (by omega) (by simp only [maxLen]; omega) fun p2 c2 w3 h4 => ⟨hC [_, _] _ h4, hK' _ _ _ ?_⟩
    rw [ocells_snoc]
    exact (h4.pull 1 rfl).drop

theorem ralloc_no (hr : RAr S m r) {tag refs size owner : Int} (hf : ¬ Fit tag refs size owner) (hs : Sat (Ro W S :: F) w) :
    Calls Try.prog 34 #[r.agg, .int .i64 tag, .int .i64 refs, .int .i64 size, .int .i64 owner] w (Ret (.tuple #[r.agg, .int .i64 0, .int .i64 1]) (Sat (Ro W S :: F))) := by
  refine S_ref7_Alloc_ok _ _ _ _ _ _ _ _ _ _ _ _ _ _ _ ?_
  unfold S_ref7_Alloc
  refine NewC.ofRow hs fun b0 w1 h1 => NewC.ofRow h1 fun b1 w2 h2 => ?_
  have h2 : Sat (Row b1 rm0 61 :: Row b0 r.cells 61 :: Ro W S :: F) w2 := h2
  by_cases c1 : tag < 1
  · exact cond_t (by simpa using c1) (mvRm h2 1 rfl 0 rfl fun w3 h3 => ⟨rfl, h3.drop.drop⟩)
  refine cond_f (by simpa using c1) ?_
  by_cases c2 : tag > 255
  · exact cond_t (by simpa using c2) (mvRm h2 1 rfl 0 rfl fun w3 h3 => ⟨rfl, h3.drop.drop⟩)
  refine cond_f (by simpa using c2) ?_
  by_cases c3 : size < 0
  · exact cond_t (by simpa using c3) (mvRm h2 1 rfl 0 rfl fun w3 h3 => ⟨rfl, h3.drop.drop⟩)
  refine cond_f (by simpa using c3) ?_
  by_cases c4 : size > 4096
  · exact cond_t (by simpa using c4) (mvRm h2 1 rfl 0 rfl fun w3 h3 => ⟨rfl, h3.drop.drop⟩)
  refine cond_f (by simpa using c4) ?_
  by_cases c5 : refs < 0
  · exact cond_t (by simpa using c5) (mvRm h2 1 rfl 0 rfl fun w3 h3 => ⟨rfl, h3.drop.drop⟩)
  refine cond_f (by simpa using c5) ?_
  by_cases c6 : refs > size
  · exact cond_t (by simpa using c6) (mvRm h2 1 rfl 0 rfl fun w3 h3 => ⟨rfl, h3.drop.drop⟩)
  refine cond_f (by simpa using c6) ?_
  by_cases c7 : owner < 0
  · exact cond_t (by simpa using c7) (mvRm h2 1 rfl 0 rfl fun w3 h3 => ⟨rfl, h3.drop.drop⟩)
  refine cond_f (by simpa using c7) ?_
  by_cases c8 : owner ≥ 1048576
  · exact cond_t (by simpa using c8) (mvRm h2 1 rfl 0 rfl fun w3 h3 => ⟨rfl, h3.drop.drop⟩)
  exact absurd (by unfold Fit; omega) hf

theorem ralloc_c (hr : RAr S m r) (hm : m.WF) {tag refs size owner : Nat} (hf : Fit tag refs size owner) (hs : Sat (Ro W S :: F) w) :
    Calls Try.prog 34 #[r.agg, .int .i64 (tag : Int), .int .i64 (refs : Int), .int .i64 (size : Int), .int .i64 (owner : Int)] w fun e w' =>
      if m.n < m.top + 1 + size then Ret (.tuple #[r.agg, .int .i64 0, .int .i64 5]) (Sat (Ro W S :: F)) e w'
      else ∃ S' r', Ext S S' ∧ RAr S' (m.alloc (Ob.fresh tag refs size owner)) r' ∧ Ret (.tuple #[r'.agg, .int .i64 (m.top : Int), .int .i64 0]) (Sat (Ro W S' :: F)) e w' := by
  unfold Fit at hf
  have hmn := hm.most; have hmt := hm.top; have hn := hr.n
  have hlow := hm.low_le; have hhi' := hm.hi_le; have ln1 := osz_len m.low; have ln2 := osz_len m.high
  refine S_ref7_Alloc_ok _ _ _ _ _ _ _ _ _ _ _ _ _ _ _ ?_
  unfold S_ref7_Alloc
  refine NewC.ofRow hs fun b0 w1 h1 => NewC.ofRow h1 fun b1 w2 h2 => ?_
  have h2 : Sat (Row b1 rm0 61 :: Row b0 r.cells 61 :: Ro W S :: F) w2 := h2
  refine cond_f (by simp; omega) (cond_f (by simp; omega) (cond_f (by simp) (cond_f (by simp; omega) (cond_f (by simp) (cond_f (by simp; omega) (cond_f (by simp) (cond_f (by simp; omega) ?_)))))))
  refine ldRm h2 1 rfl ?_
  refine (rtop_c hr hm (h2.pull 2 rfl)).mono ?_
  rintro e w3 ⟨rfl, h3⟩
  refine ⟨_, rfl, ?_⟩
  have h4 : Sat (Row b1 rm0 61 :: Row b0 r.cells 61 :: Ro W S :: F) w3 := (h3.pull 2 rfl).pull 2 rfl |>.pull 1 rfl |>.pull 1 rfl
  refine LdI.of h4 1 rfl (off := 0) rfl (by simp [add_mk]) ?_
  rw [hn, wrapI64 (n := ((m.n : Nat) : Int) - ((m.top : Nat) : Int)) (by omega) (by omega), wrapI64 (by omega) (by omega)]
  by_cases hfull : m.n < m.top + 1 + size
  · refine cond_t (by simp; omega) (mvRm h4 1 rfl 0 rfl fun w4 h5 => ?_)
    dsimp only
    rw [if_pos hfull]
    exact ⟨rfl, h5.drop.drop⟩
  refine cond_f (by simp; omega) ?_
  refine RunS.make eok_wd #[.int .u64 0] (by kernel_rfl) h4 (by omega) (by omega) (by omega) (by omega) fun g w4 h5 => ?_
  have hz : (madeCells #[.int .u64 0] ((size : Int).toNat * 1)).toList = wcells (List.replicate size 0) := by
    apply List.ext_getElem?
    intro j
    by_cases hj : j < size
    · rw [madeCells_get _ _ _ (by simpa using hj)]
      simp [wcells, hj, Nat.mod_one]
    · rw [List.getElem?_eq_none (by simp [madeCells]; omega), List.getElem?_eq_none (by simp [wcells]; omega)]
  rw [hz] at h5
  have h5 : Sat (Blk g (.cells (wcells (List.replicate size 0)).toArray 33 (0, 0)) :: Ro W S :: Row b1 rm0 61 :: Row b0 r.cells 61 :: F) w4 := (h5.pull 3 rfl).pull 1 rfl
  obtain ⟨S1, e1, hg, h6⟩ := Sat.freeze h5
  have hx : OmR S1 ⟨Ob.fresh tag refs size owner, some ⟨g, 0, none⟩, size⟩ := by
    have hl : (Ob.fresh tag refs size owner).w.length = size := by simp [Ob.fresh]
    refine ⟨by rw [Nat.mul_one]; simp [wcells], by dsimp only; omega, by dsimp only; omega, fun u hu => ?_, fun j v hj => ⟨_, rfl, ?_⟩⟩
    · unfold wcells at hu
      obtain ⟨y, _, rfl⟩ := List.mem_map.1 hu
      rfl
    · rw [add_mk, Nat.zero_add]
      exact RdS.row hg hj
  have hr1 := hr.mono e1
  obtain ⟨lo, hlo⟩ := hr1.lo
  obtain ⟨hi, hhi⟩ := hr1.hi
  have hll := hlo.len; have hhl := hhi.len; have ol := hlo.omlen; have oh := hhi.omlen
  have hwl : (Ob.fresh tag refs size owner).w.length = size := by simp [Ob.fresh]
  refine NewC.ofRow h6 fun b2 w5 h7 => stRow5 h7 0 rfl fun w6 h8 => ?_
  have h8 : Sat (Row b2 (⟨Ob.fresh tag refs size owner, some ⟨g, 0, none⟩, size⟩ : Om).cells 81 :: Ro W S1 :: Row b1 rm0 61 :: Row b0 r.cells 61 :: F) w6 := by
    unfold Om.cells
    dsimp only
    rw [hwl]
    exact h8
  generalize hxx : (⟨Ob.fresh tag refs size owner, some ⟨g, 0, none⟩, size⟩ : Om) = x at hx h8
  have hxo : x.o = Ob.fresh tag refs size owner := by rw [← hxx]
  refine LdB.of h8 3 rfl (off := 4) rfl (by simp [add_mk]) ?_
  have hop := hr.op
  have fail : ¬ (m.n < m.top + 1 + size) := hfull
  cases ho : m.op
  · rw [ho] at hop
    rw [hop]
    refine cond_f rfl ?_
    have h9 := h8.drew
    refine ⟨fun w => ∃ (L : List HP) (i j : Nat), L[i]? = some (Row b0 r.cells 61) ∧ L[j]? = some (Row b2 x.cells 81) ∧ Sat L w, ⟨_, 3, 0, rfl, rfl, h9⟩, ?_⟩
    refine ⟨r.lp, r.ll, r.lc, fun w ⟨L, i, j, hi, hj, h⟩ => LdS.of h i hi (off := 1) rfl (by simp [add_mk]) rfl, ?_⟩
    refine ⟨x.o.tag, x.o.refs, x.o.owner, x.o.mark, x.p, x.o.w.length, x.c, fun w ⟨L, i, j, hi, hj, h⟩ => ldOmRow (x := x) h j hj rfl, ?_⟩
    have fin : ∀ (p' : Option Addr) (c' : Nat) (w' : World), Sat (Own 81 5 p' (r.ll + 1) c' (ocells (lo ++ [x])) :: Row b2 x.cells 81 :: Ro W S1 :: Row b1 ({ r with lp := p', ll := r.ll + 1, lc := c' } : Rm).cells 61 :: Row b0 ({ r with lp := p', ll := r.ll + 1, lc := c' } : Rm).cells 61 :: F) w' →
        ∃ S', Ext S S' ∧ RAr S' (m.alloc (Ob.fresh tag refs size owner)) ({ r with lp := p', ll := r.ll + 1, lc := c' } : Rm) ∧ Sat (Ro W S' :: F) w' := by
      intro p' c' w' h
      have a1 := (h.pull 1 rfl).drop
      obtain ⟨S2, e2, q1, q2⟩ := ORs.frozen (L := m.low ++ [x.o]) (by rw [List.map_append, hlo.same]; rfl) (fun y hy => by rcases List.mem_append.1 hy with h | h; exact hlo.words y h; rw [List.mem_singleton.1 h]; exact hx) (by omega) (by rw [List.length_append, List.length_singleton]; omega) a1
      refine ⟨S2, e1.trans e2, ?_, ((q2.pull 1 rfl).drop.pull 1 rfl).drop⟩
      rw [← hxo]
      unfold Am.alloc
      rw [ho]
      exact ⟨hr.n, hr.en, hop, ⟨_, q1⟩, ⟨_, hhi.mono e2⟩⟩
    have tail : ∀ (p' : Option Addr) (c' : Nat) (w' : World), Sat (Own 81 5 p' (r.ll + 1) c' (ocells (lo ++ [x])) :: Row b2 x.cells 81 :: Ro W S1 :: Row b1 ({ r with lp := p', ll := r.ll + 1, lc := c' } : Rm).cells 61 :: Row b0 ({ r with lp := p', ll := r.ll + 1, lc := c' } : Rm).cells 61 :: F) w' →
        (if m.n < m.top + 1 + size then Ret (.tuple #[r.agg, .int .i64 0, .int .i64 5]) (Sat (Ro W S :: F)) (.returned (.tuple #[({ r with lp := p', ll := r.ll + 1, lc := c' } : Rm).agg, .int .i64 (m.top : Int), .int .i64 0])) w'
          else ∃ S' r', Ext S S' ∧ RAr S' (m.alloc (Ob.fresh tag refs size owner)) r' ∧ Ret (.tuple #[r'.agg, .int .i64 (m.top : Int), .int .i64 0]) (Sat (Ro W S' :: F)) (.returned (.tuple #[({ r with lp := p', ll := r.ll + 1, lc := c' } : Rm).agg, .int .i64 (m.top : Int), .int .i64 0])) w') := by
      intro p' c' w' h
      rw [if_neg fail]
      obtain ⟨S', q1, q2, q3⟩ := fin p' c' w' h
      exact ⟨S', _, q1, q2, rfl, q3⟩
    refine snoc2 (W := W) (S := S1) (k0 := 1) h9 rfl (fun X w' h => ⟨_, X.length + 3, X.length, by rw [List.getElem?_append_right (by omega)]; simp, by rw [List.getElem?_append_right (by omega)]; simp, h⟩) hlo.row (by omega) x (fun p' c' w' h => ?_) (fun p' c' w' h => ?_)
    · refine StC.of h 4 rfl (off := 1) rfl (by simp [add_mk]) fun w7 h10 => ?_
      exact mvRm (r := { r with lp := p', ll := r.ll + 1, lc := c' }) h10 4 rfl 3 rfl fun w8 h11 => tail p' c' w8 h11
    · refine StC.of h 4 rfl (off := 1) rfl (by simp [add_mk]) fun w7 h10 => ?_
      exact mvRm (r := { r with lp := p', ll := r.ll + 1, lc := c' }) h10 4 rfl 3 rfl fun w8 h11 => tail p' c' w8 h11
  · rw [ho] at hop
    rw [hop]
    refine cond_t rfl ?_
    have h9 := h8.drew
    refine ⟨fun w => ∃ (L : List HP) (i j : Nat), L[i]? = some (Row b0 r.cells 61) ∧ L[j]? = some (Row b2 x.cells 81) ∧ Sat L w, ⟨_, 3, 0, rfl, rfl, h9⟩, ?_⟩
    refine ⟨r.hp, r.hl, r.hc, fun w ⟨L, i, j, hi, hj, h⟩ => LdS.of h i hi (off := 2) rfl (by simp [add_mk]) rfl, ?_⟩
    refine ⟨x.o.tag, x.o.refs, x.o.owner, x.o.mark, x.p, x.o.w.length, x.c, fun w ⟨L, i, j, hi, hj, h⟩ => ldOmRow (x := x) h j hj rfl, ?_⟩
    have tail : ∀ (p' : Option Addr) (c' : Nat) (w' : World), Sat (Own 81 5 p' (r.hl + 1) c' (ocells (hi ++ [x])) :: Row b2 x.cells 81 :: Ro W S1 :: Row b1 ({ r with hp := p', hl := r.hl + 1, hc := c' } : Rm).cells 61 :: Row b0 ({ r with hp := p', hl := r.hl + 1, hc := c' } : Rm).cells 61 :: F) w' →
        (if m.n < m.top + 1 + size then Ret (.tuple #[r.agg, .int .i64 0, .int .i64 5]) (Sat (Ro W S :: F)) (.returned (.tuple #[({ r with hp := p', hl := r.hl + 1, hc := c' } : Rm).agg, .int .i64 (m.top : Int), .int .i64 0])) w'
          else ∃ S' r', Ext S S' ∧ RAr S' (m.alloc (Ob.fresh tag refs size owner)) r' ∧ Ret (.tuple #[r'.agg, .int .i64 (m.top : Int), .int .i64 0]) (Sat (Ro W S' :: F)) (.returned (.tuple #[({ r with hp := p', hl := r.hl + 1, hc := c' } : Rm).agg, .int .i64 (m.top : Int), .int .i64 0])) w') := by
      intro p' c' w' h
      rw [if_neg fail]
      have a1 := (h.pull 1 rfl).drop
      obtain ⟨S2, e2, q1, q2⟩ := ORs.frozen (L := m.high ++ [x.o]) (by rw [List.map_append, hhi.same]; rfl) (fun y hy => by rcases List.mem_append.1 hy with h | h; exact hhi.words y h; rw [List.mem_singleton.1 h]; exact hx) (by omega) (by rw [List.length_append, List.length_singleton]; omega) a1
      refine ⟨S2, ({ r with hp := p', hl := r.hl + 1, hc := c' } : Rm), e1.trans e2, ?_, rfl, ((q2.pull 1 rfl).drop.pull 1 rfl).drop⟩
      rw [← hxo]
      unfold Am.alloc
      rw [ho]
      exact ⟨hr.n, hr.en, hop, ⟨_, hlo.mono e2⟩, ⟨_, q1⟩⟩
    refine snoc2 (W := W) (S := S1) (k0 := 1) h9 rfl (fun X w' h => ⟨_, X.length + 3, X.length, by rw [List.getElem?_append_right (by omega)]; simp, by rw [List.getElem?_append_right (by omega)]; simp, h⟩) hhi.row (by omega) x (fun p' c' w' h => ?_) (fun p' c' w' h => ?_)
    · refine StC.of h 4 rfl (off := 2) rfl (by simp [add_mk]) fun w7 h10 => ?_
      exact mvRm (r := { r with hp := p', hl := r.hl + 1, hc := c' }) h10 4 rfl 3 rfl fun w8 h11 => tail p' c' w8 h11
    · refine StC.of h 4 rfl (off := 2) rfl (by simp [add_mk]) fun w7 h10 => ?_
      exact mvRm (r := { r with hp := p', hl := r.hl + 1, hc := c' }) h10 4 rfl 3 rfl fun w8 h11 => tail p' c' w8 h11
end
end Go.Proofs.Ytmcifhineibhpaa
