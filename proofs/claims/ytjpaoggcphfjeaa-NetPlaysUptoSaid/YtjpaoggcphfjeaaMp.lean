/- Structs of two numbers compared; a map whose keys are such, as a set of pairs. No program in sight. -/
import Derived.Test.YtjpaoggcphfjeaaTb
namespace Go.Lw
open Go Go.Tb

/-! Structs of two numbers, compared; maps that have such as keys. -/
def isI64 (P : Program) (t : TypeId) : Bool := match P.underlying t with | some (.int .i64) => true | _ => false
theorem isI64_of {P : Program} {t : TypeId} (h : isI64 P t = true) : P.underlying t = some (.int .i64) := by
  unfold isI64 at h
  split at h
  · assumption
  · cases h
def twoInts (P : Program) (t : TypeId) : Bool :=
  match (P.fieldsOf t).toList with
  | [f1, f2] => f1.name != "_" && f2.name != "_" && f1.offset == 0 && f2.offset == 1 && isI64 P f1.type && isI64 P f2.type
  | _ => false
theorem equalIn_2 {P : Program} {t : TypeId} (ht : P.underlying t = some (.struct (P.fieldsOf t))) (hp : P.stoodInHeld t = false) (hf : twoInts P t = true)
    (d : Nat) (w : World) (a b c e : Int) : (Op.equalIn (d + 2) t (.agg #[.int .i64 a, .int .i64 b]) (.agg #[.int .i64 c, .int .i64 e])).run P w = .ok (a == c && b == e) w := by
  unfold twoInts at hf
  split at hf
  case h_2 => cases hf
  rename_i f1 f2 hl
  simp only [Bool.and_eq_true, bne_iff_ne, ne_eq, beq_iff_eq] at hf
  obtain ⟨⟨⟨⟨⟨n1, n2⟩, o1⟩, o2⟩, u1⟩, u2⟩ := hf
  replace u1 := isI64_of u1
  replace u2 := isI64_of u2
  rw [run_equalIn_agg w (d + 1) t _ _ ht hp, hl]
  have a1 := run_isAgg (P := P) (w := w) (t := f1.type) (by rw [u1]; simp)
  have a2 := run_isAgg (P := P) (w := w) (t := f2.type) (by rw [u2]; simp)
  have b1 : isAggB P f1.type = false := by simp [isAggB, u1]
  have b2 : isAggB P f2.type = false := by simp [isAggB, u2]
  rw [b1] at a1
  rw [b2] at a2
  have p1 : ∀ x y : Int, (part f1.type #[.int .i64 x, .int .i64 y] f1.offset).run P w = .ok (.int .i64 x) w := fun x y => by
    simp [part, o1, a1]
  have p2 : ∀ x y : Int, (part f2.type #[.int .i64 x, .int .i64 y] f2.offset).run P w = .ok (.int .i64 y) w := fun x y => by
    simp [part, o2, a2]
  simp only [Op.eqFields, n1, n2, ne_eq, not_false_eq_true, if_true, Sem.run_bind, p1, p2, Result.andThen_ok, run_equalIn_int w d _ _ _ _ _ u1, Sem.run_ite, Sem.run_pure]
  by_cases h1 : a = c
  · simp only [h1, beq_self_eq_true, Bool.not_true, Bool.false_eq_true, if_false, Result.andThen_ok, run_equalIn_int w d _ _ _ _ _ u2, Bool.true_and]
    by_cases h2 : b = e <;> simp [h2]
  · simp [h1]
structure K2 (P : Program) (t : TypeId) : Prop where
  under : P.underlying t = some (.struct (P.fieldsOf t))
  held : P.stoodInHeld t = false
  two : twoInts P t = true
theorem K2.equal {P : Program} {t : TypeId} (h : K2 P t) (w : World) (a b c d : Int) : (Op.equal t (.agg #[.int .i64 a, .int .i64 b]) (.agg #[.int .i64 c, .int .i64 d])).run P w = .ok (a == c && b == d) w :=
  equalIn_2 (d := 9998) h.under h.held h.two w a b c d
theorem K2.eqR {P : Program} {t : TypeId} (h : K2 P t) (hg : P.eqGuardType P.depth t = false) {a b c d : Int} {K : Bool → Prop} (hk : K (a == c && b == d)) : EqR P .eql t (.agg #[.int .i64 a, .int .i64 b]) (.agg #[.int .i64 c, .int .i64 d]) K :=
  ⟨_, hg, fun w => by simp only [binOp, Sem.run_bind, h.equal w a b c d, Result.andThen_ok, Sem.run_pure], hk⟩
theorem K2.check {P : Program} {t : TypeId} (h : K2 P t) (e : Bool) (w : World) (a b : Int) : (Instr.checkKey e 10000 t (.agg #[.int .i64 a, .int .i64 b])).run P w = .ok () w := by
  have hf := h.two
  unfold twoInts at hf
  split at hf
  case h_2 => cases hf
  rename_i f1 f2 hl
  simp only [Bool.and_eq_true, bne_iff_ne, ne_eq, beq_iff_eq] at hf
  obtain ⟨⟨⟨⟨⟨n1, n2⟩, o1⟩, o2⟩, u1⟩, u2⟩ := hf
  replace u1 := isI64_of u1
  replace u2 := isI64_of u2
  have a1 := run_isAgg (P := P) (w := w) (t := f1.type) (by rw [u1]; simp)
  have a2 := run_isAgg (P := P) (w := w) (t := f2.type) (by rw [u2]; simp)
  have b1 : isAggB P f1.type = false := by simp [isAggB, u1]
  have b2 : isAggB P f2.type = false := by simp [isAggB, u2]
  rw [b1] at a1
  rw [b2] at a2
  have p1 : (part f1.type #[.int .i64 a, .int .i64 b] f1.offset).run P w = .ok (.int .i64 a) w := by simp [part, o1, a1]
  have p2 : (part f2.type #[.int .i64 a, .int .i64 b] f2.offset).run P w = .ok (.int .i64 b) w := by simp [part, o2, a2]
  have c1 : ∀ d, (Instr.checkKey e (d + 1) f1.type (.int .i64 a)).run P w = .ok () w := fun d => by simp [Instr.checkKey, run_underlying u1]
  have c2 : ∀ d, (Instr.checkKey e (d + 1) f2.type (.int .i64 b)).run P w = .ok () w := fun d => by simp [Instr.checkKey, run_underlying u2]
  have key : ∀ d, (Instr.checkKey e (d + 2) t (.agg #[.int .i64 a, .int .i64 b])).run P w = .ok () w := by
    intro d
    unfold Instr.checkKey
    simp only [Sem.run_bind, run_underlying h.under, Result.andThen_ok]
    rw [← Array.forIn_toList, hl]
    simp only [List.forIn_cons, List.forIn_nil, Sem.run_bind, n1, n2, ne_eq, not_false_eq_true, if_true, p1, p2, c1 d, c2 d, Result.andThen_ok, Sem.run_pure]
  exact key 9998

/-! A map of pairs that are set. -/
def cutEs (cs : List (Int × Int × Nat)) (v : Value) : List MapEntry := cs.map fun c => ⟨.agg #[.int .i64 c.1, .int .i64 c.2.1], v, c.2.2⟩
def hasCut (cs : List (Int × Int × Nat)) (a b : Int) : Bool := cs.any fun c => c.1 == a && c.2.1 == b
theorem K2.ask {P : Program} {t : TypeId} (h : K2 P t) (w : World) (v : Value) (a b : Int) : ∀ (cs : List (Int × Int × Nat)) (i : Nat),
    (hasCut cs a b = false ∧ (Instr.findAsking t (.agg #[.int .i64 a, .int .i64 b]) (cutEs cs v) i).run P w = .ok none w) ∨
    (hasCut cs a b = true ∧ ∃ j c, cs[j]? = some c ∧ c.1 = a ∧ c.2.1 = b ∧ (Instr.findAsking t (.agg #[.int .i64 a, .int .i64 b]) (cutEs cs v) i).run P w = .ok (some (i + j, v)) w)
  | [], i => .inl ⟨rfl, by simp [cutEs, Instr.findAsking]⟩
  | c :: cs, i => by
    have he := h.equal w a b c.1 c.2.1
    by_cases hc : a = c.1 ∧ b = c.2.1
    · refine .inr ⟨by simp [hasCut, hc.1, hc.2], 0, c, rfl, hc.1.symm, hc.2.symm, ?_⟩
      have : (a == c.1 && b == c.2.1) = true := by simp [hc.1, hc.2]
      rw [this] at he
      simp [cutEs, Instr.findAsking, he]
    · have hne : (a == c.1 && b == c.2.1) = false := by
        by_cases h1 : a = c.1
        · have : b ≠ c.2.1 := fun h2 => hc ⟨h1, h2⟩
          simp [this]
        · simp [h1]
      have hne' : (c.1 == a && c.2.1 == b) = false := by
        by_cases h1 : a = c.1
        · have : c.2.1 ≠ b := fun h2 => hc ⟨h1, h2.symm⟩
          simp [this]
        · have : c.1 ≠ a := fun h2 => h1 h2.symm
          simp [this]
      rw [hne] at he
      rcases h.ask w v a b cs (i + 1) with ⟨h1, h2⟩ | ⟨h1, j, c', h2, h3, h4, h5⟩
      · refine .inl ⟨by simp only [hasCut, List.any_cons, hne', Bool.false_or]; exact h1, ?_⟩
        simp only [cutEs] at h2
        simp [cutEs, Instr.findAsking, he, h2]
      · refine .inr ⟨by simp only [hasCut, List.any_cons, hne', Bool.false_or]; exact h1, j + 1, c', by simpa using h2, h3, h4, ?_⟩
        simp only [cutEs] at h5
        simp [cutEs, Instr.findAsking, he, h5, Nat.add_assoc, Nat.add_comm 1 j]
theorem K2.find {P : Program} {t : TypeId} (h : K2 P t) (w : World) (v : Value) (a b : Int) (cs : List (Int × Int × Nat)) :
    (hasCut cs a b = false ∧ (Instr.findKey t (.agg #[.int .i64 a, .int .i64 b]) (cutEs cs v)).run P w = .ok none w) ∨
    (hasCut cs a b = true ∧ ∃ j c, cs[j]? = some c ∧ c.1 = a ∧ c.2.1 = b ∧ (Instr.findKey t (.agg #[.int .i64 a, .int .i64 b]) (cutEs cs v)).run P w = .ok (some (j, v)) w) := by
  cases cs with
  | nil => exact .inl ⟨rfl, by simp [cutEs, Instr.findKey, run_underlying h.under, Instr.findNow]⟩
  | cons c cs =>
    have hn : Instr.findNow (.struct (P.fieldsOf t)) (.agg #[.int .i64 a, .int .i64 b]) (cutEs (c :: cs) v) 0 = none := by simp [cutEs, Instr.findNow, Instr.sameNow]
    have hr : (Instr.findKey t (.agg #[.int .i64 a, .int .i64 b]) (cutEs (c :: cs) v)).run P w = (Instr.findAsking t (.agg #[.int .i64 a, .int .i64 b]) (cutEs (c :: cs) v) 0).run P w := by
      simp only [Instr.findKey, Sem.run_bind, run_underlying h.under, Result.andThen_ok, hn]
    rw [hr]
    rcases h.ask w v a b (c :: cs) 0 with h1 | ⟨h1, j, c', h2, h3, h4, h5⟩
    · exact .inl h1
    · exact .inr ⟨h1, j, c', h2, h3, h4, by simpa using h5⟩

theorem run_getM {P : Program} {w : World} {r : Nat} {es : Array MapEntry} {clock : Nat} (hb : w.heap[r]? = some (.map es clock)) : (getObj r).run P w = .ok (.map es clock) w := by
  simp [getObj, Sem.run, hb]
theorem run_setM {P : Program} {w : World} {r : Nat} {es : Array MapEntry} {clock : Nat} (o : Obj) (hb : w.heap[r]? = some (.map es clock)) : (setObj r o).run P w = .ok () { w with heap := w.heap.setIfInBounds r o } := by
  simp [setObj, Sem.run, hb]
theorem int_beq (a x : Int) : (a == x) = (x == a) := by
  by_cases h : a = x
  · subst h; rfl
  · have h' : x ≠ a := fun e => h e.symm
    rw [beq_eq_false_iff_ne.2 h, beq_eq_false_iff_ne.2 h']
structure CutOk (cs : List (Int × Int × Nat)) (off : Int → Int → Bool) : Prop where
  apart : cs.Pairwise fun c d => ¬ (c.1 = d.1 ∧ c.2.1 = d.2.1)
  has : ∀ a b, hasCut cs a b = off a b
/-- a map of pairs. -/
def CutM (v : Value) (off : Int → Int → Bool) (r : Nat) : HP := HEx fun cs => HEx fun clock => HAnd (CutOk cs off) (Blk r (.map (cutEs cs v).toArray clock))
theorem Sat.cutOpen {v : Value} {off : Int → Int → Bool} {r : Nat} {L : List HP} {w : World} (hs : Sat (CutM v off r :: L) w) : ∃ cs clock, CutOk cs off ∧ Sat (Blk r (.map (cutEs cs v).toArray clock) :: L) w := by
  obtain ⟨cs, h⟩ := hs.ex
  obtain ⟨clock, h⟩ := h.ex
  obtain ⟨h1, h⟩ := h.pureOf
  exact ⟨cs, clock, h1, h⟩
theorem Sat.cutShut {v : Value} {off : Int → Int → Bool} {r : Nat} {cs : List (Int × Int × Nat)} {clock : Nat} {L : List HP} {w : World} (h : CutOk cs off) (hs : Sat (Blk r (.map (cutEs cs v).toArray clock) :: L) w) : Sat (CutM v off r :: L) w :=
  Sat.mkEx cs (Sat.mkEx clock (Sat.mkPure h hs))

theorem cutEs_get {cs : List (Int × Int × Nat)} {v : Value} {j : Nat} {c : Int × Int × Nat} (h : cs[j]? = some c) : (cutEs cs v)[j]? = some ⟨.agg #[.int .i64 c.1, .int .i64 c.2.1], v, c.2.2⟩ := by simp [cutEs, h]
theorem hasCut_app (cs ds : List (Int × Int × Nat)) (a b : Int) : hasCut (cs ++ ds) a b = (hasCut cs a b || hasCut ds a b) := by simp [hasCut]
theorem hasCut_iff {cs : List (Int × Int × Nat)} {a b : Int} : hasCut cs a b = true ↔ ∃ c ∈ cs, c.1 = a ∧ c.2.1 = b := by simp [hasCut]

theorem Sat.setMap {L : List HP} {w : World} {r : Nat} {o : Obj} (hs : Sat L w) (i : Nat) (hi : L[i]? = some (Blk r o)) (o' : Obj) : Sat (L.set i (Blk r o')) { w with heap := w.heap.setIfInBounds r o' } := by
  have h0 := hs.blk i hi
  have hlt : r < w.heap.size := by
    rcases Nat.lt_or_ge r w.heap.size with h | h
    · exact h
    · rw [Array.getElem?_eq_none h] at h0; cases h0
  refine hs.upd i hi ?_ (fun c hc => ?_) rfl
  · dsimp only; rw [Array.getElem?_setIfInBounds_self_of_lt hlt]
  · dsimp only; rw [Array.getElem?_setIfInBounds_ne (Ne.symm hc)]

section
variable {P : Program} {t kt et : TypeId} {L : List HP} {w : World} {r : Nat} {v : Value} {off : Int → Int → Bool}

theorem K2.put (h : K2 P kt) (hu : P.underlying t = some (.map kt et)) (hs : Sat (CutM v off r :: L) w) (a b : Int) {K : World → Prop}
    (hk : ∀ w', Sat (CutM v (fun x y => off x y || (x == a && y == b)) r :: L) w' → K w') : RunN P (Instr.mapUpdate t (.map (some r)) (.agg #[.int .i64 a, .int .i64 b]) v) w K := by
  obtain ⟨cs, clock, hok, h1⟩ := hs.cutOpen
  have hb := h1.blk 0 rfl
  have hc := h.check false w a b
  rcases h.find w v a b cs with ⟨hno, hf⟩ | ⟨hyes, j, c, hj, h3, h4, hf⟩
  · refine ⟨_, ?_, hk _ (Sat.cutShut (cs := cs ++ [(a, b, clock)]) (clock := clock + 1) ?_ (h1.setMap 0 rfl _))⟩
    · have hp : (cutEs cs v).toArray.push { key := .agg #[.int .i64 a, .int .i64 b], val := v, born := clock } = (cutEs (cs ++ [(a, b, clock)]) v).toArray := by simp [cutEs]
      simp only [Instr.mapUpdate, Sem.run_bind, run_underlying hu, Result.andThen_ok, run_getM hb, hc, hf, run_setM _ hb, hp]
    · refine ⟨List.pairwise_append.2 ⟨hok.apart, by simp, fun c hc d hd => ?_⟩, fun x y => ?_⟩
      · simp only [List.mem_singleton] at hd
        subst hd
        intro hh
        have : hasCut cs a b = true := hasCut_iff.2 ⟨c, hc, hh⟩
        rw [hno] at this; cases this
      · rw [hasCut_app, hok.has]
        congr 1
        simp only [hasCut, List.any_cons, List.any_nil, Bool.or_false]
        rw [int_beq a x, int_beq b y]
  · have hkey : ((((cutEs cs v).toArray[j]?).map (·.key)).getD (.agg #[.int .i64 a, .int .i64 b])) = .agg #[.int .i64 a, .int .i64 b] := by
      have := cutEs_get (v := v) hj
      simp [this, h3, h4]
    have hst : (Instr.keyThatStays (.agg #[.int .i64 a, .int .i64 b]) (.agg #[.int .i64 a, .int .i64 b])).run P w = .ok (.agg #[.int .i64 a, .int .i64 b]) w := by
      simp [Instr.keyThatStays, Instr.sameBits]
    have hmod : ((cutEs cs v).toArray.modify j fun e => { e with key := .agg #[.int .i64 a, .int .i64 b], val := v }) = (cutEs cs v).toArray := by
      apply Array.ext_getElem?
      intro i
      rw [Array.getElem?_modify]
      split
      · rename_i e
        subst e
        have := cutEs_get (v := v) hj
        simp [this, h3, h4]
      · rfl
    refine ⟨_, ?_, hk _ (Sat.cutShut (cs := cs) (clock := clock) ?_ (h1.setMap 0 rfl _))⟩
    · simp only [Instr.mapUpdate, Sem.run_bind, run_underlying hu, Result.andThen_ok, run_getM hb, hc, hf, hkey, hst, hmod, run_setM _ hb]
    · refine ⟨hok.apart, fun x y => ?_⟩
      rw [hok.has]
      by_cases e : x = a ∧ y = b
      · obtain ⟨rfl, rfl⟩ := e
        rw [← hok.has, hyes]; rfl
      · have : (x == a && y == b) = false := by
          by_cases e1 : x = a
          · have : y ≠ b := fun e2 => e ⟨e1, e2⟩
            simp [this]
          · simp [e1]
        rw [this, Bool.or_false]

theorem K2.del (h : K2 P kt) (hu : P.underlying t = some (.map kt et)) (hs : Sat (CutM v off r :: L) w) (a b : Int) {ty t2 : TypeId} {K : World → Prop}
    (hk : ∀ w', Sat (CutM v (fun x y => off x y && !(x == a && y == b)) r :: L) w' → K w') : RunU P (Builtin.delete_ #[t, t2] ty #[.map (some r), .agg #[.int .i64 a, .int .i64 b]]) w K := by
  obtain ⟨cs, clock, hok, h1⟩ := hs.cutOpen
  have hb := h1.blk 0 rfl
  rcases h.find w v a b cs with ⟨hno, hf⟩ | ⟨hyes, j, c, hj, h3, h4, hf⟩
  · refine ⟨_, ?_, hk _ (Sat.cutShut (cs := cs) (clock := clock) ?_ (h1.setMap 0 rfl _))⟩
    · have hc := fun e => h.check e w a b
      simp [Builtin.delete_, run_underlying hu, run_getM hb, hc, hf, run_setM _ hb]
    · refine ⟨hok.apart, fun x y => ?_⟩
      rw [hok.has]
      by_cases e : x = a ∧ y = b
      · obtain ⟨rfl, rfl⟩ := e
        rw [← hok.has, hno]; rfl
      · have : (x == a && y == b) = false := by
          by_cases e1 : x = a
          · have : y ≠ b := fun e2 => e ⟨e1, e2⟩
            simp [this]
          · simp [e1]
        rw [this, Bool.not_false, Bool.and_true]
  · have her : (cutEs cs v).eraseIdx j = cutEs (cs.eraseIdx j) v := by
      unfold cutEs
      rw [List.eraseIdx_eq_take_drop_succ, List.eraseIdx_eq_take_drop_succ]
      simp [List.map_take, List.map_drop]
    refine ⟨_, ?_, hk _ (Sat.cutShut (cs := cs.eraseIdx j) (clock := clock) ?_ (h1.setMap 0 rfl _))⟩
    · have hc := fun e => h.check e w a b
      simp [Builtin.delete_, run_underlying hu, run_getM hb, hc, hf, run_setM _ hb, her]
    · have hlt := get_lt hj
      have hsplit : cs = cs.take j ++ c :: cs.drop (j + 1) := by
        have e1 : cs.drop j = c :: cs.drop (j + 1) := by
          rw [List.drop_eq_getElem_cons hlt]
          congr 1
          rw [List.getElem?_eq_getElem hlt] at hj
          exact Option.some.inj hj
        rw [← e1, List.take_append_drop]
      have hap := hok.apart
      rw [hsplit, List.pairwise_append, List.pairwise_cons] at hap
      have hx := hok.has
      rw [hsplit] at hx
      rw [List.eraseIdx_eq_take_drop_succ]
      refine ⟨List.pairwise_append.2 ⟨hap.1, hap.2.1.2, fun x hx y hy => hap.2.2 x hx y (List.mem_cons_of_mem _ hy)⟩, fun x y => ?_⟩
      rw [← hx, hasCut_app, hasCut_app]
      have e2 : hasCut (c :: cs.drop (j + 1)) x y = ((c.1 == x && c.2.1 == y) || hasCut (cs.drop (j + 1)) x y) := by simp [hasCut]
      rw [e2, h3, h4]
      by_cases e : x = a ∧ y = b
      · obtain ⟨rfl, rfl⟩ := e
        have n1 : hasCut (cs.take j) x y = false := by
          cases hh : hasCut (cs.take j) x y with
          | false => rfl
          | true =>
            obtain ⟨d, hd, h5, h6⟩ := hasCut_iff.1 hh
            exact absurd ⟨h5.trans h3.symm, h6.trans h4.symm⟩ (hap.2.2 d hd c List.mem_cons_self)
        have n2 : hasCut (cs.drop (j + 1)) x y = false := by
          cases hh : hasCut (cs.drop (j + 1)) x y with
          | false => rfl
          | true =>
            obtain ⟨d, hd, h5, h6⟩ := hasCut_iff.1 hh
            exact absurd ⟨h3.trans h5.symm, h4.trans h6.symm⟩ (hap.2.1.1 d hd)
        rw [n1, n2]; simp
      · have e3 : (x == a && y == b) = false := by
          by_cases e1 : x = a
          · have : y ≠ b := fun e2 => e ⟨e1, e2⟩
            simp [this]
          · simp [e1]
        have e4 : (a == x && b == y) = false := by
          by_cases e1 : a = x
          · have : b ≠ y := fun e2 => e ⟨e1.symm, e2.symm⟩
            simp [this]
          · simp [e1]
        rw [e3, e4]; simp

theorem K2.look (h : K2 P kt) (hu : P.underlying t = some (.map kt et)) (hz : (zeroValue et).run P w = .ok v w) (hs : Sat (CutM v off r :: L) w) (a b : Int) :
    (Instr.lookup t (.map (some r)) (.agg #[.int .i64 a, .int .i64 b]) true).run P w = .ok (.tuple #[v, .bool (off a b)]) w := by
  obtain ⟨cs, clock, hok, h1⟩ := hs.cutOpen
  have hb := h1.blk 0 rfl
  have hc := fun e => h.check e w a b
  rcases h.find w v a b cs with ⟨hno, hf⟩ | ⟨hyes, j, c, hj, h3, h4, hf⟩
  · rw [← hok.has, hno]
    simp [Instr.lookup, run_underlying hu, run_getM hb, hc, hf, hz]
  · rw [← hok.has, hyes]
    simp [Instr.lookup, run_underlying hu, run_getM hb, hc, hf]
end
theorem Sat.cutNew {v : Value} {r : Nat} {L : List HP} {w : World} (hs : Sat (Blk r (.map #[] 0) :: L) w) : Sat (CutM v (fun _ _ => false) r :: L) w :=
  Sat.cutShut (cs := []) (clock := 0) ⟨by simp, fun _ _ => rfl⟩ hs
end Go.Lw
