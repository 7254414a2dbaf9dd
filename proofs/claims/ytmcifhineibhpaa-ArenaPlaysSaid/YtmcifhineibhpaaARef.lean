/- The document's own arena (ref7): lists of objects that stand; sizes, places, one object changed. -/
import Derived.Test.YtmcifhineibhpaaRl
import Derived.Test.YtmcifhineibhpaaBc
namespace Go.Proofs.Ytmcifhineibhpaa
open Go Go.Lw Go.Tb Go.Wd Go.Am

/-- an object, and where its words lie. -/
structure Om where
  o : Ob
  p : Option Addr
  c : Nat
def Om.cells (x : Om) : List Value := [.int .i64 (x.o.tag : Int), .int .i64 (x.o.refs : Int), .int .i64 (x.o.owner : Int), .bool x.o.mark, .slice x.p x.o.w.length x.c]
def Om.agg (x : Om) : Value := .agg #[.int .i64 (x.o.tag : Int), .int .i64 (x.o.refs : Int), .int .i64 (x.o.owner : Int), .bool x.o.mark, .slice x.p x.o.w.length x.c]
def om0 : Value := .agg #[.int .i64 0, .int .i64 0, .int .i64 0, .bool false, .slice none 0 0]
def wcells (l : List Nat) : List Value := l.map fun (n : Nat) => .int .u64 (n : Int)
def OmR (S : Mem) (x : Om) : Prop := CRs S 1 (wcells x.o.w) x.p x.o.w.length x.c
def ocells (l : List Om) : List Value := l.flatMap Om.cells
theorem Om.len (x : Om) : x.cells.length = 5 := rfl
theorem Om.one (x : Om) : ∀ u ∈ x.cells, u.oneCell' = true := by
  intro u hu
  simp only [Om.cells, List.mem_cons, List.not_mem_nil, or_false] at hu
  rcases hu with rfl | rfl | rfl | rfl | rfl <;> rfl
theorem ocells_len (l : List Om) : (ocells l).length = l.length * 5 := by
  induction l with
  | nil => rfl
  | cons x l ih => unfold ocells at ih ⊢; rw [List.flatMap_cons, List.length_append, ih, Om.len, List.length_cons]; omega
theorem ocells_one (l : List Om) : ∀ u ∈ ocells l, u.oneCell' = true := by
  intro u hu
  obtain ⟨x, _, hx⟩ := List.mem_flatMap.1 hu
  exact x.one u hx
theorem ocells_get : ∀ {l : List Om} {q j : Nat} {x : Om}, l[q]? = some x → j < 5 → (ocells l)[q * 5 + j]? = x.cells[j]?
  | [], _, _, _, h, _ => by simp at h
  | y :: l, 0, j, x, h, hj => by
    simp only [List.getElem?_cons_zero, Option.some.injEq] at h
    subst h
    unfold ocells
    rw [List.flatMap_cons, Nat.zero_mul, Nat.zero_add, List.getElem?_append_left (by rw [Om.len]; exact hj)]
  | y :: l, q + 1, j, x, h, hj => by
    simp only [List.getElem?_cons_succ] at h
    have ih := ocells_get h hj
    unfold ocells at ih ⊢
    rw [List.flatMap_cons, List.getElem?_append_right (by rw [Om.len]; omega), ← ih, Om.len]
    congr 1
    omega
theorem ocells_snoc (l : List Om) (x : Om) : ocells (l ++ [x]) = ocells l ++ x.cells := by simp [ocells]
theorem ocells_set : ∀ (l : List Om) (q : Nat) (x : Om), q < l.length →
    (((((ocells l).set (q * 5) (.int .i64 (x.o.tag : Int))).set (q * 5 + 1) (.int .i64 (x.o.refs : Int))).set (q * 5 + 2) (.int .i64 (x.o.owner : Int))).set (q * 5 + 3) (.bool x.o.mark)).set (q * 5 + 4) (.slice x.p x.o.w.length x.c) = ocells (l.set q x)
  | [], _, _, h => by simp at h
  | y :: l, 0, x, _ => rfl
  | y :: l, q + 1, x, h => by
    have ih := ocells_set l q x (by simpa using h)
    have e : ∀ z l, ocells (z :: l) = .int .i64 (z.o.tag : Int) :: .int .i64 (z.o.refs : Int) :: .int .i64 (z.o.owner : Int) :: .bool z.o.mark :: .slice z.p z.o.w.length z.c :: ocells l := fun z l => rfl
    rw [List.set_cons_succ, e, e, ← ih, show (q + 1) * 5 = q * 5 + 1 + 1 + 1 + 1 + 1 by omega]
    rw [show q * 5 + 1 + 1 + 1 + 1 + 1 + 1 = q * 5 + 1 + 1 + 1 + 1 + 1 + 1 from rfl, show q * 5 + 1 + 1 + 1 + 1 + 1 + 2 = q * 5 + 2 + 1 + 1 + 1 + 1 + 1 by omega, show q * 5 + 1 + 1 + 1 + 1 + 1 + 3 = q * 5 + 3 + 1 + 1 + 1 + 1 + 1 by omega, show q * 5 + 1 + 1 + 1 + 1 + 1 + 4 = q * 5 + 4 + 1 + 1 + 1 + 1 + 1 by omega]
    simp only [List.set_cons_succ]
theorem ocells_drop1 (l : List Om) : (ocells l).drop (1 * 5) = ocells (l.drop 1) := by
  cases l with
  | nil => rfl
  | cons x l => rfl

/-- objects in a row that stands. -/
structure ORs (S : Mem) (L : List Ob) (om : List Om) (p : Option Addr) (l c : Nat) : Prop where
  same : om.map (·.o) = L
  words : ∀ x ∈ om, OmR S x
  row : CRs S 5 (ocells om) p l c
theorem ORs.mono {S S' : Mem} (e : Ext S S') {L : List Ob} {om : List Om} {p : Option Addr} {l c : Nat} (h : ORs S L om p l c) : ORs S' L om p l c := ⟨h.same, fun x hx => (h.words x hx).mono e, h.row.mono e⟩
theorem ORs.omlen {S : Mem} {L : List Ob} {om : List Om} {p : Option Addr} {l c : Nat} (h : ORs S L om p l c) : om.length = L.length := by rw [← h.same, List.length_map]
theorem ORs.len {S : Mem} {L : List Ob} {om : List Om} {p : Option Addr} {l c : Nat} (h : ORs S L om p l c) : l = L.length := by
  have h1 := h.row.len
  have h2 := h.omlen
  rw [ocells_len] at h1
  omega
theorem ORs.get {S : Mem} {L : List Ob} {om : List Om} {p : Option Addr} {l c : Nat} (h : ORs S L om p l c) {q : Nat} {o : Ob} (hq : L[q]? = some o) : ∃ x, om[q]? = some x ∧ x.o = o ∧ OmR S x := by
  rw [← h.same, List.getElem?_map] at hq
  obtain ⟨x, h1, h2⟩ := Option.map_eq_some_iff.1 hq
  exact ⟨x, h1, h2, h.words x (List.mem_of_getElem? h1)⟩
theorem ORs.idx {S : Mem} {L : List Ob} {om : List Om} {p : Option Addr} {l c : Nat} (h : ORs S L om p l c) {w : World} (hw : Has S w) {q : Nat} {x : Om} (hx : om[q]? = some x) {K : Addr → Prop}
    (hk : ∀ a, (∀ j v, x.cells[j]? = some v → w.cell? (a.add j) = some v) → K a) : IdxC p l (q : Int) 5 K := by
  have h1 := h.omlen; have h2 := h.len; have h3 := get_lt hx
  refine h.row.idx hw (by omega) (by omega) fun a ha => hk a fun j v hj => ?_
  have hlt : j < 5 := by have := get_lt hj; rwa [Om.len] at this
  exact ha j v hlt (by rw [ocells_get hx hlt]; exact hj)
theorem ORs.nil (S : Mem) : ORs S [] [] none 0 0 := ⟨rfl, fun x hx => by simp at hx, ⟨rfl, by omega, by omega, fun u hu => by simp [ocells] at hu, fun j v hj => by simp [ocells] at hj⟩⟩

/-- the document's arena, as it lies in its five cells. -/
structure Rm where
  n : Int
  lp : Option Addr
  ll : Nat
  lc : Nat
  hp : Option Addr
  hl : Nat
  hc : Nat
  en : Int
  op : Bool
def Rm.cells (r : Rm) : List Value := [.int .i64 r.n, .slice r.lp r.ll r.lc, .slice r.hp r.hl r.hc, .int .i64 r.en, .bool r.op]
def Rm.agg (r : Rm) : Value := .agg #[.int .i64 r.n, .slice r.lp r.ll r.lc, .slice r.hp r.hl r.hc, .int .i64 r.en, .bool r.op]
def rm0 : List Value := [.int .i64 0, .slice none 0 0, .slice none 0 0, .int .i64 0, .bool false]
section
variable {L : List HP} {w : World} {b b' T T' : Nat}
theorem ldRm {r : Rm} {K : Int → Option Addr → Nat → Nat → Option Addr → Nat → Nat → Int → Bool → Prop} (hs : Sat L w) (i : Nat) (hi : L[i]? = some (Row b r.cells T)) (h : K r.n r.lp r.ll r.lc r.hp r.hl r.hc r.en r.op) :
    LdI .i64 w ⟨b, 0, none⟩ fun n => LdS w (Addr.add ⟨b, 0, none⟩ 1) fun p l c => LdS w (Addr.add ⟨b, 0, none⟩ 2) fun q m d => LdI .i64 w (Addr.add ⟨b, 0, none⟩ 3) fun n1 => LdB w (Addr.add ⟨b, 0, none⟩ 4) fun b2 => K n p l c q m d n1 b2 := by
  simp only [add_mk, Nat.zero_add]
  exact LdI.of hs i hi (off := 0) rfl rfl (LdS.of hs i hi (off := 1) rfl rfl (LdS.of hs i hi (off := 2) rfl rfl (LdI.of hs i hi (off := 3) rfl rfl (LdB.of hs i hi (off := 4) rfl rfl h))))
theorem cpRm {r : Rm} {c0 c1 c2 c3 c4 : Value} {K : World → Prop} (hs : Sat L w) (i : Nat) (hi : L[i]? = some (Row b r.cells T)) (j : Nat) (hj : L[j]? = some (Row b' [c0, c1, c2, c3, c4] T'))
    (h : ∀ w', Sat (L.set j (Row b' r.cells T')) w' → K w') :
    LdI .i64 w ⟨b, 0, none⟩ fun n => LdS w (Addr.add ⟨b, 0, none⟩ 1) fun p l c => LdS w (Addr.add ⟨b, 0, none⟩ 2) fun q m d => LdI .i64 w (Addr.add ⟨b, 0, none⟩ 3) fun n1 => LdB w (Addr.add ⟨b, 0, none⟩ 4) fun b2 =>
    StC w ⟨b', 0, none⟩ (.int .i64 n) fun w => StC w (Addr.add ⟨b', 0, none⟩ 1) (.slice p l c) fun w => StC w (Addr.add ⟨b', 0, none⟩ 2) (.slice q m d) fun w => StC w (Addr.add ⟨b', 0, none⟩ 3) (.int .i64 n1) fun w => StC w (Addr.add ⟨b', 0, none⟩ 4) (.bool b2) K := by
  refine ldRm hs i hi ?_
  exact stRow5 hs j hj h
theorem mvRm {r : Rm} {c0 c1 c2 c3 c4 : Value} {K : Int → Option Addr → Nat → Nat → Option Addr → Nat → Nat → Int → Bool → World → Prop} (hs : Sat L w) (i : Nat) (hi : L[i]? = some (Row b r.cells T)) (j : Nat) (hj : L[j]? = some (Row b' [c0, c1, c2, c3, c4] T'))
    (h : ∀ w', Sat (L.set j (Row b' r.cells T')) w' → K r.n r.lp r.ll r.lc r.hp r.hl r.hc r.en r.op w') :
    LdI .i64 w ⟨b, 0, none⟩ fun n => LdS w (Addr.add ⟨b, 0, none⟩ 1) fun p l c => LdS w (Addr.add ⟨b, 0, none⟩ 2) fun q m d => LdI .i64 w (Addr.add ⟨b, 0, none⟩ 3) fun n1 => LdB w (Addr.add ⟨b, 0, none⟩ 4) fun b2 =>
    StC w ⟨b', 0, none⟩ (.int .i64 n) fun w => StC w (Addr.add ⟨b', 0, none⟩ 1) (.slice p l c) fun w => StC w (Addr.add ⟨b', 0, none⟩ 2) (.slice q m d) fun w => StC w (Addr.add ⟨b', 0, none⟩ 3) (.int .i64 n1) fun w => StC w (Addr.add ⟨b', 0, none⟩ 4) (.bool b2) fun w =>
    LdI .i64 w ⟨b', 0, none⟩ fun n => LdS w (Addr.add ⟨b', 0, none⟩ 1) fun p l c => LdS w (Addr.add ⟨b', 0, none⟩ 2) fun q m d => LdI .i64 w (Addr.add ⟨b', 0, none⟩ 3) fun n1 => LdB w (Addr.add ⟨b', 0, none⟩ 4) fun b2 => K n p l c q m d n1 b2 w := by
  refine cpRm hs i hi j hj fun w1 h1 => ?_
  exact ldRm (r := r) h1 j (get_set_self hj) (h w1 h1)
theorem ldOm {a : Addr} {x : Om} {K : Int → Int → Int → Bool → Option Addr → Nat → Nat → Prop} (hc : ∀ j v, x.cells[j]? = some v → w.cell? (a.add j) = some v) (h : K x.o.tag x.o.refs x.o.owner x.o.mark x.p x.o.w.length x.c) :
    LdI .i64 w a fun n => LdI .i64 w (Addr.add a 1) fun n1 => LdI .i64 w (Addr.add a 2) fun n2 => LdB w (Addr.add a 3) fun b => LdS w (Addr.add a 4) fun p l c => K n n1 n2 b p l c :=
  LdI.at (by simpa [Addr.add] using hc 0 _ rfl) (LdI.at (hc 1 _ rfl) (LdI.at (hc 2 _ rfl) (LdB.at (hc 3 _ rfl) (LdS.at (hc 4 _ rfl) h))))
theorem ldOmRow {x : Om} {K : Int → Int → Int → Bool → Option Addr → Nat → Nat → Prop} (hs : Sat L w) (i : Nat) (hi : L[i]? = some (Row b x.cells T)) (h : K x.o.tag x.o.refs x.o.owner x.o.mark x.p x.o.w.length x.c) :
    LdI .i64 w ⟨b, 0, none⟩ fun n => LdI .i64 w (Addr.add ⟨b, 0, none⟩ 1) fun n1 => LdI .i64 w (Addr.add ⟨b, 0, none⟩ 2) fun n2 => LdB w (Addr.add ⟨b, 0, none⟩ 3) fun b' => LdS w (Addr.add ⟨b, 0, none⟩ 4) fun p l c => K n n1 n2 b' p l c :=
  ldOm (fun j v hj => by rw [add_mk, Nat.zero_add]; exact hs.cell i hi hj) h
theorem stOm {e g l c q : Nat} {p : Option Addr} {om : List Om} {x : Om} {K : World → Prop} (hs : Sat L w) (k : Nat) (hk : L[k]? = some (Own e 5 p l c (ocells om))) (hg : p = some ⟨g, 0, none⟩) (hq : q < om.length)
    (h : ∀ w', Sat (L.set k (Own e 5 p l c (ocells (om.set q x)))) w' → K w') :
    StC w ⟨g, q * 5, none⟩ (.int .i64 (x.o.tag : Int)) fun w => StC w (Addr.add ⟨g, q * 5, none⟩ 1) (.int .i64 (x.o.refs : Int)) fun w => StC w (Addr.add ⟨g, q * 5, none⟩ 2) (.int .i64 (x.o.owner : Int)) fun w => StC w (Addr.add ⟨g, q * 5, none⟩ 3) (.bool x.o.mark) fun w => StC w (Addr.add ⟨g, q * 5, none⟩ 4) (.slice x.p x.o.w.length x.c) K := by
  simp only [add_mk]
  have hl := ocells_len om
  have hlt : ∀ j, j < 5 → q * 5 + j < (ocells om).length := fun j hj => by omega
  have g0 : ∀ (xs : List Value) j, xs.length = (ocells om).length → j < 5 → xs[q * 5 + j]? = some (xs.getD (q * 5 + j) undef) := fun xs j he hj => by
    have := hlt j hj
    rw [List.getD_eq_getElem?_getD, List.getElem?_eq_getElem (by omega)]; rfl
  refine StC.ownAt hs k hk hg (off := q * 5) (g0 _ 0 rfl (by omega)) rfl fun w1 h1 => ?_
  refine StC.ownAt h1 k (get_set_self hk) hg (off := q * 5 + 1) (g0 _ 1 (by simp) (by omega)) rfl fun w2 h2 => ?_
  rw [set_set_self] at h2
  refine StC.ownAt h2 k (get_set_self hk) hg (off := q * 5 + 2) (g0 _ 2 (by simp) (by omega)) rfl fun w3 h3 => ?_
  rw [set_set_self] at h3
  refine StC.ownAt h3 k (get_set_self hk) hg (off := q * 5 + 3) (g0 _ 3 (by simp) (by omega)) rfl fun w4 h4 => ?_
  rw [set_set_self] at h4
  refine StC.ownAt h4 k (get_set_self hk) hg (off := q * 5 + 4) (g0 _ 4 (by simp) (by omega)) rfl fun w5 h5 => ?_
  rw [set_set_self, ocells_set om q x hq] at h5
  exact h w5 h5
end

set_option maxRecDepth 100000 in
theorem eok_ob : EOK Try.prog 59 81 5 56 := ⟨by kernel_rfl, ⟨_, _, rfl, rfl, rfl, rfl, rfl⟩, by omega⟩
set_option maxRecDepth 100000 in
theorem eok_wd : EOK Try.prog 32 33 1 8 := ⟨by kernel_rfl, ⟨_, _, rfl, rfl, rfl, rfl, rfl⟩, by omega⟩

/-- the document's arena is as it is meant. -/
structure RAr (S : Mem) (m : Am) (r : Rm) : Prop where
  n : r.n = m.n
  en : r.en = m.hi
  op : r.op = m.op
  lo : ∃ om, ORs S m.low om r.lp r.ll r.lc
  hi : ∃ om, ORs S m.high om r.hp r.hl r.hc
theorem RAr.mono {S S' : Mem} (e : Ext S S') {m : Am} {r : Rm} (h : RAr S m r) : RAr S' m r := by
  obtain ⟨om, h1⟩ := h.lo
  obtain ⟨hm, h2⟩ := h.hi
  exact ⟨h.n, h.en, h.op, ⟨om, h1.mono e⟩, ⟨hm, h2.mono e⟩⟩

theorem osz_step {L : List Ob} {q : Nat} {o : Ob} (h : L[q]? = some o) : osz (L.take (q + 1)) = osz (L.take q) + 1 + o.w.length := by
  rw [List.take_add_one, h, osz_app]; simp [osz]; omega
theorem osz_take_le (L : List Ob) (q : Nat) : osz (L.take q) ≤ osz L := by
  have : osz L = osz (L.take q) + osz (L.drop q) := by rw [← osz_app, List.take_append_drop]
  omega
theorem osz_lt {L : List Ob} {q : Nat} {o : Ob} (h : L[q]? = some o) : osz (L.take q) + 1 + o.w.length ≤ osz L := by rw [← osz_step h]; exact osz_take_le L _
theorem osz_len : ∀ L : List Ob, L.length ≤ osz L
  | [] => by simp
  | o :: L => by have := osz_len L; simp only [osz, List.length_cons]; omega
theorem findL_at : ∀ {L : List Ob} {k i : Nat} {o : Ob}, L[i]? = some o → findL k L (k + osz (L.take i)) = some o
  | [], _, _, _, h => by simp at h
  | y :: L, k, 0, o, h => by simp only [List.getElem?_cons_zero, Option.some.injEq] at h; subst h; simp [findL, osz]
  | y :: L, k, i + 1, o, h => by
    simp only [List.getElem?_cons_succ] at h
    have ih := findL_at (k := k + 1 + y.w.length) h
    simp only [findL, List.take_succ_cons, osz]
    rw [if_neg (by omega), ← ih]
    congr 1; omega
theorem setL_at : ∀ {L : List Ob} {k i : Nat} {o o' : Ob}, L[i]? = some o → setL k L (k + osz (L.take i)) o' = L.set i o'
  | [], _, _, _, _, h => by simp at h
  | y :: L, k, 0, o, o', h => by simp [setL, osz]
  | y :: L, k, i + 1, o, o', h => by
    simp only [List.getElem?_cons_succ] at h
    have ih := setL_at (k := k + 1 + y.w.length) (o' := o') h
    simp only [setL, List.take_succ_cons, osz, List.set_cons_succ]
    rw [if_neg (by omega), ← ih]
    congr 2; omega
theorem findL_no : ∀ {L : List Ob} {k at_ : Nat}, (∀ i o, L[i]? = some o → at_ ≠ k + osz (L.take i)) → findL k L at_ = none
  | [], _, _, _ => rfl
  | y :: L, k, at_, h => by
    have h0 := h 0 y rfl
    simp only [List.take_zero, osz, Nat.add_zero] at h0
    simp only [findL]
    rw [if_neg (fun e => h0 e.symm)]
    refine findL_no fun i o hi => ?_
    have := h (i + 1) o (by simpa using hi)
    simp only [List.take_succ_cons, osz] at this
    omega
theorem setL_no : ∀ {L : List Ob} {k at_ : Nat} {o' : Ob}, (∀ i o, L[i]? = some o → at_ ≠ k + osz (L.take i)) → setL k L at_ o' = L
  | [], _, _, _, _ => rfl
  | y :: L, k, at_, o', h => by
    have h0 := h 0 y rfl
    simp only [List.take_zero, osz, Nat.add_zero] at h0
    simp only [setL]
    rw [if_neg (fun e => h0 e.symm), setL_no fun i o hi => ?_]
    have := h (i + 1) o (by simpa using hi)
    simp only [List.take_succ_cons, osz] at this
    omega

/-- where an object is found. -/
inductive Found (m : Am) (at_ : Int) : Bool → Int → Prop
  | none : m.findI at_ = none → Found m at_ false (-1)
  | low (k : Nat) (o : Ob) : m.low[k]? = some o → at_ = ((osz (m.low.take k) : Nat) : Int) → m.findI at_ = some o → (∀ o', m.set at_.toNat o' = { m with low := m.low.set k o' }) → Found m at_ false (k : Nat)
  | high (k : Nat) (o : Ob) : m.high[k]? = some o → at_ = ((m.hi + osz (m.high.take k) : Nat) : Int) → m.findI at_ = some o → (∀ o', m.set at_.toNat o' = { m with high := m.high.set k o' }) → Found m at_ true (k : Nat)

section
variable {W : World} {S : Mem} {F : List HP} {w : World} {m : Am} {r : Rm}
theorem rsize_c {L : List Ob} {om : List Om} {p : Option Addr} {l c : Nat} (h : ORs S L om p l c) (hb : osz L ≤ 1048576) (hs : Sat (Ro W S :: F) w) :
    Calls Try.prog 52 #[.slice p l c] w (Ret (.int .i64 ((osz L : Nat) : Int)) (Sat (Ro W S :: F))) := by
  have hl := h.len; have hln := osz_len L
  refine S_ref7_size_ok _ _ _ _ _ ?_
  unfold S_ref7_size
  refine ⟨fun n i w => ∃ q : Nat, i = q ∧ q ≤ L.length ∧ n = ((osz (L.take q) : Nat) : Int) ∧ Sat (Ro W S :: F) w, fun _ i _ => (L.length - i).toNat, ⟨0, rfl, by omega, rfl, hs⟩, ?_⟩
  rintro n i w1 ⟨q, rfl, hq, rfl, h1⟩
  unfold S_ref7_size_l0
  by_cases hql : q < L.length
  · refine cond_t (by simp; omega) ?_
    have hx : L[q]? = some L[q] := List.getElem?_eq_getElem hql
    generalize L[q] = o at hx
    obtain ⟨x, hx1, rfl, _⟩ := h.get hx
    have h2 := osz_step hx; have h3 := osz_lt hx
    refine h.idx (h1.has 0 rfl) hx1 fun a ha => LdS.at (ha 4 _ rfl) ?_
    rw [wrapI64 (n := ((osz (L.take q) : Nat) : Int) + 1) (by omega) (by omega), wrapI64 (by omega) (by omega), wrapI64 (by omega) (by omega)]
    exact ⟨⟨q + 1, by omega, by omega, by omega, h1⟩, by first | omega | (dsimp only; omega)⟩
  · have : q = L.length := by omega
    subst this
    rw [List.take_length]
    exact cond_f (by simp; omega) ⟨rfl, h1⟩

theorem rtop_c (hr : RAr S m r) (hm : m.WF) (hs : Sat (Ro W S :: F) w) : Calls Try.prog 45 #[r.agg] w (Ret (.int .i64 ((m.top : Nat) : Int)) (Sat (Ro W S :: F))) := by
  have h1 := hm.low_le; have h2 := hm.hi_le; have h3 := hm.top; have h4 := hm.most; have hen := hr.en
  obtain ⟨lo, hlo⟩ := hr.lo
  obtain ⟨hi, hhi⟩ := hr.hi
  refine S_ref7_Top_ok _ _ _ _ _ _ _ _ _ _ _ ?_
  unfold S_ref7_Top
  refine NewC.ofRow hs fun b0 w1 h5 => ?_
  have h5 : Sat (Row b0 r.cells 61 :: Ro W S :: F) w1 := h5
  refine LdB.of h5 0 rfl (off := 4) rfl (by simp [add_mk]) ?_
  have hop := hr.op
  cases ho : m.op
  · rw [ho] at hop
    rw [hop]
    refine cond_f rfl ?_
    refine LdS.of h5 0 rfl (off := 1) rfl (by simp [add_mk]) ?_
    refine (rsize_c hlo (by omega) (h5.pull 1 rfl)).mono ?_
    rintro e w2 ⟨rfl, h6⟩
    refine ⟨_, rfl, ?_, (h6.pull 1 rfl).drop⟩
    simp only [Am.top, ho, cond_false]
  · rw [ho] at hop
    rw [hop]
    refine cond_t rfl ?_
    have h6 := h5.drew
    refine ⟨fun w => ∃ L i, L[i]? = some (Row b0 r.cells 61) ∧ Sat L w, ⟨_, 0, rfl, h6⟩, ?_⟩
    refine ⟨r.en, fun w ⟨L, i, hi, h⟩ => LdI.of h i hi (off := 3) rfl (by simp [add_mk]) rfl, ?_⟩
    refine ⟨r.hp, r.hl, r.hc, fun w ⟨L, i, hi, h⟩ => LdS.of h i hi (off := 2) rfl (by simp [add_mk]) rfl, ?_⟩
    refine (rsize_c hhi (by omega) (h6.pull 1 rfl)).mono ?_
    rintro e w2 ⟨rfl, h7⟩
    refine ⟨_, rfl, ⟨_, 1, rfl, h7⟩, ?_, (h7.pull 1 rfl).drop⟩
    have ht : m.top = m.hi + osz m.high := by simp only [Am.top, ho, cond_true]
    rw [hen, wrapI64 (by omega) (by omega), ht]
    simp

theorem rfind_c (hr : RAr S m r) (hm : m.WF) (at_ : Int) (hs : Sat (Ro W S :: F) w) : Calls Try.prog 51 #[r.agg, .int .i64 at_] w fun e w' =>
    ∃ (hb : Bool) (i : Int), Found m at_ hb i ∧ Ret (.tuple #[.bool hb, .int .i64 i]) (Sat (Ro W S :: F)) e w' := by
  have h1 := hm.low_le; have h2 := hm.hi_le; have h3 := hm.top; have h4 := hm.most; have hen := hr.en
  obtain ⟨lo, hlo⟩ := hr.lo
  obtain ⟨hi, hhi⟩ := hr.hi
  have hll := hlo.len; have hhl := hhi.len; have ln1 := osz_len m.low; have ln2 := osz_len m.high
  refine S_ref7_find_ok _ _ _ _ _ _ _ _ _ _ _ _ ?_
  unfold S_ref7_find
  refine NewC.ofRow hs fun b0 w1 h5 => ?_
  refine ⟨fun k i w => ∃ q : Nat, i = q ∧ q ≤ m.low.length ∧ k = ((osz (m.low.take q) : Nat) : Int) ∧ (∀ j, j < q → at_ ≠ ((osz (m.low.take j) : Nat) : Int)) ∧ Sat (Row b0 r.cells 61 :: Ro W S :: F) w, fun _ i _ => (m.low.length - i).toNat, ⟨0, rfl, by omega, rfl, fun j hj => by omega, h5⟩, ?_⟩
  clear h5
  rintro k i w2 ⟨q, rfl, hq, rfl, hno, h6⟩
  unfold S_ref7_find_l1
  refine LdS.of h6 0 rfl (off := 1) rfl (by simp [add_mk]) ?_
  by_cases hql : q < m.low.length
  · refine cond_t (by simp; omega) ?_
    have hx : m.low[q]? = some m.low[q] := List.getElem?_eq_getElem hql
    generalize m.low[q] = o at hx
    by_cases he : ((osz (m.low.take q) : Nat) : Int) = at_
    · refine cond_t (by simpa using he) ⟨_, _, .low q o hx he.symm ?_ fun o' => ?_, rfl, h6.drop⟩
      · have h7 := findL_at (k := 0) hx
        rw [Nat.zero_add] at h7
        subst he
        simp [Am.findI, Am.find, h7]
      · have h7 := findL_at (k := 0) hx
        have h8 := setL_at (k := 0) (o' := o') hx
        rw [Nat.zero_add] at h7 h8
        subst he
        simp [Am.set, h7, h8]
    · refine cond_f (by simpa using he) ?_
      obtain ⟨x, hx1, rfl, _⟩ := hlo.get hx
      have h7 := osz_step hx; have h8 := osz_lt hx
      refine LdS.of h6 0 rfl (off := 1) rfl (by simp [add_mk]) ?_
      refine hlo.idx (h6.has 1 rfl) hx1 fun a ha => LdS.at (ha 4 _ rfl) ?_
      rw [wrapI64 (n := ((osz (m.low.take q) : Nat) : Int) + 1) (by omega) (by omega), wrapI64 (by omega) (by omega), wrapI64 (by omega) (by omega)]
      refine ⟨⟨q + 1, by omega, by omega, by omega, fun j hj => ?_, h6⟩, by first | omega | (dsimp only; omega)⟩
      by_cases hjq : j = q
      · subst hjq; exact fun e => he e.symm
      · exact hno j (by omega)
  have hqe : q = m.low.length := by omega
  refine cond_f (by simp; omega) ?_
  have nolow : ∀ i o, m.low[i]? = some o → at_ ≠ ((osz (m.low.take i) : Nat) : Int) := fun i o hi => hno i (by have := get_lt hi; omega)
  refine LdI.of h6 0 rfl (off := 3) rfl (by simp [add_mk]) ?_
  refine ⟨fun k i w => ∃ q : Nat, i = q ∧ q ≤ m.high.length ∧ k = ((m.hi + osz (m.high.take q) : Nat) : Int) ∧ (∀ j, j < q → at_ ≠ ((m.hi + osz (m.high.take j) : Nat) : Int)) ∧ Sat (Row b0 r.cells 61 :: Ro W S :: F) w, fun _ i _ => (m.high.length - i).toNat,
    ⟨0, rfl, by omega, by rw [hen]; simp [osz], fun j hj => by omega, h6⟩, ?_⟩
  clear h6 hno hq hql hqe
  rintro k i w2 ⟨q, rfl, hq, rfl, hno, h6⟩
  unfold S_ref7_find_l0
  refine LdS.of h6 0 rfl (off := 2) rfl (by simp [add_mk]) ?_
  by_cases hql : q < m.high.length
  · refine cond_t (by simp; omega) ?_
    have hx : m.high[q]? = some m.high[q] := List.getElem?_eq_getElem hql
    generalize m.high[q] = o at hx
    by_cases he : ((m.hi + osz (m.high.take q) : Nat) : Int) = at_
    · have nl : findL 0 m.low at_.toNat = none := findL_no fun i o hi => by have := nolow i o hi; omega
      have nls : ∀ o', setL 0 m.low at_.toNat o' = m.low := fun o' => setL_no fun i o hi => by have := nolow i o hi; omega
      have eat : at_.toNat = m.hi + osz (m.high.take q) := by omega
      refine cond_t (by simpa using he) ⟨_, _, .high q o hx he.symm ?_ fun o' => ?_, rfl, h6.drop⟩
      · have h7 := findL_at (k := m.hi) hx
        rw [← eat] at h7
        rw [Am.findI, if_pos (by omega), Am.find, nl, h7]; rfl
      · have h8 := setL_at (k := m.hi) (o' := o') hx
        rw [← eat] at h8
        simp [Am.set, nl, nls, h8]
    · refine cond_f (by simpa using he) ?_
      obtain ⟨x, hx1, rfl, _⟩ := hhi.get hx
      have h7 := osz_step hx; have h8 := osz_lt hx
      refine LdS.of h6 0 rfl (off := 2) rfl (by simp [add_mk]) ?_
      refine hhi.idx (h6.has 1 rfl) hx1 fun a ha => LdS.at (ha 4 _ rfl) ?_
      rw [wrapI64 (n := ((m.hi + osz (m.high.take q) : Nat) : Int) + 1) (by omega) (by omega), wrapI64 (by omega) (by omega), wrapI64 (by omega) (by omega)]
      refine ⟨⟨q + 1, by omega, by omega, by omega, fun j hj => ?_, h6⟩, by first | omega | (dsimp only; omega)⟩
      by_cases hjq : j = q
      · subst hjq; exact fun e => he e.symm
      · exact hno j (by omega)
  · refine cond_f (by simp; omega) ⟨_, _, .none ?_, rfl, h6.drop⟩
    rw [Am.findI]
    by_cases h0 : 0 ≤ at_
    · rw [if_pos h0, Am.find, findL_no fun i o hi => by have := nolow i o hi; omega, findL_no fun i o hi => by have := hno i (by have := get_lt hi; omega); omega]; rfl
    · rw [if_neg h0]
end
end Go.Proofs.Ytmcifhineibhpaa
