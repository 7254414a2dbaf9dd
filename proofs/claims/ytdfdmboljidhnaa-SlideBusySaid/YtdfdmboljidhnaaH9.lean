
/- The document's own heap (ref9): objects as lists that stand; what its functions come to, told by the heap itself: the handles in the order in which they were made, and what each object holds. -/
import Derived.Test.YtdfdmboljidhnaaGk
set_option maxRecDepth 100000
namespace Go.Hm
open Go Go.Lw Go.Wd Go.Am Go.Tb
/-- an object of the document. -/
structure R9 where
  h : Nat
  tag : Nat
  refs : List Nat
  words : List Nat
  deriving DecidableEq
/-- an object, as the document has it. -/
def rob (H : Hp) (x : Nat) : R9 := match H.look x with | some o => ⟨x, o.tag, o.w.take o.refs, o.w.drop o.refs⟩ | none => ⟨x, 0, [], []⟩
theorem rob_h (H : Hp) (x : Nat) : (rob H x).h = x := by unfold rob; split <;> rfl
def rcell (x : R9 × Gq) : List Value := [.int .u64 (x.1.h : Int), .int .i64 (x.1.tag : Int), .slice x.2.pr x.1.refs.length x.2.cr, .slice x.2.pw x.1.words.length x.2.cw]
def ragg (x : R9 × Gq) : Value := .agg #[.int .u64 (x.1.h : Int), .int .i64 (x.1.tag : Int), .slice x.2.pr x.1.refs.length x.2.cr, .slice x.2.pw x.1.words.length x.2.cw]
def rcells (om : List (R9 × Gq)) : List Value := om.flatMap rcell
theorem rcells_snoc (om : List (R9 × Gq)) (x : R9 × Gq) : rcells (om ++ [x]) = rcells om ++ rcell x := by simp [rcells]
theorem rcells_len (l : List (R9 × Gq)) : (rcells l).length = l.length * 4 := by
  induction l with
  | nil => rfl
  | cons x l ih => unfold rcells at ih ⊢; rw [List.flatMap_cons, List.length_append, ih, List.length_cons]; simp [rcell]; omega
theorem rcells_one (l : List (R9 × Gq)) : ∀ u ∈ rcells l, u.oneCell' = true := by
  intro u hu
  obtain ⟨x, _, hx⟩ := List.mem_flatMap.1 hu
  simp only [rcell, List.mem_cons, List.not_mem_nil, or_false] at hx
  rcases hx with rfl | rfl | rfl | rfl <;> rfl
theorem rcells_get : ∀ {l : List (R9 × Gq)} {q j : Nat} {x : R9 × Gq}, l[q]? = some x → j < 4 → (rcells l)[q * 4 + j]? = (rcell x)[j]?
  | [], _, _, _, h, _ => by simp at h
  | y :: l, 0, j, x, h, hj => by
    simp only [List.getElem?_cons_zero, Option.some.injEq] at h
    subst h
    unfold rcells
    rw [List.flatMap_cons, Nat.zero_mul, Nat.zero_add, List.getElem?_append_left (by simp [rcell]; exact hj)]
  | y :: l, q + 1, j, x, h, hj => by
    simp only [List.getElem?_cons_succ] at h
    have ih := rcells_get h hj
    unfold rcells at ih ⊢
    have h3 : (rcell y).length = 4 := rfl
    rw [List.flatMap_cons, List.getElem?_append_right (by rw [h3]; omega), ← ih, h3]
    congr 1
    omega
theorem rcells_set : ∀ (l : List (R9 × Gq)) (q : Nat) (x : R9 × Gq), q < l.length →
    ((((rcells l).set (q * 4) (.int .u64 (x.1.h : Int))).set (q * 4 + 1) (.int .i64 (x.1.tag : Int))).set (q * 4 + 2) (.slice x.2.pr x.1.refs.length x.2.cr)).set (q * 4 + 3) (.slice x.2.pw x.1.words.length x.2.cw) = rcells (l.set q x)
  | [], _, _, h => by simp at h
  | y :: l, 0, x, _ => rfl
  | y :: l, q + 1, x, h => by
    have ih := rcells_set l q x (by simpa using h)
    have e : ∀ z l, rcells (z :: l) = .int .u64 (z.1.h : Int) :: .int .i64 (z.1.tag : Int) :: .slice z.2.pr z.1.refs.length z.2.cr :: .slice z.2.pw z.1.words.length z.2.cw :: rcells l := fun z l => rfl
    rw [List.set_cons_succ, e, e, ← ih, show (q + 1) * 4 = q * 4 + 1 + 1 + 1 + 1 by omega]
    rw [show q * 4 + 1 + 1 + 1 + 1 + 2 = q * 4 + 2 + 1 + 1 + 1 + 1 by omega, show q * 4 + 1 + 1 + 1 + 1 + 3 = q * 4 + 3 + 1 + 1 + 1 + 1 by omega]
    simp only [List.set_cons_succ]
/-- an object's slices stand. -/
structure R9R (S : Mem) (x : R9 × Gq) : Prop where
  refs : CRs S 1 (words x.1.refs) x.2.pr x.1.refs.length x.2.cr
  words : CRs S 1 (words x.1.words) x.2.pw x.1.words.length x.2.cw
theorem R9R.mono {S S' : Mem} (e : Ext S S') {x : R9 × Gq} (h : R9R S x) : R9R S' x := ⟨h.refs.mono e, h.words.mono e⟩
/-- objects in a row that stands. -/
structure R9s (S : Mem) (ns : List R9) (om : List (R9 × Gq)) (p : Option Addr) (l c : Nat) : Prop where
  same : om.map (·.1) = ns
  parts : ∀ x ∈ om, R9R S x
  row : CRs S 4 (rcells om) p l c
theorem R9s.mono {S S' : Mem} (e : Ext S S') {ns : List R9} {om : List (R9 × Gq)} {p : Option Addr} {l c : Nat} (h : R9s S ns om p l c) : R9s S' ns om p l c := ⟨h.same, fun x hx => (h.parts x hx).mono e, h.row.mono e⟩
theorem R9s.omlen {S : Mem} {ns : List R9} {om : List (R9 × Gq)} {p : Option Addr} {l c : Nat} (h : R9s S ns om p l c) : om.length = ns.length := by rw [← h.same, List.length_map]
theorem R9s.len {S : Mem} {ns : List R9} {om : List (R9 × Gq)} {p : Option Addr} {l c : Nat} (h : R9s S ns om p l c) : l = ns.length := by
  have h1 := h.row.len
  have h2 := h.omlen
  rw [rcells_len] at h1
  omega
theorem R9s.get {S : Mem} {ns : List R9} {om : List (R9 × Gq)} {p : Option Addr} {l c : Nat} (h : R9s S ns om p l c) {q : Nat} {n : R9} (hq : ns[q]? = some n) : ∃ x, om[q]? = some x ∧ x.1 = n ∧ R9R S x := by
  rw [← h.same, List.getElem?_map] at hq
  obtain ⟨x, h1, h2⟩ := Option.map_eq_some_iff.1 hq
  exact ⟨x, h1, h2, h.parts x (List.mem_of_getElem? h1)⟩
theorem R9s.idx {S : Mem} {ns : List R9} {om : List (R9 × Gq)} {p : Option Addr} {l c : Nat} (h : R9s S ns om p l c) {w : World} (hw : Has S w) {q : Nat} {x : R9 × Gq} (hx : om[q]? = some x) {K : Addr → Prop}
    (hk : ∀ a, (∀ j v, (rcell x)[j]? = some v → w.cell? (a.add j) = some v) → K a) : IdxC p l (q : Int) 4 K := by
  have h1 := h.omlen; have h2 := h.len; have h3 := get_lt hx
  refine h.row.idx hw (by omega) (by omega) fun a ha => hk a fun j v hj => ?_
  have hlt : j < 4 := get_lt hj
  exact ha j v hlt (by rw [rcells_get hx hlt]; exact hj)
theorem R9s.nil (S : Mem) : R9s S [] [] none 0 0 := ⟨rfl, fun x hx => (by cases hx), ⟨rfl, by omega, by omega, fun u hu => (by cases hu), fun j v hj => (by simp [rcells] at hj)⟩⟩

/-- the document's heap, as it lies in its seventeen cells. -/
structure Rh where
  p : Option Addr
  l : Nat
  c : Nat
  a0 : Nat
  a1 : Nat
  a2 : Nat
  a3 : Nat
  a4 : Nat
  a5 : Nat
  a6 : Nat
  a7 : Nat
  a8 : Nat
  a9 : Nat
  a10 : Nat
  a11 : Nat
  a12 : Nat
  a13 : Nat
  a14 : Nat
  a15 : Nat
def Rh.rs (r : Rh) : List Nat := [r.a0, r.a1, r.a2, r.a3, r.a4, r.a5, r.a6, r.a7, r.a8, r.a9, r.a10, r.a11, r.a12, r.a13, r.a14, r.a15]
def Rh.cells (r : Rh) : List Value := .slice r.p r.l r.c :: words r.rs
def Rh.agg (r : Rh) : Value := .agg #[.slice r.p r.l r.c, .int .u64 (r.a0 : Int), .int .u64 (r.a1 : Int), .int .u64 (r.a2 : Int), .int .u64 (r.a3 : Int), .int .u64 (r.a4 : Int), .int .u64 (r.a5 : Int), .int .u64 (r.a6 : Int), .int .u64 (r.a7 : Int), .int .u64 (r.a8 : Int), .int .u64 (r.a9 : Int), .int .u64 (r.a10 : Int), .int .u64 (r.a11 : Int), .int .u64 (r.a12 : Int), .int .u64 (r.a13 : Int), .int .u64 (r.a14 : Int), .int .u64 (r.a15 : Int)]
def Rh.withL (r : Rh) (p : Option Addr) (l c : Nat) : Rh := { r with p := p, l := l, c := c }
def Rh.root (r : Rh) (i x : Nat) : Rh :=
  match i with
  | 0 => { r with a0 := x } | 1 => { r with a1 := x } | 2 => { r with a2 := x } | 3 => { r with a3 := x } | 4 => { r with a4 := x } | 5 => { r with a5 := x } | 6 => { r with a6 := x } | 7 => { r with a7 := x }
  | 8 => { r with a8 := x } | 9 => { r with a9 := x } | 10 => { r with a10 := x } | 11 => { r with a11 := x } | 12 => { r with a12 := x } | 13 => { r with a13 := x } | 14 => { r with a14 := x } | 15 => { r with a15 := x }
  | _ => r
theorem Rh.root_rs (r : Rh) {i x : Nat} (h : i < 16) : (r.root i x).rs = r.rs.set i x ∧ (r.root i x).p = r.p ∧ (r.root i x).l = r.l ∧ (r.root i x).c = r.c := by
  match i, h with
  | 0, _ => exact ⟨rfl, rfl, rfl, rfl⟩
  | 1, _ => exact ⟨rfl, rfl, rfl, rfl⟩
  | 2, _ => exact ⟨rfl, rfl, rfl, rfl⟩
  | 3, _ => exact ⟨rfl, rfl, rfl, rfl⟩
  | 4, _ => exact ⟨rfl, rfl, rfl, rfl⟩
  | 5, _ => exact ⟨rfl, rfl, rfl, rfl⟩
  | 6, _ => exact ⟨rfl, rfl, rfl, rfl⟩
  | 7, _ => exact ⟨rfl, rfl, rfl, rfl⟩
  | 8, _ => exact ⟨rfl, rfl, rfl, rfl⟩
  | 9, _ => exact ⟨rfl, rfl, rfl, rfl⟩
  | 10, _ => exact ⟨rfl, rfl, rfl, rfl⟩
  | 11, _ => exact ⟨rfl, rfl, rfl, rfl⟩
  | 12, _ => exact ⟨rfl, rfl, rfl, rfl⟩
  | 13, _ => exact ⟨rfl, rfl, rfl, rfl⟩
  | 14, _ => exact ⟨rfl, rfl, rfl, rfl⟩
  | 15, _ => exact ⟨rfl, rfl, rfl, rfl⟩
  | n + 16, h => omega
theorem Rh.rs_len (r : Rh) : r.rs.length = 16 := rfl
def Rh.zero : Rh := ⟨none, 0, 0, 0, 0, 0, 0, 0, 0, 0, 0, 0, 0, 0, 0, 0, 0, 0, 0⟩

/-- the document's heap says what the heap is: 'hs' are the live handles, in the order in which they were made. -/
structure Mir (S : Mem) (H : Hp) (hs : List Nat) (r : Rh) (om : List (R9 × Gq)) : Prop where
  nd : hs.Nodup
  live : ∀ x ∈ hs, (H.look x).isSome = true
  cls : ∀ y, (H.look y).isSome = true → (y ∈ H.roots ∨ ∃ x ∈ hs, y ∈ refsOf H x) → y ∈ hs
  roots : r.rs = H.roots
  objs : R9s S (hs.map (rob H)) om r.p r.l r.c
theorem rob_refs (H : Hp) (x : Nat) : (rob H x).refs = refsOf H x := by unfold rob refsOf; cases H.look x <;> rfl
theorem meets_sub {H : Hp} {hs : List Nat} : ∀ {ys l : List Nat}, (∀ y ∈ ys, (H.look y).isSome = true → y ∈ hs) → (∀ y ∈ l, y ∈ hs) → ∀ y ∈ meets H l ys, y ∈ hs
  | [], _, _, hl => hl
  | y :: ys, l, hy, hl => by
    have e : meets H l (y :: ys) = meets H (meet H l y) ys := rfl
    rw [e]
    refine meets_sub (fun z hz => hy z (List.mem_cons_of_mem _ hz)) fun z hz => ?_
    unfold meet at hz
    split at hz
    · rename_i c
      rcases List.mem_append.1 hz with h | h
      · exact hl z h
      · simp only [List.mem_singleton] at h; subst h; exact hy z List.mem_cons_self c.1
    · exact hl z hz
theorem Mir.walk {S : Mem} {H : Hp} {hs : List Nat} {r : Rh} {om : List (R9 × Gq)} (h : Mir S H hs r om) : ∀ k, ∀ x ∈ walkTo H k, x ∈ hs
  | 0 => meets_sub (fun y hy hl => h.cls y hl (.inl hy)) (fun _ hz => by cases hz)
  | k + 1 => by
    have e : walkTo H (k + 1) = walkStep H k (walkTo H k) := rfl
    rw [e]
    unfold walkStep
    split
    · rename_i x hx
      exact meets_sub (fun y hy hl => h.cls y hl (.inr ⟨x, h.walk k x (List.mem_of_getElem? hx), hy⟩)) (h.walk k)
    · exact h.walk k
theorem Mir.ord {S : Mem} {H : Hp} {hs : List Nat} {r : Rh} {om : List (R9 × Gq)} (h : Mir S H hs r om) {x : Nat} (hx : x ∈ order H) : x ∈ hs := h.walk _ x hx
theorem Mir.mono {S S' : Mem} (e : Ext S S') {H : Hp} {hs : List Nat} {r : Rh} {om : List (R9 × Gq)} (h : Mir S H hs r om) : Mir S' H hs r om := ⟨h.nd, h.live, h.cls, h.roots, h.objs.mono e⟩
/-- no more handles than there are slots taken. -/
theorem live_le {H : Hp} (hm : H.WF) {hs : List Nat} (nd : hs.Nodup) (hl : ∀ x ∈ hs, (H.look x).isSome = true) : hs.length ≤ H.t.count := by
  have hg : ∀ y ∈ hs, ∃ i s, y % 4294967296 = i + 1 ∧ H.t.find y = some i ∧ H.t.L[i]? = some s ∧ s.taken = true := fun y hy => by
    obtain ⟨o, ho⟩ := Option.isSome_iff_exists.1 (hl y hy)
    obtain ⟨h1, s, h2, h3, _⟩ := tfind_iff.1 (look_some hm ho).1
    exact ⟨_, s, h1, (look_some hm ho).1, h2, h3⟩
  have h1 := hm.tab.fr_len
  have := nodup_bound (n := H.t.L.length) (l := hs.map (fun y => y % 4294967296 - 1) ++ H.t.fr) ?_ ?_
  · rw [List.length_append, List.length_map] at this
    unfold Tab.count; omega
  · refine List.nodup_append.2 ⟨?_, hm.tab.nodup, fun a ha b hb => ?_⟩
    · unfold List.Nodup
      rw [List.pairwise_map]
      refine List.Pairwise.imp_of_mem (fun {a b} ha hb hne hh => ?_) nd
      obtain ⟨i, _, e1, f1, _⟩ := hg a ha
      obtain ⟨j, _, e2, f2, _⟩ := hg b hb
      have hij : i = j := by omega
      subst hij
      exact hne (tfind_inj f1 f2)
    · rintro rfl
      obtain ⟨y, hy, rfl⟩ := List.mem_map.1 ha
      obtain ⟨i, s, e1, _, f2, f3⟩ := hg y hy
      obtain ⟨s', g1, g2⟩ := (hm.tab.mem _).1 hb
      rw [e1, Nat.add_sub_cancel, f2] at g1
      cases g1
      rw [f3] at g2; cases g2
  · intro i hi
    rcases List.mem_append.1 hi with h | h
    · obtain ⟨y, hy, rfl⟩ := List.mem_map.1 h
      obtain ⟨i, s, e1, _, f2, _⟩ := hg y hy
      have := get_lt f2
      omega
    · exact hm.tab.mem_lt h
theorem Mir.len {S : Mem} {H : Hp} {hs : List Nat} {r : Rh} {om : List (R9 × Gq)} (h : Mir S H hs r om) : r.l = hs.length := by have := h.objs.len; simpa using this
theorem Mir.omlen {S : Mem} {H : Hp} {hs : List Nat} {r : Rh} {om : List (R9 × Gq)} (h : Mir S H hs r om) : om.length = hs.length := by have := h.objs.omlen; simpa using this
theorem Mir.get {S : Mem} {H : Hp} {hs : List Nat} {r : Rh} {om : List (R9 × Gq)} (h : Mir S H hs r om) {q x : Nat} (hq : hs[q]? = some x) : ∃ y, om[q]? = some y ∧ y.1 = rob H x ∧ R9R S y :=
  h.objs.get (by simp [hq])
theorem numI_some {l : List Nat} {x : Nat} (h : x ∈ l) : ∃ q : Nat, numI l x = q ∧ l[q]? = some x := by
  unfold numI
  cases hn : num l x with
  | none => exact absurd h (num_none.1 hn)
  | some q => exact ⟨q, rfl, num_some hn⟩
theorem numI_none {l : List Nat} {x : Nat} (h : x ∉ l) : numI l x = -1 := by unfold numI; rw [num_none.2 h]

section
variable {L : List HP} {w : World} {b b' T T' : Nat}
theorem ldRh {r : Rh} {K : Option Addr → Nat → Nat → Int → Int → Int → Int → Int → Int → Int → Int → Int → Int → Int → Int → Int → Int → Int → Int → Prop} (hs : Sat L w) (i : Nat) (hi : L[i]? = some (Row b r.cells T))
    (h : K r.p r.l r.c r.a0 r.a1 r.a2 r.a3 r.a4 r.a5 r.a6 r.a7 r.a8 r.a9 r.a10 r.a11 r.a12 r.a13 r.a14 r.a15) : Go.Proofs.Ytdfdmboljidhnaa.Ld_tidemarkref9_Heap w ⟨b, 0, none⟩ K := by
  unfold Go.Proofs.Ytdfdmboljidhnaa.Ld_tidemarkref9_Heap
  simp only [add_mk, Nat.zero_add]
  refine LdS.of hs i hi (off := 0) rfl rfl ?_
  refine LdI.of hs i hi (off := 1) rfl rfl ?_
  refine LdI.of hs i hi (off := 2) rfl rfl ?_
  refine LdI.of hs i hi (off := 3) rfl rfl ?_
  refine LdI.of hs i hi (off := 4) rfl rfl ?_
  refine LdI.of hs i hi (off := 5) rfl rfl ?_
  refine LdI.of hs i hi (off := 6) rfl rfl ?_
  refine LdI.of hs i hi (off := 7) rfl rfl ?_
  refine LdI.of hs i hi (off := 8) rfl rfl ?_
  refine LdI.of hs i hi (off := 9) rfl rfl ?_
  refine LdI.of hs i hi (off := 10) rfl rfl ?_
  refine LdI.of hs i hi (off := 11) rfl rfl ?_
  refine LdI.of hs i hi (off := 12) rfl rfl ?_
  refine LdI.of hs i hi (off := 13) rfl rfl ?_
  refine LdI.of hs i hi (off := 14) rfl rfl ?_
  refine LdI.of hs i hi (off := 15) rfl rfl ?_
  refine LdI.of hs i hi (off := 16) rfl rfl ?_
  exact h
theorem stRh {r : Rh} {cs : List Value} {K : World → Prop} (hc : cs.length = 17) (hs : Sat L w) (i : Nat) (hi : L[i]? = some (Row b cs T)) (h : ∀ w', Sat (L.set i (Row b r.cells T)) w' → K w') :
    Go.Proofs.Ytdfdmboljidhnaa.St_tidemarkref9_Heap w ⟨b, 0, none⟩ r.p r.l r.c r.a0 r.a1 r.a2 r.a3 r.a4 r.a5 r.a6 r.a7 r.a8 r.a9 r.a10 r.a11 r.a12 r.a13 r.a14 r.a15 K := by
  match cs, hc with
  | [c0, c1, c2, c3, c4, c5, c6, c7, c8, c9, c10, c11, c12, c13, c14, c15, c16], _ =>
    unfold Go.Proofs.Ytdfdmboljidhnaa.St_tidemarkref9_Heap
    simp only [add_mk, Nat.zero_add]
    refine StC.of hs i hi (off := 0) rfl rfl fun w0 h0 => ?_
    simp only [List.set_cons_zero] at h0
    refine StC.of h0 i (get_set_self hi) (off := 1) rfl rfl fun w1 h1 => ?_
    rw [set_set_self] at h1
    simp only [List.set_cons_succ, List.set_cons_zero] at h1
    refine StC.of h1 i (get_set_self hi) (off := 2) rfl rfl fun w2 h2 => ?_
    rw [set_set_self] at h2
    simp only [List.set_cons_succ, List.set_cons_zero] at h2
    refine StC.of h2 i (get_set_self hi) (off := 3) rfl rfl fun w3 h3 => ?_
    rw [set_set_self] at h3
    simp only [List.set_cons_succ, List.set_cons_zero] at h3
    refine StC.of h3 i (get_set_self hi) (off := 4) rfl rfl fun w4 h4 => ?_
    rw [set_set_self] at h4
    simp only [List.set_cons_succ, List.set_cons_zero] at h4
    refine StC.of h4 i (get_set_self hi) (off := 5) rfl rfl fun w5 h5 => ?_
    rw [set_set_self] at h5
    simp only [List.set_cons_succ, List.set_cons_zero] at h5
    refine StC.of h5 i (get_set_self hi) (off := 6) rfl rfl fun w6 h6 => ?_
    rw [set_set_self] at h6
    simp only [List.set_cons_succ, List.set_cons_zero] at h6
    refine StC.of h6 i (get_set_self hi) (off := 7) rfl rfl fun w7 h7 => ?_
    rw [set_set_self] at h7
    simp only [List.set_cons_succ, List.set_cons_zero] at h7
    refine StC.of h7 i (get_set_self hi) (off := 8) rfl rfl fun w8 h8 => ?_
    rw [set_set_self] at h8
    simp only [List.set_cons_succ, List.set_cons_zero] at h8
    refine StC.of h8 i (get_set_self hi) (off := 9) rfl rfl fun w9 h9 => ?_
    rw [set_set_self] at h9
    simp only [List.set_cons_succ, List.set_cons_zero] at h9
    refine StC.of h9 i (get_set_self hi) (off := 10) rfl rfl fun w10 h10 => ?_
    rw [set_set_self] at h10
    simp only [List.set_cons_succ, List.set_cons_zero] at h10
    refine StC.of h10 i (get_set_self hi) (off := 11) rfl rfl fun w11 h11 => ?_
    rw [set_set_self] at h11
    simp only [List.set_cons_succ, List.set_cons_zero] at h11
    refine StC.of h11 i (get_set_self hi) (off := 12) rfl rfl fun w12 h12 => ?_
    rw [set_set_self] at h12
    simp only [List.set_cons_succ, List.set_cons_zero] at h12
    refine StC.of h12 i (get_set_self hi) (off := 13) rfl rfl fun w13 h13 => ?_
    rw [set_set_self] at h13
    simp only [List.set_cons_succ, List.set_cons_zero] at h13
    refine StC.of h13 i (get_set_self hi) (off := 14) rfl rfl fun w14 h14 => ?_
    rw [set_set_self] at h14
    simp only [List.set_cons_succ, List.set_cons_zero] at h14
    refine StC.of h14 i (get_set_self hi) (off := 15) rfl rfl fun w15 h15 => ?_
    rw [set_set_self] at h15
    simp only [List.set_cons_succ, List.set_cons_zero] at h15
    refine StC.of h15 i (get_set_self hi) (off := 16) rfl rfl fun w16 h16 => ?_
    rw [set_set_self] at h16
    simp only [List.set_cons_succ, List.set_cons_zero] at h16
    exact h w16 h16
/-- a heap is copied from one variable to another, and read there. -/
theorem cpRh {r : Rh} {cs : List Value} {K : Option Addr → Nat → Nat → Int → Int → Int → Int → Int → Int → Int → Int → Int → Int → Int → Int → Int → Int → Int → Int → World → Prop} (hc : cs.length = 17) (hs : Sat L w) (i : Nat) (hi : L[i]? = some (Row b r.cells T)) (j : Nat) (hj : L[j]? = some (Row b' cs T'))
    (h : ∀ w', Sat (L.set j (Row b' r.cells T')) w' → K r.p r.l r.c r.a0 r.a1 r.a2 r.a3 r.a4 r.a5 r.a6 r.a7 r.a8 r.a9 r.a10 r.a11 r.a12 r.a13 r.a14 r.a15 w') :
    Go.Proofs.Ytdfdmboljidhnaa.Ld_tidemarkref9_Heap w ⟨b, 0, none⟩ fun p l c n0 n1 n2 n3 n4 n5 n6 n7 n8 n9 n10 n11 n12 n13 n14 n15 => Go.Proofs.Ytdfdmboljidhnaa.St_tidemarkref9_Heap w ⟨b', 0, none⟩ p l c n0 n1 n2 n3 n4 n5 n6 n7 n8 n9 n10 n11 n12 n13 n14 n15 fun w9 =>
      Go.Proofs.Ytdfdmboljidhnaa.Ld_tidemarkref9_Heap w9 ⟨b', 0, none⟩ fun p l c n0 n1 n2 n3 n4 n5 n6 n7 n8 n9 n10 n11 n12 n13 n14 n15 => K p l c n0 n1 n2 n3 n4 n5 n6 n7 n8 n9 n10 n11 n12 n13 n14 n15 w9 := by
  refine ldRh hs i hi ?_
  refine stRh hc hs j hj fun w' h1 => ?_
  exact ldRh h1 j (get_set_self hj) (h w' h1)
/-- a heap's variable, read in whatever world of a class. -/
theorem qRh {r : Rh} {C : World → Prop} {K : Option Addr → Nat → Nat → Int → Int → Int → Int → Int → Int → Int → Int → Int → Int → Int → Int → Int → Int → Int → Int → Prop} (hC : ∀ w, C w → ∃ L, Sat (Row b r.cells T :: L) w)
    (h : K r.p r.l r.c r.a0 r.a1 r.a2 r.a3 r.a4 r.a5 r.a6 r.a7 r.a8 r.a9 r.a10 r.a11 r.a12 r.a13 r.a14 r.a15) :
    ∃ (p : Option Addr), ∃ (l : Nat), ∃ (c : Nat), ∃ (n1 : Int), ∃ (n2 : Int), ∃ (n3 : Int), ∃ (n4 : Int), ∃ (n5 : Int), ∃ (n6 : Int), ∃ (n7 : Int), ∃ (n8 : Int), ∃ (n9 : Int), ∃ (n10 : Int), ∃ (n11 : Int), ∃ (n12 : Int), ∃ (n13 : Int), ∃ (n14 : Int), ∃ (n15 : Int), ∃ (n16 : Int), (∀ (w2 : World), C w2 →
      Go.Proofs.Ytdfdmboljidhnaa.Ld_tidemarkref9_Heap w2 (⟨b, 0, none⟩) fun s1p s1l s1c n17 n18 n19 n20 n21 n22 n23 n24 n25 n26 n27 n28 n29 n30 n31 n32 =>
      Value.agg #[.slice s1p s1l s1c, .int .u64 n17, .int .u64 n18, .int .u64 n19, .int .u64 n20, .int .u64 n21, .int .u64 n22, .int .u64 n23, .int .u64 n24, .int .u64 n25, .int .u64 n26, .int .u64 n27, .int .u64 n28, .int .u64 n29, .int .u64 n30, .int .u64 n31, .int .u64 n32] = .agg #[.slice p l c, .int .u64 n1, .int .u64 n2, .int .u64 n3, .int .u64 n4, .int .u64 n5, .int .u64 n6, .int .u64 n7, .int .u64 n8, .int .u64 n9, .int .u64 n10, .int .u64 n11, .int .u64 n12, .int .u64 n13, .int .u64 n14, .int .u64 n15, .int .u64 n16]) ∧
      K p l c n1 n2 n3 n4 n5 n6 n7 n8 n9 n10 n11 n12 n13 n14 n15 n16 :=
  ⟨r.p, r.l, r.c, r.a0, r.a1, r.a2, r.a3, r.a4, r.a5, r.a6, r.a7, r.a8, r.a9, r.a10, r.a11, r.a12, r.a13, r.a14, r.a15, fun w hw => by obtain ⟨L, hs⟩ := hC w hw; exact ldRh hs 0 rfl rfl, h⟩
end
end Go.Hm
