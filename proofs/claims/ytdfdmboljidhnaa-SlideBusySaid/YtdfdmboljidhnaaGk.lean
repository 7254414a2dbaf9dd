
/- What 'Graph' comes to: the roots' numbers and the nodes, in memory that stands. -/
import Derived.Test.YtdfdmboljidhnaaCk
import Derived.Test.YtdfdmboljidhnaaRl
set_option maxRecDepth 100000
namespace Go.Hm
open Go Go.Lw Go.Wd Go.Am Go.Tb
/-- a handle's number; -1: none. -/
def numI (l : List Nat) (y : Nat) : Int := match num l y with | some n => n | none => -1
structure Gn where
  tag : Nat
  refs : List Int
  words : List Nat
  deriving DecidableEq
def nodeOf (H : Hp) (l : List Nat) (x : Nat) : Gn :=
  match H.look x with
  | some o => ⟨o.tag, (o.w.take o.refs).map (numI l), o.w.drop o.refs⟩
  | none => ⟨0, [], []⟩
def graphR (H : Hp) : List Int := H.roots.map (numI (order H))
def graphN (H : Hp) : List Gn := (order H).map (nodeOf H (order H))
def ints (l : List Int) : List Value := l.map (Value.int .i64)
theorem ints_len (l : List Int) : (ints l).length = l.length := by simp [ints]
theorem ints_snoc (l : List Int) (n : Int) : ints (l ++ [n]) = ints l ++ [.int .i64 n] := by simp [ints]
theorem ints_one (l : List Int) : ∀ u ∈ ints l, u.oneCell' = true := by
  intro u hu
  obtain ⟨n, _, rfl⟩ := List.mem_map.1 hu
  rfl
theorem words_one (l : List Nat) : ∀ u ∈ words l, u.oneCell' = true := by
  intro u hu
  obtain ⟨n, _, rfl⟩ := List.mem_map.1 hu
  rfl
/-- where a node's slices lie. -/
structure Gq where
  pr : Option Addr
  cr : Nat
  pw : Option Addr
  cw : Nat
def gcell (x : Gn × Gq) : List Value := [.int .i64 (x.1.tag : Int), .slice x.2.pr x.1.refs.length x.2.cr, .slice x.2.pw x.1.words.length x.2.cw]
def gcells (om : List (Gn × Gq)) : List Value := om.flatMap gcell
theorem gcells_snoc (om : List (Gn × Gq)) (x : Gn × Gq) : gcells (om ++ [x]) = gcells om ++ gcell x := by simp [gcells]
theorem gcells_len (l : List (Gn × Gq)) : (gcells l).length = l.length * 3 := by
  induction l with
  | nil => rfl
  | cons x l ih => unfold gcells at ih ⊢; rw [List.flatMap_cons, List.length_append, ih, List.length_cons]; simp [gcell]; omega
theorem gcells_one (l : List (Gn × Gq)) : ∀ u ∈ gcells l, u.oneCell' = true := by
  intro u hu
  obtain ⟨x, _, hx⟩ := List.mem_flatMap.1 hu
  simp only [gcell, List.mem_cons, List.not_mem_nil, or_false] at hx
  rcases hx with rfl | rfl | rfl <;> rfl
theorem gcells_get : ∀ {l : List (Gn × Gq)} {q j : Nat} {x : Gn × Gq}, l[q]? = some x → j < 3 → (gcells l)[q * 3 + j]? = (gcell x)[j]?
  | [], _, _, _, h, _ => by simp at h
  | y :: l, 0, j, x, h, hj => by
    simp only [List.getElem?_cons_zero, Option.some.injEq] at h
    subst h
    unfold gcells
    rw [List.flatMap_cons, Nat.zero_mul, Nat.zero_add, List.getElem?_append_left (by simp [gcell]; exact hj)]
  | y :: l, q + 1, j, x, h, hj => by
    simp only [List.getElem?_cons_succ] at h
    have ih := gcells_get h hj
    unfold gcells at ih ⊢
    have h3 : (gcell y).length = 3 := rfl
    rw [List.flatMap_cons, List.getElem?_append_right (by rw [h3]; omega), ← ih, h3]
    congr 1
    omega
/-- a node's slices stand. -/
structure GnR (S : Mem) (x : Gn × Gq) : Prop where
  refs : CRs S 1 (ints x.1.refs) x.2.pr x.1.refs.length x.2.cr
  words : CRs S 1 (words x.1.words) x.2.pw x.1.words.length x.2.cw
theorem GnR.mono {S S' : Mem} (e : Ext S S') {x : Gn × Gq} (h : GnR S x) : GnR S' x := ⟨h.refs.mono e, h.words.mono e⟩
/-- nodes in a row that stands. -/
structure NRs (S : Mem) (ns : List Gn) (om : List (Gn × Gq)) (p : Option Addr) (l c : Nat) : Prop where
  same : om.map (·.1) = ns
  parts : ∀ x ∈ om, GnR S x
  row : CRs S 3 (gcells om) p l c
theorem NRs.mono {S S' : Mem} (e : Ext S S') {ns : List Gn} {om : List (Gn × Gq)} {p : Option Addr} {l c : Nat} (h : NRs S ns om p l c) : NRs S' ns om p l c := ⟨h.same, fun x hx => (h.parts x hx).mono e, h.row.mono e⟩
theorem NRs.omlen {S : Mem} {ns : List Gn} {om : List (Gn × Gq)} {p : Option Addr} {l c : Nat} (h : NRs S ns om p l c) : om.length = ns.length := by rw [← h.same, List.length_map]
theorem NRs.len {S : Mem} {ns : List Gn} {om : List (Gn × Gq)} {p : Option Addr} {l c : Nat} (h : NRs S ns om p l c) : l = ns.length := by
  have h1 := h.row.len
  have h2 := h.omlen
  rw [gcells_len] at h1
  omega
theorem NRs.get {S : Mem} {ns : List Gn} {om : List (Gn × Gq)} {p : Option Addr} {l c : Nat} (h : NRs S ns om p l c) {q : Nat} {n : Gn} (hq : ns[q]? = some n) : ∃ x, om[q]? = some x ∧ x.1 = n ∧ GnR S x := by
  rw [← h.same, List.getElem?_map] at hq
  obtain ⟨x, h1, h2⟩ := Option.map_eq_some_iff.1 hq
  exact ⟨x, h1, h2, h.parts x (List.mem_of_getElem? h1)⟩
theorem NRs.idx {S : Mem} {ns : List Gn} {om : List (Gn × Gq)} {p : Option Addr} {l c : Nat} (h : NRs S ns om p l c) {w : World} (hw : Has S w) {q : Nat} {x : Gn × Gq} (hx : om[q]? = some x) {K : Addr → Prop}
    (hk : ∀ a, (∀ j v, (gcell x)[j]? = some v → w.cell? (a.add j) = some v) → K a) : IdxC p l (q : Int) 3 K := by
  have h1 := h.omlen; have h2 := h.len; have h3 := get_lt hx
  refine h.row.idx hw (by omega) (by omega) fun a ha => hk a fun j v hj => ?_
  have hlt : j < 3 := get_lt hj
  exact ha j v hlt (by rw [gcells_get hx hlt]; exact hj)
/-- a number in a slice that stands. -/
theorem rd_int {S : Mem} {l : List Int} {p : Option Addr} {n c : Nat} (h : CRs S 1 (ints l) p n c) {w : World} (hw : Has S w) {q : Nat} {x i : Int} (hq : l[q]? = some x) (hi : i = q) {K : Int → Prop} (hk : K x) : IdxC p n i 1 fun a => LdI .i64 w a K := by
  subst hi
  have hn := h.len
  rw [ints_len] at hn
  have := get_lt hq
  refine h.idx hw (by omega) (by omega) fun a ha => ?_
  have hc := ha 0 (.int .i64 x) (by omega) (by simp [ints, hq])
  refine LdI.at (n := x) ?_ hk
  simpa [Addr.add] using hc
theorem rd_word {S : Mem} {l : List Nat} {p : Option Addr} {n c : Nat} (h : CRs S 1 (words l) p n c) {w : World} (hw : Has S w) {q x : Nat} {i : Int} (hq : l[q]? = some x) (hi : i = q) {K : Int → Prop} (hk : K x) : IdxC p n i 1 fun a => LdI .u64 w a K := by
  subst hi
  have hn := h.len
  rw [words_len] at hn
  have := get_lt hq
  refine h.idx hw (by omega) (by omega) fun a ha => ?_
  have hc := ha 0 (.int .u64 (x : Int)) (by omega) (by simp [words, hq])
  refine LdI.at (n := (x : Int)) ?_ hk
  simpa [Addr.add] using hc
/-- a node in a slice that stands. -/
theorem rd_node {S : Mem} {ns : List Gn} {om : List (Gn × Gq)} {p : Option Addr} {l c : Nat} (h : NRs S ns om p l c) {w : World} (hw : Has S w) {q : Nat} {n : Gn} {i : Int} (hq : ns[q]? = some n) (hi : i = q) {K : Addr → Prop}
    (hk : ∀ a (x : Gn × Gq), x.1 = n → GnR S x → w.cell? a = some (.int .i64 (n.tag : Int)) → w.cell? (a.add 1) = some (.slice x.2.pr n.refs.length x.2.cr) → w.cell? (a.add 2) = some (.slice x.2.pw n.words.length x.2.cw) → K a) : IdxC p l i 3 K := by
  subst hi
  obtain ⟨x, h1, h2, h3⟩ := h.get hq
  refine h.idx hw h1 fun a ha => hk a x h2 h3 ?_ ?_ ?_
  · have := ha 0 _ rfl
    rw [h2] at this
    simpa [Addr.add] using this
  · have := ha 1 _ rfl
    rw [h2] at this
    exact this
  · have := ha 2 _ rfl
    rw [h2] at this
    exact this
theorem LdI.cell {k : IntKind} {w : World} {a : Addr} {n : Int} {K : Int → Prop} (h : w.cell? a = some (.int k n)) (hk : K n) : LdI k w a K := ⟨n, h, hk⟩
theorem LdS.cell {w : World} {a : Addr} {p : Option Addr} {l c : Nat} {K : Option Addr → Nat → Nat → Prop} (h : w.cell? a = some (.slice p l c)) (hk : K p l c) : LdS w a K := ⟨p, l, c, h, hk⟩
end Go.Hm
namespace Go.Proofs.Ytdfdmboljidhnaa
open Go Go.Lw Go.Wd Go.Am Go.Tb Go.Hm

theorem eok_i : EOK Try.prog 40 3 1 8 := ⟨by kernel_rfl, ⟨_, _, rfl, rfl, rfl, rfl, rfl⟩, by omega⟩
theorem eok_node : EOK Try.prog 49 100 3 56 := ⟨by kernel_rfl, ⟨_, _, rfl, rfl, rfl, rfl, rfl⟩, by omega⟩
theorem Sat.freezeCRs {L : List HP} {w W : World} {S : Mem} {e s l c : Nat} {p : Option Addr} {xs : List Value} (hs : Sat (Own e s p l c xs :: Ro W S :: L) w) (hl : l ≤ 1048576) (h1 : ∀ u ∈ xs, u.oneCell' = true) : ∃ S', Ext S S' ∧ CRs S' s xs p l c ∧ Sat (Ro W S' :: L) w := by
  have hc := hs.own_cap 0 rfl
  have hn := hs.own_len 0 rfl
  obtain ⟨S', a, b, d⟩ := hs.freezeAny
  exact ⟨S', a, ⟨hn, hl, hc, h1, b⟩, d⟩

section
variable {H : Hp} {v : Value} {b : Nat} {F : List HP} {w W : World} {S : Mem}
theorem number_c {L : List HP} {b1 r : Nat} {l : List Nat} (hs : Sat L w) (i j : Nat) (hi : L[i]? = some (Row b1 [.map (some r)] 102)) (hj : L[j]? = some (Blk r (numObj l))) (y : Nat) :
    Calls Try.prog 58 #[.int .u64 (y : Int), .pointer (some ⟨b1, 0, none⟩)] w fun e w' => e = .returned (.int .i64 (numI l y)) ∧ w = w' := by
  refine S_heap_Heap_Graph_1_ok _ _ _ _ ?_
  unfold S_heap_Heap_Graph_1
  refine ⟨some r, hs.cell i hi (off := 0) rfl, ?_⟩
  refine ⟨_, _, lookNum um um_u64 um_zero (hs.blk j hj) y, ?_⟩
  unfold numV numI
  cases num l y with
  | none => exact cond_f rfl ⟨rfl, rfl⟩
  | some n => exact cond_t rfl ⟨rfl, rfl⟩

/-- what is held while the graph is built: 'om' the nodes so far, 'rs' the roots' numbers so far. -/
def GkS (H : Hp) (v : Value) (b : Nat) (W : World) (S : Mem) (p : Option Addr) (c r b1 g : Nat) (rp : Option Addr) (rs : List Int) (rc : Nat) (np : Option Addr) (om : List (Gn × Gq)) (nc b0 : Nat) (F : List HP) : List HP :=
  HeapH H v b :: Ro W S :: Own 24 1 p (order H).length c (words (order H)) :: Blk r (numObj (order H)) :: Row b1 [.map (some r)] 102 ::
    Row g [.slice rp rs.length rc, .slice np om.length nc] 51 :: Own 3 1 rp rs.length rc (ints rs) :: Own 100 3 np om.length nc (gcells om) :: Row b0 [.slice none 0 0, .slice none 0 0] 51 :: F
/-- and a node. -/
def GkN (H : Hp) (v : Value) (b : Nat) (W : World) (S : Mem) (p : Option Addr) (c r b1 g : Nat) (rp : Option Addr) (rs : List Int) (rc : Nat) (np : Option Addr) (om : List (Gn × Gq)) (nc b0 n tag : Nat) (p1 : Option Addr) (xs : List Int) (c1 : Nat) (p2 : Option Addr) (ys : List Nat) (c2 : Nat) (F : List HP) : List HP :=
  HeapH H v b :: Row n [.int .i64 (tag : Int), .slice p1 xs.length c1, .slice p2 ys.length c2] 100 :: Own 3 1 p1 xs.length c1 (ints xs) :: Own 24 1 p2 ys.length c2 (words ys) ::
    Ro W S :: Own 24 1 p (order H).length c (words (order H)) :: Blk r (numObj (order H)) :: Row b1 [.map (some r)] 102 ::
    Row g [.slice rp rs.length rc, .slice np om.length nc] 51 :: Own 3 1 rp rs.length rc (ints rs) :: Own 100 3 np om.length nc (gcells om) :: Row b0 [.slice none 0 0, .slice none 0 0] 51 :: F

theorem st2 {L : List HP} {b T : Nat} {c0 c1 v0 v1 : Value} {K : World → Prop} (hs : Sat L w) (i : Nat) (hi : L[i]? = some (Row b [c0, c1] T)) (h : ∀ w', Sat (L.set i (Row b [v0, v1] T)) w' → K w') :
    StC w ⟨b, 0, none⟩ v0 fun w => StC w (Addr.add ⟨b, 0, none⟩ 1) v1 K := by
  simp only [add_mk, Nat.zero_add]
  refine StC.of hs i hi (off := 0) rfl rfl fun w1 h1 => ?_
  refine StC.of h1 i (get_set_self hi) (off := 1) rfl rfl fun w2 h2 => ?_
  rw [set_set_self] at h2
  exact h w2 h2
theorem st3 {L : List HP} {b T : Nat} {c0 c1 c2 v0 v1 v2 : Value} {K : World → Prop} (hs : Sat L w) (i : Nat) (hi : L[i]? = some (Row b [c0, c1, c2] T)) (h : ∀ w', Sat (L.set i (Row b [v0, v1, v2] T)) w' → K w') :
    StC w ⟨b, 0, none⟩ v0 fun w => StC w (Addr.add ⟨b, 0, none⟩ 1) v1 fun w => StC w (Addr.add ⟨b, 0, none⟩ 2) v2 K := by
  simp only [add_mk, Nat.zero_add]
  refine StC.of hs i hi (off := 0) rfl rfl fun w1 h1 => ?_
  refine StC.of h1 i (get_set_self hi) (off := 1) rfl rfl fun w2 h2 => ?_
  rw [set_set_self] at h2
  refine StC.of h2 i (get_set_self hi) (off := 2) rfl rfl fun w3 h3 => ?_
  rw [set_set_self] at h3
  exact h w3 h3

theorem graph_c (hs : Sat (HeapH H v b :: Ro W S :: F) w) : Calls Try.prog 23 #[.pointer (some ⟨b, 0, none⟩)] w fun e w' =>
    ∃ gp gc np nc S' om, e = .returned (.agg #[.slice gp 16 gc, .slice np (order H).length nc]) ∧ Ext S S' ∧ CRs S' 1 (ints (graphR H)) gp 16 gc ∧ NRs S' (graphN H) om np (order H).length nc ∧ Sat (HeapH H v b :: Ro W S' :: F) w' := by
  have hm := sat_wf hs
  have hmost := hm.tab.most
  have hol := (order_met (H := H)).len hm
  refine S_heap_Heap_Graph_ok _ _ _ ?_
  unfold S_heap_Heap_Graph
  refine NewC.ofRow hs fun b0 w1 h1 => ?_
  refine (walk_c h1.p1).mono ?_
  rintro e w2 ⟨p, c, r, rfl, h2⟩
  refine ⟨_, _, _, _, rfl, ?_⟩
  refine NewC.ofRow h2 fun b1 w3 h3 => ?_
  refine StC.of h3 0 rfl (off := 0) rfl rfl fun w4 h4 => ?_
  intro k0 hk0
  have h5 : Sat (Row b1 [.map (some r)] 102 :: HeapH H v b :: Own 24 1 p (order H).length c (words (order H)) :: Blk r (numObj (order H)) :: Row b0 [.slice none 0 0, .slice none 0 0] 51 :: Ro W S :: F) w4.drew := h4.drew
  clear h1 h2 h3 h4
  have fin : ∀ g w gp np, Sat (Row g [.slice gp 0 16, .slice np 0 (order H).length] 51 :: Own 3 1 gp 0 16 [] :: Own 100 3 np 0 (order H).length [] :: Row b1 [.map (some r)] 102 :: HeapH H v b :: Own 24 1 p (order H).length c (words (order H)) :: Blk r (numObj (order H)) :: Row b0 [.slice none 0 0, .slice none 0 0] 51 :: Ro W S :: F) w → k0 ⟨g, 0, none⟩ w := by
    intro g w gp np hs
    refine hk0 _ _ ?_
    have h6 : Sat (GkS H v b W S p c r b1 g gp [] 16 np [] (order H).length b0 F) w := ((((((((hs.pull 7 rfl).pull 3 rfl).pull 3 rfl).pull 3 rfl).pull 4 rfl).pull 7 rfl).pull 7 rfl).pull 8 rfl).pull 8 rfl
    clear hs
    unfold S_heap_Heap_Graph_j1
    simp only [onSome_some]
    obtain ⟨_, ba, bt, h7⟩ := heap_open h6
    refine roots_ld h7 0 rfl hm.rlen fun n0 n1 n2 n3 n4 n5 n6 n7 n8 n9 n10 n11 n12 n13 n14 n15 hv => ?_
    clear h7
    refine ⟨fun i w => ∃ k : Nat, i = k ∧ k ≤ 16 ∧ ∃ gp gc, Sat (GkS H v b W S p c r b1 g gp ((graphR H).take k) gc np [] (order H).length b0 F) w, fun i _ => (16 - i).toNat, ⟨0, rfl, by omega, _, _, h6⟩, ?_⟩
    clear h6
    rintro i w5 ⟨k, rfl, hk, gp, gc, h6⟩
    have hgl : (graphR H).length = 16 := by simp [graphR, hm.rlen]
    unfold S_heap_Heap_Graph_l3
    by_cases hlt : k < 16
    · refine cond_t (by simp; omega) ?_
      have hr := hm.rlen
      have hx : H.roots[k]? = some (H.roots[k]'(by omega)) := List.getElem?_eq_getElem (by omega)
      generalize H.roots[k]'(by omega) = x at hx
      refine idx_roots hv hr hx ?_
      have h7 := h6.drew
      generalize w5.drew = w6 at h7
      refine ⟨fun w => ∃ L, Sat (Row g [.slice gp ((graphR H).take k).length gc, .slice np 0 (order H).length] 51 :: L) w, ⟨_, h7.pull 5 rfl⟩, ?_⟩
      refine ⟨_, _, _, fun w ⟨L, hw⟩ => LdS.of hw 0 rfl (off := 0) rfl rfl rfl, ?_⟩
      refine (number_c h7 4 3 rfl rfl x).mono ?_
      rintro e w7 ⟨rfl, rfl⟩
      refine ⟨_, rfl, ⟨_, h7.pull 5 rfl⟩, ?_⟩
      have hlk : ((graphR H).take k).length = k := by rw [List.length_take]; omega
      refine NewC.ofRow h7 fun d w8 h8 => ?_
      refine ⟨⟨_, h8.pull 6 rfl⟩, ?_⟩
      refine RunS.own eok_i (h8.drop) 6 rfl (news := [.int .i64 (numI (order H) x)]) (q := ⟨d, 0, none⟩) (m := 1) ?_ rfl (by intro u hu; simp at hu; subst hu; rfl) (by omega) (by simp only [maxLen]; omega) fun p' c' w9 h9 => ?_
      · intro a ha j u hj
        cases ha
        have := h8.cell 0 rfl (off := j) (v := u) (by simpa using hj)
        rw [add_mk, Nat.zero_add]; exact this
      refine StC.of h9 5 rfl (off := 0) rfl rfl fun w10 h10 => ?_
      rw [wrapI64 (by omega) (by omega)]
      have hgx : (graphR H)[k]? = some (numI (order H) x) := by simp [graphR, hx]
      refine ⟨⟨k + 1, by omega, by omega, p', c', ?_⟩, by first | omega | (dsimp only; omega)⟩
      rw [List.take_add_one, hgx, Option.toList_some]
      unfold GkS
      rw [ints_snoc, List.length_append, List.length_singleton]
      exact h10
    · have hk16 : k = 16 := by omega
      subst hk16
      refine cond_f (by simp) ?_
      have htk : (graphR H).take 16 = graphR H := List.take_of_length_le (by omega)
      rw [htk] at h6
      refine ⟨fun i w => ∃ k : Nat, i = k ∧ k ≤ (order H).length ∧ ∃ S' np nc om, Ext S S' ∧ om.map (·.1) = (graphN H).take k ∧ (∀ x ∈ om, GnR S' x) ∧ Sat (GkS H v b W S' p c r b1 g gp (graphR H) gc np om nc b0 F) w, fun i _ => ((order H).length - i).toNat,
        ⟨0, rfl, by omega, S, np, _, [], Ext.refl S, rfl, fun x hx => (by cases hx), h6⟩, ?_⟩
      clear h6
      rintro i w6 ⟨k, rfl, hk, S', np, nc, om, hE, hsame, hparts, h6⟩
      have hgn : (graphN H).length = (order H).length := by simp [graphN]
      have homl : om.length = k := by
        have := congrArg List.length hsame
        rw [List.length_map, List.length_take] at this
        omega
      unfold S_heap_Heap_Graph_l2
      by_cases hlt : k < (order H).length
      · refine cond_t (by simp; omega) ?_
        have hx : (order H)[k]? = some ((order H)[k]'hlt) := List.getElem?_eq_getElem hlt
        generalize (order H)[k]'hlt = x at hx
        obtain ⟨o, ho⟩ := order_look (List.mem_of_getElem? hx)
        have hro := (look_ok hm ho).refs; have hzo := (look_ok hm ho).size
        have hu := look_lt hm ho
        refine own_word h6 2 rfl rfl hx rfl ?_
        refine (hhead_c h6 hu).mono ?_
        rintro e w7 ⟨rfl, h7⟩
        rw [ho]
        refine ⟨_, _, _, _, rfl, ?_⟩
        intro k1 hk1
        have hw : IntKind.wrap .i64 (((o.w.length : Nat) : Int) - ((o.refs : Nat) : Int)) = ((o.w.length - o.refs : Nat) : Int) := by rw [wrapI64 (by omega) (by omega)]; omega
        have h8 := h7.drew
        generalize w7.drew = w8 at h8
        clear h6 h7
        rw [hw]
        have fin2 : ∀ n w p1 p2, Sat (Row n [.int .i64 (o.tag : Nat), .slice p1 0 o.refs, .slice p2 0 (o.w.length - o.refs)] 100 :: Own 3 1 p1 0 o.refs [] :: Own 24 1 p2 0 (o.w.length - o.refs) [] :: GkS H v b W S' p c r b1 g gp (graphR H) gc np om nc b0 F) w → k1 ⟨n, 0, none⟩ w := by
          intro n w p1 p2 hs
          refine hk1 _ _ ?_
          have h9 : Sat (GkN H v b W S' p c r b1 g gp (graphR H) gc np om nc b0 n o.tag p1 [] o.refs p2 [] (o.w.length - o.refs) F) w := hs.pull 3 rfl
          clear hs
          unfold S_heap_Heap_Graph_j0
          refine ⟨fun j w => ∃ q : Nat, j = q ∧ q ≤ o.refs ∧ ∃ p1 c1, Sat (GkN H v b W S' p c r b1 g gp (graphR H) gc np om nc b0 n o.tag p1 (((o.w.take o.refs).map (numI (order H))).take q) c1 p2 [] (o.w.length - o.refs) F) w, fun j _ => (o.refs - j).toNat, ⟨0, rfl, by omega, p1, _, h9⟩, ?_⟩
          clear h9
          rintro j w9 ⟨q, rfl, hq, p1, c1, h9⟩
          unfold S_heap_Heap_Graph_l1
          by_cases hqr : q < o.refs
          · refine cond_t (by simp; omega) ?_
            have href : Hp.ref H x (q : Int) = (o.w.getD q 0, 0) := by simp only [Hp.ref, ho]; rw [if_pos (by omega), Int.toNat_natCast]
            refine (href_c h9 hu q).mono ?_
            rw [href]
            rintro e w10 ⟨rfl, h10⟩
            refine ⟨_, _, rfl, ?_⟩
            have h11 := h10.drew
            generalize w10.drew = w11 at h11
            refine ⟨fun w => ∃ L, Sat (Row n [.int .i64 (o.tag : Nat), .slice p1 (((o.w.take o.refs).map (numI (order H))).take q).length c1, .slice p2 0 (o.w.length - o.refs)] 100 :: L) w, ⟨_, h11.pull 1 rfl⟩, ?_⟩
            refine ⟨_, _, _, fun w ⟨L, hw⟩ => LdS.of hw 0 rfl (off := 1) rfl (add_mk _ _ _) rfl, ?_⟩
            refine (number_c h11 7 6 rfl rfl _).mono ?_
            rintro e w12 ⟨rfl, rfl⟩
            refine ⟨_, rfl, ⟨_, h11.pull 1 rfl⟩, ?_⟩
            have hll : ((o.w.take o.refs).map (numI (order H))).length = o.refs := by simp; omega
            have hlk : (((o.w.take o.refs).map (numI (order H))).take q).length = q := by rw [List.length_take]; omega
            refine NewC.ofRow h11 fun d w12 h12 => ?_
            refine ⟨⟨_, h12.pull 2 rfl⟩, ?_⟩
            refine RunS.own eok_i (h12.drop) 2 rfl (news := [.int .i64 (numI (order H) (o.w.getD q 0))]) (q := ⟨d, 0, none⟩) (m := 1) ?_ rfl (by intro u hu; simp at hu; subst hu; rfl) (by omega) (by simp only [maxLen]; omega) fun p' c' w13 h13 => ?_
            · intro a ha j u hj
              cases ha
              have := h12.cell 0 rfl (off := j) (v := u) (by simpa using hj)
              rw [add_mk, Nat.zero_add]; exact this
            refine StC.of h13 1 rfl (off := 1) rfl (add_mk _ _ _) fun w14 h14 => ?_
            rw [wrapI64 (by omega) (by omega)]
            have hgx : ((o.w.take o.refs).map (numI (order H)))[q]? = some (numI (order H) (o.w.getD q 0)) := by
              rw [List.getElem?_map, List.getElem?_take_of_lt hqr, List.getD_eq_getElem?_getD, List.getElem?_eq_getElem (by omega)]; rfl
            refine ⟨⟨q + 1, by omega, by omega, p', c', ?_⟩, by first | omega | (dsimp only; omega)⟩
            rw [List.take_add_one, hgx, Option.toList_some]
            unfold GkN
            rw [ints_snoc, List.length_append, List.length_singleton]
            exact h14
          · refine cond_f (by simp; omega) ?_
            have hqe : q = o.refs := by omega
            subst hqe
            have htk : ((o.w.take o.refs).map (numI (order H))).take o.refs = (o.w.take o.refs).map (numI (order H)) := List.take_of_length_le (by simp; omega)
            rw [htk] at h9
            have hll : ((o.w.take o.refs).map (numI (order H))).length = o.refs := by simp; omega
            refine ⟨fun j w => ∃ q : Nat, j = q ∧ q ≤ o.w.length - o.refs ∧ ∃ p2 c2, Sat (GkN H v b W S' p c r b1 g gp (graphR H) gc np om nc b0 n o.tag p1 ((o.w.take o.refs).map (numI (order H))) c1 p2 ((o.w.drop o.refs).take q) c2 F) w, fun j _ => (((o.w.length - o.refs : Nat) : Int) - j).toNat, ⟨0, rfl, by omega, p2, _, h9⟩, ?_⟩
            clear h9
            rintro j w10 ⟨q, rfl, hq, p2, c2, h9⟩
            unfold S_heap_Heap_Graph_l0
            rw [hw]
            have hdl : (o.w.drop o.refs).length = o.w.length - o.refs := by simp
            by_cases hqr : q < o.w.length - o.refs
            · refine cond_t (by simp; omega) ?_
              have hwq : o.w[o.refs + q]? = some (o.w.getD (o.refs + q) 0) := by rw [List.getD_eq_getElem?_getD, List.getElem?_eq_getElem (by omega)]; rfl
              refine (gwd_c h9 ho hwq rfl).mono ?_
              rintro e w11 ⟨rfl, h11⟩
              refine ⟨_, _, rfl, ?_⟩
              have hlk : ((o.w.drop o.refs).take q).length = q := by rw [List.length_take]; omega
              refine LdS.of h11 1 rfl (off := 2) rfl (add_mk _ _ _) ?_
              refine RunS.one eok_u64 h11 3 rfl (by rfl) (by rfl) (by omega) (by simp only [maxLen]; omega) fun p' c' w12 h12 => ?_
              refine StC.of h12 1 rfl (off := 2) rfl (add_mk _ _ _) fun w13 h13 => ?_
              rw [wrapI64 (by omega) (by omega)]
              refine ⟨⟨q + 1, by omega, by omega, p', c', ?_⟩, by first | omega | (dsimp only; omega)⟩
              rw [List.take_add_one, List.getElem?_drop, hwq, Option.toList_some]
              unfold GkN
              rw [words_snoc, List.length_append, List.length_singleton]
              exact h13
            · refine cond_f (by simp; omega) ?_
              have hqe : q = o.w.length - o.refs := by omega
              have htk : (o.w.drop o.refs).take q = o.w.drop o.refs := List.take_of_length_le (by omega)
              rw [htk] at h9
              refine LdS.of h9 8 rfl (off := 1) rfl (add_mk _ _ _) ?_
              refine LdI.of h9 1 rfl (off := 0) rfl rfl ?_
              refine LdS.of h9 1 rfl (off := 1) rfl (add_mk _ _ _) ?_
              refine LdS.of h9 1 rfl (off := 2) rfl (add_mk _ _ _) ?_
              refine RunS.one eok_node h9 10 rfl (by rfl) (by rfl) (by omega) (by simp only [maxLen]; omega) fun p' c' w12 h12 => ?_
              refine StC.of h12 8 rfl (off := 1) rfl (add_mk _ _ _) fun w13 h13 => ?_
              rw [wrapI64 (by omega) (by omega)]
              have e1 := hll
              have h14 : Sat (HeapH H v b :: Row n _ _ :: Own 3 1 p1 ((o.w.take o.refs).map (numI (order H))).length c1 (ints ((o.w.take o.refs).map (numI (order H)))) :: Own 24 1 p2 (o.w.drop o.refs).length c2 (words (o.w.drop o.refs)) :: Ro W S' :: Own 24 1 p (order H).length c (words (order H)) :: Blk r (numObj (order H)) :: Row b1 [.map (some r)] 102 ::
                Row g [.slice gp (graphR H).length gc, .slice p' (om.length + 1) c'] 51 :: Own 3 1 gp (graphR H).length gc (ints (graphR H)) :: Own 100 3 p' (om.length + 1) c' (gcells om ++ [.int .i64 (o.tag : Nat), .slice p1 ((o.w.take o.refs).map (numI (order H))).length c1, .slice p2 (o.w.drop o.refs).length c2]) :: Row b0 [.slice none 0 0, .slice none 0 0] 51 :: F) w13 := h13
              obtain ⟨S1, hE1, hC1, h15⟩ := Sat.freezeCRs ((h14.p1.drop.pull 3 rfl).pull 2 rfl) (by omega) (ints_one _)
              obtain ⟨S2, hE2, hC2, h16⟩ := Sat.freezeCRs (Sat.pull h15 2 rfl) (by omega) (words_one _)
              refine ⟨⟨k + 1, by omega, by omega, S2, p', c', om ++ [(⟨o.tag, (o.w.take o.refs).map (numI (order H)), o.w.drop o.refs⟩, ⟨p1, c1, p2, c2⟩)], hE.trans (hE1.trans hE2), ?_, fun y hy => ?_, ?_⟩, by first | omega | (dsimp only; omega)⟩
              · have hgx : (graphN H)[k]? = some ⟨o.tag, (o.w.take o.refs).map (numI (order H)), o.w.drop o.refs⟩ := by
                  simp only [graphN, List.getElem?_map, hx, Option.map_some, nodeOf, ho]
                rw [List.map_append, hsame, List.take_add_one, hgx]; rfl
              · rcases List.mem_append.1 hy with hy | hy
                · exact ((hparts y hy).mono hE1).mono hE2
                · simp only [List.mem_singleton] at hy
                  subst hy
                  exact ⟨hC1.mono hE2, hC2⟩
              · have h17 := Sat.p1 h16
                unfold GkS
                rw [gcells_snoc, List.length_append, List.length_singleton]
                exact h17
        refine ⟨fun _ => True, trivial, ?_, ?_, ?_⟩
        · refine RunS.makeOwn eok_i h8 (by omega) (by omega) (by omega) fun p1 w9 h9 => ?_
          refine ⟨?_, ?_⟩
          · refine RunS.makeOwn eok_u64 h9 (by omega) (by omega) (by omega) fun p2 w10 h10 => ?_
            refine NewC.ofRow h10 fun n w11 h11 => ?_
            refine st3 h11 0 rfl fun w12 h12 => ?_
            simp only [Int.toNat_natCast] at h12 ⊢
            exact fin2 n w12 p1 p2 ((Sat.pull h12 1 rfl).pull 2 rfl |>.pull 2 rfl)
          · refine NewC.ofRow h9 fun n w10 h10 => ?_
            refine RunS.makeOwn eok_u64 h10 (by omega) (by omega) (by omega) fun p2 w11 h11 => ?_
            refine st3 h11 1 rfl fun w12 h12 => ?_
            simp only [Int.toNat_natCast] at h12 ⊢
            exact fin2 n w12 p1 p2 ((Sat.pull h12 2 rfl).pull 2 rfl)
        · refine RunS.makeOwn eok_u64 h8 (by omega) (by omega) (by omega) fun p2 w9 h9 => ?_
          refine ⟨?_, ?_⟩
          · refine RunS.makeOwn eok_i h9 (by omega) (by omega) (by omega) fun p1 w10 h10 => ?_
            refine NewC.ofRow h10 fun n w11 h11 => ?_
            refine st3 h11 0 rfl fun w12 h12 => ?_
            simp only [Int.toNat_natCast] at h12 ⊢
            exact fin2 n w12 p1 p2 h12
          · refine NewC.ofRow h9 fun n w10 h10 => ?_
            refine RunS.makeOwn eok_i h10 (by omega) (by omega) (by omega) fun p1 w11 h11 => ?_
            refine st3 h11 1 rfl fun w12 h12 => ?_
            simp only [Int.toNat_natCast] at h12 ⊢
            exact fin2 n w12 p1 p2 (Sat.pull h12 1 rfl)
        · refine NewC.ofRow h8 fun n w9 h9 => ?_
          refine ⟨?_, ?_⟩
          · refine RunS.makeOwn eok_i h9 (by omega) (by omega) (by omega) fun p1 w10 h10 => ?_
            refine RunS.makeOwn eok_u64 h10 (by omega) (by omega) (by omega) fun p2 w11 h11 => ?_
            refine st3 h11 2 rfl fun w12 h12 => ?_
            simp only [Int.toNat_natCast] at h12 ⊢
            exact fin2 n w12 p1 p2 ((Sat.pull h12 1 rfl).pull 2 rfl)
          · refine RunS.makeOwn eok_u64 h9 (by omega) (by omega) (by omega) fun p2 w10 h10 => ?_
            refine RunS.makeOwn eok_i h10 (by omega) (by omega) (by omega) fun p1 w11 h11 => ?_
            refine st3 h11 2 rfl fun w12 h12 => ?_
            simp only [Int.toNat_natCast] at h12 ⊢
            exact fin2 n w12 p1 p2 (Sat.pull h12 2 rfl)
      · have hke : k = (order H).length := by omega
        subst hke
        refine cond_f (by simp) ?_
        have htk2 : (graphN H).take (order H).length = graphN H := List.take_of_length_le (by omega)
        rw [htk2] at hsame
        refine LdS.of h6 5 rfl (off := 0) rfl rfl ?_
        refine LdS.of h6 5 rfl (off := 1) rfl (add_mk _ _ _) ?_
        refine st2 h6 8 rfl fun w7 h7 => ?_
        refine LdS.of h7 8 rfl (off := 0) rfl rfl ?_
        refine LdS.of h7 8 rfl (off := 1) rfl (add_mk _ _ _) ?_
        have h8 : Sat (HeapH H v b :: Ro W S' :: Own 24 1 p (order H).length c (words (order H)) :: Blk r (numObj (order H)) :: Row b1 [.map (some r)] 102 ::
          Row g [.slice gp (graphR H).length gc, .slice np om.length nc] 51 :: Own 3 1 gp (graphR H).length gc (ints (graphR H)) :: Own 100 3 np om.length nc (gcells om) :: Row b0 _ 51 :: F) w7 := h7
        have h9 : Sat (HeapH H v b :: Ro W S' :: Own 3 1 gp (graphR H).length gc (ints (graphR H)) :: Own 100 3 np om.length nc (gcells om) :: F) w7 := by
          have a1 := (h8.pull 2 rfl).drop
          have a2 := (a1.pull 2 rfl).drop
          have a3 := (a2.pull 2 rfl).drop
          have a4 := (a3.pull 2 rfl).drop
          exact (a4.pull 4 rfl).drop
        obtain ⟨S1, hE1, hC1, h10⟩ := Sat.freezeCRs (((h9.pull 1 rfl).pull 2 rfl)) (by omega) (ints_one _)
        obtain ⟨S2, hE2, hC2, h11⟩ := Sat.freezeCRs (Sat.pull h10 2 rfl) (by omega) (gcells_one _)
        rw [hgl, homl]
        rw [hgl] at hC1
        rw [homl] at hC2
        exact ⟨gp, gc, np, nc, S2, om, rfl, hE.trans (hE1.trans hE2), hC1.mono hE2, ⟨hsame, fun y hy => ((hparts y hy).mono hE1).mono hE2, hC2⟩, Sat.p1 h11⟩
  refine ⟨fun _ => True, trivial, ?_, ?_, ?_⟩
  · refine RunS.makeOwn eok_i h5 (by omega) (by omega) (by omega) fun p1 w9 h9 => ?_
    refine ⟨?_, ?_⟩
    · refine RunS.makeOwn eok_node h9 (by omega) (by omega) (by omega) fun p2 w10 h10 => ?_
      refine NewC.ofRow h10 fun n w11 h11 => ?_
      refine st2 h11 0 rfl fun w12 h12 => ?_
      simp only [Int.toNat_natCast] at h12 ⊢
      exact fin n w12 p1 p2 ((Sat.pull h12 1 rfl).pull 2 rfl |>.pull 2 rfl)
    · refine NewC.ofRow h9 fun n w10 h10 => ?_
      refine RunS.makeOwn eok_node h10 (by omega) (by omega) (by omega) fun p2 w11 h11 => ?_
      refine st2 h11 1 rfl fun w12 h12 => ?_
      simp only [Int.toNat_natCast] at h12 ⊢
      exact fin n w12 p1 p2 ((Sat.pull h12 2 rfl).pull 2 rfl)
  · refine RunS.makeOwn eok_node h5 (by omega) (by omega) (by omega) fun p2 w9 h9 => ?_
    refine ⟨?_, ?_⟩
    · refine RunS.makeOwn eok_i h9 (by omega) (by omega) (by omega) fun p1 w10 h10 => ?_
      refine NewC.ofRow h10 fun n w11 h11 => ?_
      refine st2 h11 0 rfl fun w12 h12 => ?_
      simp only [Int.toNat_natCast] at h12 ⊢
      exact fin n w12 p1 p2 h12
    · refine NewC.ofRow h9 fun n w10 h10 => ?_
      refine RunS.makeOwn eok_i h10 (by omega) (by omega) (by omega) fun p1 w11 h11 => ?_
      refine st2 h11 1 rfl fun w12 h12 => ?_
      simp only [Int.toNat_natCast] at h12 ⊢
      exact fin n w12 p1 p2 (Sat.pull h12 1 rfl)
  · refine NewC.ofRow h5 fun n w9 h9 => ?_
    refine ⟨?_, ?_⟩
    · refine RunS.makeOwn eok_i h9 (by omega) (by omega) (by omega) fun p1 w10 h10 => ?_
      refine RunS.makeOwn eok_node h10 (by omega) (by omega) (by omega) fun p2 w11 h11 => ?_
      refine st2 h11 2 rfl fun w12 h12 => ?_
      simp only [Int.toNat_natCast] at h12 ⊢
      exact fin n w12 p1 p2 ((Sat.pull h12 1 rfl).pull 2 rfl)
    · refine RunS.makeOwn eok_node h9 (by omega) (by omega) (by omega) fun p2 w10 h10 => ?_
      refine RunS.makeOwn eok_i h10 (by omega) (by omega) (by omega) fun p1 w11 h11 => ?_
      refine st2 h11 2 rfl fun w12 h12 => ?_
      simp only [Int.toNat_natCast] at h12 ⊢
      exact fin n w12 p1 p2 (Sat.pull h12 2 rfl)
end
end Go.Proofs.Ytdfdmboljidhnaa
