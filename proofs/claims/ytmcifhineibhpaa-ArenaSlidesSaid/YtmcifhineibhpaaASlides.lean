/- 'ArenaSlides' answers true: what is kept stands in its order, as it was. No conditions. -/
import Derived.Test.YtmcifhineibhpaaAFull
namespace Go.Am
theorem setL_snoc : ∀ (l : List Ob) (k : Nat) (o o' : Ob), setL k (l ++ [o]) (k + osz l) o' = l ++ [o']
  | [], k, o, o' => by simp [setL, osz]
  | p :: l, k, o, o' => by
    simp only [List.cons_append, setL, osz]
    rw [if_neg (by omega), show k + (1 + p.w.length + osz l) = k + 1 + p.w.length + osz l by omega, setL_snoc l]
theorem Am.alloc_set {m : Am} (h : m.WF) {o o' : Ob} : (m.alloc o).set m.top o' = m.alloc o' := by
  unfold Am.alloc Am.set Am.top
  cases ho : m.op with
  | false =>
    have hf : findL 0 (m.low ++ [o]) (osz m.low) = some o := by rw [findL_snoc, findL_above (by omega)]; simp
    have hs := setL_snoc m.low 0 o o'
    rw [Nat.zero_add] at hs
    simp only [cond_false, hf, Option.isSome_some, if_true, hs]
  | true =>
    have hg := h.gap ho
    have hf : findL 0 m.low (m.hi + osz m.high) = none := findL_above (by omega)
    simp only [cond_true, hf, Option.isSome_none, Bool.false_eq_true, if_false, findL_none_set hf, setL_snoc]
theorem Am.alloc_find {m : Am} (h : m.WF) (o : Ob) : (m.alloc o).find m.top = some o := by
  rw [Am.find_alloc h]
  have : m.find m.top = none := by
    cases hf : m.find m.top with
    | none => rfl
    | some p => have := h.find_top hf; omega
  rw [this]; simp
theorem len_le_osz : ∀ l : List Ob, l.length ≤ osz l
  | [] => by simp
  | o :: l => by have := len_le_osz l; simp only [List.length_cons, osz]; omega
end Go.Am
namespace Go.Lw
open Go
theorem ArgF.ints {W : World} {k : IntKind} {p : Option Addr} {l : Nat} {xs : List Value} (hz : ArgF W [.int k] p l xs) : ∃ zs, ArgI W k p l zs := by
  have hl : xs.length = l := by simpa using hz.len
  have each : ∀ i, i < l → ∃ n, xs[i]? = Option.some (.int k n) ∧ (Lit.int k n).wf = true := fun i hi => by
    obtain ⟨v, hv, ha⟩ := hz.part hi (q := 0) rfl
    obtain ⟨n, rfl, hw⟩ := ha.int
    exact ⟨n, by simpa using hv, hw⟩
  let f : Value → Int := fun v => match v with | .int _ n => n | _ => 0
  have hx : xs = (xs.map f).map (Value.int k) := by
    apply List.ext_getElem?
    intro i
    by_cases hi : i < l
    · obtain ⟨n, hn, _⟩ := each i hi
      rw [List.getElem?_map, List.getElem?_map, hn]
      rfl
    · rw [List.getElem?_eq_none (by omega), List.getElem?_eq_none (by simp; omega)]
  refine ⟨xs.map f, by simpa using hl, hz.ptr, by rw [← hx]; exact hz.reads, fun n hn => ?_, hz.max⟩
  obtain ⟨i, hi⟩ := List.mem_iff_getElem?.1 hn
  have hlt : i < l := by
    rcases Nat.lt_or_ge i l with h | h
    · exact h
    · rw [List.getElem?_eq_none (by simp; omega)] at hi; cases hi
  obtain ⟨m, hm, hw⟩ := each i hlt
  rw [List.getElem?_map, hm] at hi
  simp only [Option.map_some, Option.some.injEq] at hi
  have : m = n := hi
  rw [← this]; exact hw
end Go.Lw
namespace Go.Proofs.Ytmcifhineibhpaa
open Go Go.Lw Go.Tb Go.Wd Go.Am Go.ChangeShapes Go.WideShapes Go.ChangeAt Go.RowKit

/-- an item, as it lies in its three cells. -/
structure It where
  tg : Int
  p : Option Addr
  l : Nat
  c : Nat
  k : Bool
def It.cells (x : It) : List Value := [.int .i64 x.tg, .slice x.p x.l x.c, .bool x.k]
def Fits (W : World) (x : It) (o : Ob) : Prop := ∃ zs, ArgI W .u64 x.p x.l zs ∧ (o.tag : Int) = IntKind.wrap .i64 (1 + bAnd .i64 x.tg 127) ∧ bAnd .i64 (x.l : Int) 15 = (o.w.length : Int) ∧ o.w.length ≤ 15 ∧ ∀ (k y : Nat), o.w[k]? = some y → zs[k]? = some (y : Int)
def Mat (W : World) : List It → List Ob → Prop
  | [], [] => True
  | x :: l, o :: l' => Fits W x o ∧ Mat W l l'
  | _, _ => False
theorem Mat.len {W : World} : ∀ {l : List It} {l' : List Ob}, Mat W l l' → l.length = l'.length
  | [], [], _ => rfl
  | x :: l, o :: l', h => by simp [Mat.len h.2]
  | [], o :: l', h => h.elim
  | x :: l, [], h => h.elim
theorem Mat.get {W : World} : ∀ {l : List It} {l' : List Ob} {i : Nat} {x : It}, Mat W l l' → l[i]? = some x → ∃ o, l'[i]? = some o ∧ Fits W x o
  | [], [], _, _, _, h => by simp at h
  | x :: l, o :: l', 0, y, h, hy => by simp at hy; subst hy; exact ⟨o, rfl, h.1⟩
  | x :: l, o :: l', i + 1, y, h, hy => by
    simp only [List.getElem?_cons_succ] at hy ⊢
    exact Mat.get h.2 hy
  | [], o :: l', _, _, h, _ => h.elim
  | x :: l, [], _, _, h, _ => h.elim
theorem Mat.snoc {W : World} : ∀ {l : List It} {l' : List Ob} {x : It} {o : Ob}, Mat W l l' → Fits W x o → Mat W (l ++ [x]) (l' ++ [o])
  | [], [], x, o, _, hx => ⟨hx, trivial⟩
  | y :: l, p :: l', x, o, h, hx => ⟨h.1, Mat.snoc h.2 hx⟩
  | [], o :: l', _, _, h, _ => h.elim
  | x :: l, [], _, _, h, _ => h.elim
theorem Fits.len {W : World} {x : It} {o : Ob} (h : Fits W x o) : o.w.length ≤ 15 := by obtain ⟨_, _, _, _, h, _⟩ := h; exact h
theorem Mat.osz {W : World} : ∀ {l : List It} {l' : List Ob}, Mat W l l' → Go.Am.osz l' ≤ 16 * l'.length
  | [], [], _ => by simp [Go.Am.osz]
  | x :: l, o :: l', h => by
    have h1 := h.1.len
    have h2 := Mat.osz h.2
    simp only [Go.Am.osz, List.length_cons]
    omega
  | [], o :: l', h => h.elim
  | x :: l, [], h => h.elim

abbrev itA : List ATy := [.int .i64, .slice [.int .u64], .bool]
/-- the items that came in. -/
structure Items (W : World) (p : Option Addr) (l : Nat) (xs : List Value) (its : List It) : Prop where
  len : its.length = l
  ptr : 0 < l → ∃ a, p = some a
  reads : Reads W p xs
  cells : ∀ (i : Nat) x, its[i]? = some x → xs[i * 3]? = some (.int .i64 x.tg) ∧ xs[i * 3 + 1]? = some (.slice x.p x.l x.c) ∧ xs[i * 3 + 2]? = some (.bool x.k)
  words : ∀ (i : Nat) x, its[i]? = some x → ∃ zs, ArgI W .u64 x.p x.l zs
theorem items_of {W : World} {p : Option Addr} {l : Nat} {xs : List Value} (hx : ArgF W itA p l xs) : ∃ its, Items W p l xs its := by
  have each : ∀ i, i < l → ∃ x : It, (xs[i * 3]? = some (.int .i64 x.tg) ∧ xs[i * 3 + 1]? = some (.slice x.p x.l x.c) ∧ xs[i * 3 + 2]? = some (.bool x.k)) ∧ ∃ zs, ArgI W .u64 x.p x.l zs := by
    intro i hi
    obtain ⟨v0, h0, a0⟩ := hx.part hi (q := 0) rfl
    obtain ⟨v1, h1, a1⟩ := hx.part hi (q := 1) rfl
    obtain ⟨v2, h2, a2⟩ := hx.part hi (q := 2) rfl
    obtain ⟨n, rfl, _⟩ := a0.int
    obtain ⟨p', l', c', ys, rfl, hy⟩ := a1.slice
    obtain ⟨k, rfl⟩ := a2.bool
    exact ⟨⟨n, p', l', c', k⟩, ⟨h0, h1, h2⟩, hy.ints⟩
  let f : Nat → It := fun i => if h : i < l then (each i h).choose else ⟨0, none, 0, 0, false⟩
  have hf : ∀ i x, ((List.range l).map f)[i]? = some x → ∃ h : i < l, x = (each i h).choose := by
    intro i x h
    have hlt : i < l := by
      rcases Nat.lt_or_ge i l with h' | h'
      · exact h'
      · rw [List.getElem?_eq_none (by simpa using h')] at h; cases h
    refine ⟨hlt, ?_⟩
    rw [List.getElem?_map, List.getElem?_range hlt] at h
    simp only [Option.map_some, Option.some.injEq] at h
    rw [← h]; simp only [f]; rw [dif_pos hlt]
  refine ⟨(List.range l).map f, by simp, hx.ptr, hx.reads, fun i x h => ?_, fun i x h => ?_⟩
  · obtain ⟨hlt, rfl⟩ := hf i x h; exact (each i hlt).choose_spec.1
  · obtain ⟨hlt, rfl⟩ := hf i x h; exact (each i hlt).choose_spec.2

/-- words put so far, the others nought. -/
def part (zs : List Int) (n i : Nat) : List Nat := (List.range n).map fun j => if j < i then (zs.getD j 0).toNat else 0
theorem part_len (zs : List Int) (n i : Nat) : (part zs n i).length = n := by simp [part]
theorem part_zero (zs : List Int) (n : Nat) : part zs n 0 = List.replicate n 0 := by
  apply List.ext_getElem?
  intro j
  by_cases hj : j < n
  · simp [part, hj]
  · rw [List.getElem?_eq_none (by rw [part_len]; omega), List.getElem?_eq_none (by simp; omega)]
theorem part_succ (zs : List Int) (n i : Nat) {y : Nat} (h : zs[i]? = some (y : Int)) : (part zs n i).set i y = part zs n (i + 1) := by
  apply List.ext_getElem?
  intro j
  rw [List.getElem?_set, part_len]
  by_cases hj : j < n
  · by_cases e : i = j
    · subst e; simp [part, hj, List.getD_eq_getElem?_getD, h]
    · rw [if_neg e]
      have h1 : (j < i + 1) = (j < i) := by rw [eq_iff_iff]; omega
      simp [part, hj, h1]
  · rw [List.getElem?_eq_none (l := part zs n (i + 1)) (by rw [part_len]; omega)]
    split
    · rename_i e; rw [if_neg (by omega)]
    · rw [List.getElem?_eq_none (by rw [part_len]; omega)]

theorem lay_c {W : World} {m : Am} {b : Nat} {F : List HP} {w : World} (hs : Sat (Arena m b :: F) w) (q : Nat) (hF : F[q]? = some (Base W)) {x : It} {zs : List Int} (hz : ArgI W .u64 x.p x.l zs) (owner : Int)
    {n : Nat} (hne : bAnd .i64 (x.l : Int) 15 = (n : Int)) (hn : n ≤ 15) :
    Calls Try.prog 23 #[.pointer (some ⟨b, 0, none⟩), .agg #[.int .i64 x.tg, .slice x.p x.l x.c, .bool x.k], .int .i64 owner] w fun e w' =>
      (m.n < m.top + 1 + n ∧ Ret (.bool false) (Sat (Arena m b :: F)) e w') ∨ ∃ o, o.w.length = n ∧ Fits W x o ∧ Ret (.bool true) (Sat (Arena (m.alloc o) b :: F)) e w' := by
  refine S_law7_lay_ok _ _ _ _ _ _ _ _ _ ?_
  unfold S_law7_lay
  have hm := (arena_open hs).1
  refine NewC.ofRow hs fun b0 w1 h1 => ?_
  simp only [add_mk, Nat.zero_add]
  refine LdS.of h1 0 rfl (off := 1) rfl rfl (LdI.of h1 0 rfl (off := 0) rfl rfl ?_)
  obtain ⟨t, ht, hte⟩ := bAnd_le x.tg 127 (by omega)
  have hte : bAnd .i64 x.tg 127 = (t : Int) := hte
  obtain ⟨ow, how, howe⟩ := bAnd_le owner 1023 (by omega)
  have howe : bAnd .i64 owner 1023 = (ow : Int) := howe
  have htw : IntKind.wrap .i64 (1 + bAnd .i64 x.tg 127) = ((1 + t : Nat) : Int) := by rw [hte, wrapI64 (by omega) (by omega)]; omega
  have hnl : n ≤ x.l := by
    have hmx := hz.max
    simp only [maxLen] at hmx
    have h2 : (BitVec.ofInt (IntKind.bits .i64) (x.l : Int) &&& BitVec.ofInt (IntKind.bits .i64) 15).toNat ≤ x.l := by
      rw [BitVec.toNat_and]
      refine Nat.le_trans Nat.and_le_left ?_
      rw [BitVec.ofInt_natCast, BitVec.toNat_ofNat]
      exact Nat.mod_le _ _
    have h : bAnd .i64 (x.l : Int) 15 ≤ (x.l : Int) := by
      unfold bAnd
      rw [wrapI64 (by omega) (by omega)]
      omega
    rw [hne] at h
    omega
  rw [htw, hne, howe]
  by_cases hroom : m.top + 1 + n ≤ m.n
  · refine (alloc2 (h1.pull 1 rfl) (tag := 1 + t) (refs := 0) (size := n) (owner := ow) (by unfold Fit; omega) hroom).mono ?_
    rintro e w2 ⟨rfl, h2⟩
    refine ⟨_, _, rfl, ?_⟩
    intro k0 hk0
    have hob : Ob.fresh (1 + t) 0 n ow = ⟨1 + t, 0, ow, false, part zs n 0⟩ := by rw [part_zero]; rfl
    rw [hob] at h2
    refine ⟨fun e i w => ∃ j : Nat, e = 0 ∧ i = j ∧ j ≤ n ∧ Sat (Arena (m.alloc ⟨1 + t, 0, ow, false, part zs n j⟩) b :: Row b0 [.int .i64 x.tg, .slice x.p x.l x.c, .bool x.k] 57 :: F) w, fun _ i _ => (n - i).toNat, ⟨0, rfl, rfl, by omega, h2⟩, ?_⟩
    clear h2
    rintro e i w3 ⟨j, rfl, rfl, hj, h3⟩
    unfold S_law7_lay_l0
    rw [hne]
    by_cases hjn : j < n
    · refine cond_t (by simpa using hjn) (cond_t rfl ?_)
      simp only [add_mk, Nat.zero_add]
      refine LdS.of h3 1 rfl (off := 1) rfl rfl ?_
      have hzj : zs[j]? = some (zs[j]'(by rw [hz.len]; omega)) := List.getElem?_eq_getElem _
      have hzw := hz.wf (zs[j]'(by rw [hz.len]; omega)) (List.getElem_mem _)
      generalize (zs[j]'(by rw [hz.len]; omega)) = z at hzj hzw
      obtain ⟨y, rfl, hy⟩ := wf_u64 hzw
      refine IdxC.reads (h3.baseReads (q + 2) (by simpa using hF) hz.reads) (hz.some (by omega)) (by omega) (by omega) fun a hca => ?_
      refine LdI.at (n := (y : Int)) (by simpa [Addr.add, hzj] using hca 0 (.int .u64 (y : Int)) (by simp [hzj])) ?_
      refine (put2_ok h3 (k := m.top) (j := j) (x := y) (Am.alloc_find hm _) (by rw [part_len]; exact hjn) hy).mono ?_
      rintro e w4 ⟨rfl, h4⟩
      rw [Am.alloc_set hm] at h4
      refine ⟨_, rfl, ?_⟩
      rw [wrapI64 (by omega) (by omega)]
      refine ⟨⟨j + 1, rfl, by omega, by omega, ?_⟩, by first | omega | (dsimp only; omega)⟩
      rw [← part_succ zs n j hzj]
      exact h4
    · have hjn : j = n := by omega
      subst hjn
      refine cond_f (by simp) (hk0 _ _ ?_)
      unfold S_law7_lay_j0
      refine .inr ⟨_, part_len zs j j, ⟨zs, hz, htw.symm, by rw [hne, part_len], by rw [part_len]; exact hn, fun k y hk => ?_⟩, rfl, (h3.pull 1 rfl).drop⟩
      have hkj : k < j := by have := get_lt hk; rwa [part_len] at this
      have hzk : zs[k]? = some (zs[k]'(by rw [hz.len]; omega)) := List.getElem?_eq_getElem _
      have hzw := hz.wf (zs[k]'(by rw [hz.len]; omega)) (List.getElem_mem _)
      generalize (zs[k]'(by rw [hz.len]; omega)) = z at hzk hzw
      obtain ⟨u, rfl, hu⟩ := wf_u64 hzw
      have : (part zs j j)[k]? = some u := by simp [part, hkj, List.getD_eq_getElem?_getD, hzk]
      rw [this] at hk
      cases hk
      exact hzk
  · refine (alloc2_full (h1.pull 1 rfl) (tag := ((1 + t : Nat) : Int)) (refs := 0) (size := (n : Int)) (owner := (ow : Int)) (by unfold Fit; omega) (by omega)).mono ?_
    rintro e w2 ⟨rfl, h2⟩
    refine ⟨_, _, rfl, ?_⟩
    intro k0 hk0
    refine ⟨fun e i w => e = 5 ∧ i = 0 ∧ Sat (Arena m b :: F) w, fun _ _ _ => 0, ⟨rfl, rfl, (h2.pull 1 rfl).drop⟩, ?_⟩
    rintro e i w3 ⟨rfl, rfl, h3⟩
    have fin : k0 5 w3 := by
      refine hk0 _ _ ?_
      unfold S_law7_lay_j0
      exact .inl ⟨by omega, rfl, h3⟩
    unfold S_law7_lay_l0
    rw [hne]
    by_cases h0 : 0 < n
    · exact cond_t (by simpa using h0) (cond_f rfl fin)
    · exact cond_f (by simpa using h0) fin

def kcells (ki : List It) : List Value := ki.flatMap It.cells
theorem kcells_len (ki : List It) : (kcells ki).length = ki.length * 3 := by
  induction ki with
  | nil => rfl
  | cons x l ih => unfold kcells at ih ⊢; simp only [List.flatMap_cons, List.length_append, ih, List.length_cons]; simp only [It.cells, List.length_cons, List.length_nil]; omega
theorem kcells_get : ∀ {ki : List It} {k q : Nat} {x : It}, ki[k]? = some x → q < 3 → (kcells ki)[k * 3 + q]? = x.cells[q]?
  | [], _, _, _, h, _ => by simp at h
  | y :: l, 0, q, x, h, hq => by
    simp at h; subst h
    unfold kcells
    rw [List.flatMap_cons, Nat.zero_mul, Nat.zero_add, List.getElem?_append_left (by simpa [It.cells] using hq)]
  | y :: l, k + 1, q, x, h, hq => by
    simp only [List.getElem?_cons_succ] at h
    have ih := kcells_get h hq
    unfold kcells at ih ⊢
    rw [List.flatMap_cons, List.getElem?_append_right (by simp [It.cells]; omega), ← ih]
    congr 1
    simp only [It.cells, List.length_cons, List.length_nil]
    omega
theorem kcells_snoc (ki : List It) (x : It) : kcells (ki ++ [x]) = kcells ki ++ [.int .i64 x.tg, .slice x.p x.l x.c, .bool x.k] := by simp [kcells, It.cells]
theorem eok_items : EOK Try.prog 54 57 3 40 := ⟨by kernel_rfl, ⟨_, _, rfl, rfl, rfl, rfl, rfl⟩, by omega⟩

/-- the items kept, the arena, and what came in. -/
abbrev SLs (W : World) (b : Nat) (m : Am) (ki : List It) (kp : Option Addr) (kc : Nat) : List HP := [Own 57 3 kp ki.length kc (kcells ki), Arena m b, Base W]

/-- an item that came in is read. -/
theorem Items.rd {W : World} {p : Option Addr} {l : Nat} {xs : List Value} {its : List It} (hx : Items W p l xs its) {L : List HP} {w : World} (hs : Sat L w) (i : Nat) (hi : L[i]? = some (Base W)) {j : Nat} {x : It} (hj : its[j]? = some x) {K : Addr → Prop}
    (h : ∀ a, w.cell? a = some (.int .i64 x.tg) → w.cell? (a.add 1) = some (.slice x.p x.l x.c) → w.cell? (a.add 2) = some (.bool x.k) → K a) : IdxC p l (j : Int) 3 K := by
  have hl := get_lt hj
  rw [hx.len] at hl
  obtain ⟨c0, c1, c2⟩ := hx.cells j x hj
  refine IdxC.reads (hs.baseReads i hi hx.reads) (hx.ptr (by omega)) (by omega) (by omega) fun a hca => ?_
  rw [Int.toNat_natCast] at hca
  exact h a (by simpa [Addr.add] using hca 0 _ c0) (hca 1 _ c1) (hca 2 _ c2)

theorem bAnd15 {l : Nat} : ∃ n : Nat, bAnd .i64 (l : Int) 15 = (n : Int) ∧ n ≤ 15 := by
  obtain ⟨n, hn, h⟩ := bAnd_le (l : Int) 15 (by omega)
  exact ⟨n, h, hn⟩

theorem slides_c (W : World) {p : Option Addr} {l c : Nat} {xs : List Value} (hx' : ArgF W itA p l xs) {p2 : Option Addr} {l2 c2 : Nat} {ys : List Value} (hy' : ArgF W itA p2 l2 ys) :
    Calls Try.prog 6 #[.slice p l c, .slice p2 l2 c2] W (Ret (.bool true) (Go.RowKit.Below W.heap.size W)) := by
  have hlm := hx'.max; have hl2m := hy'.max
  simp only [maxLen] at hlm hl2m
  obtain ⟨its, hx⟩ := items_of hx'
  obtain ⟨it2, hy⟩ := items_of hy'
  clear hx' hy'
  refine S_law7_ArenaSlides_ok _ _ _ _ _ _ _ _ ?_
  unfold S_law7_ArenaSlides
  refine (awake_c (Sat.ofBase W)).mono ?_
  rintro e w0 ⟨rfl, h0⟩
  refine ⟨_, rfl, cond_f rfl ?_⟩
  refine (fresh_c (n := 65536) (by omega) (by omega) h0).mono ?_
  rintro e w1 ⟨b, rfl, h1⟩
  refine ⟨_, rfl, cond_f rfl ?_⟩
  have hil := hx.len
  have hil2 := hy.len
  -- they are made
  refine ⟨fun n i w => ∃ os : List Ob, n = os.length ∧ i = os.length ∧ os.length ≤ l ∧ Mat W (its.take os.length) os ∧ Sat [Arena (Am.flat 65536 os) b, Base W] w, fun _ i _ => (l - i).toNat, ⟨[], rfl, rfl, by simp, trivial, h1⟩, ?_⟩
  clear h0 h1
  rintro n i w2 ⟨os, rfl, rfl, hol, hmat, h2⟩
  unfold S_law7_ArenaSlides_l4
  have hosz := hmat.osz
  by_cases hlt : os.length < l
  · refine cond_t (by simp; omega) ?_
    have hit : its[os.length]? = some its[os.length] := List.getElem?_eq_getElem (by omega)
    generalize its[os.length] = x at hit
    refine hx.rd h2 1 rfl hit fun a a0 a1 a2 => LdI.at a0 (LdS.at a1 (LdB.at a2 ?_))
    obtain ⟨zs, hz⟩ := hx.words _ _ hit
    obtain ⟨n, hne, hn⟩ := bAnd15 (l := x.l)
    refine (lay_c h2 0 rfl hz _ hne hn).mono ?_
    rintro e w3 (⟨hno, rfl, h3⟩ | ⟨o, hon, hfit, rfl, h3⟩)
    · refine ⟨_, rfl, cond_t rfl ?_⟩
      have h10 : 10 < l := by
        have e1 : (Am.flat 65536 os).top = osz os := rfl
        have e2 : (Am.flat 65536 os).n = 65536 := rfl
        rw [e1, e2] at hno
        omega
      exact ⟨by simp; omega, h3.below 1 rfl⟩
    · refine ⟨_, rfl, cond_f rfl ?_⟩
      rw [wrapI64 (by omega) (by omega)]
      refine ⟨⟨os ++ [o], by simp, by simp, by simp; omega, ?_, h3⟩, by first | omega | (dsimp only; omega)⟩
      rw [List.length_append, List.length_singleton, List.take_add_one, hit]
      exact hmat.snoc hfit
  have hlen : os.length = l := by omega
  refine cond_f (by simp; omega) ?_
  rw [List.take_of_length_le (by omega)] at hmat
  refine (open2 h2).mono ?_
  intro e w4 hp
  rw [if_neg (by simp [Am.flat])] at hp
  obtain ⟨rfl, h4⟩ := hp
  refine ⟨_, rfl, cond_f rfl ?_⟩
  clear h2 hlt hol
  -- some are kept
  refine ⟨fun kp kl kc i w => ∃ (j : Nat) (ki : List It) (ko mo : List Ob) (hi : Nat), i = j ∧ j ≤ l ∧ kl = ki.length ∧ Mat W ki ko ∧ Mat W (it2.take j) mo ∧ hi + osz (os.drop j ++ mo) ≤ 16 * (l + j) ∧ Sat (SLs W b ⟨65536, ko, os.drop j ++ mo, hi, true⟩ ki kp kc) w,
    fun _ _ _ i _ => (l - i).toNat, ⟨0, [], [], [], 0, rfl, by omega, rfl, trivial, trivial, ?_, ?_⟩, ?_⟩
  · rw [List.drop_zero, List.append_nil]; omega
  · rw [List.drop_zero, List.append_nil]
    exact h4.ownNil _ _
  clear h4
  rintro kp kl kc i w5 ⟨j, ki, ko, mo, hi, rfl, hj, rfl, hmk, hmm, hbd, h5⟩
  unfold S_law7_ArenaSlides_l3
  have small : ∀ {ki : List It} {ko hg : List Ob} {hi : Nat} {kp kc w}, Mat W ki ko → Sat (SLs W b ⟨65536, ko, hg, hi, true⟩ ki kp kc) w → ki.length ≤ 65536 := by
    intro ki ko hg hi kp kc w hm hs
    have hw := (arena_open (hs.pull 1 rfl)).1
    have h1 := hw.low_le; have h2 := hw.top
    have h3 := len_le_osz ko
    have h4 := hm.len
    have h5 : osz ko ≤ 65536 := Nat.le_trans h1 h2
    omega
  by_cases hjl : j < l
  · refine cond_t (by simp; omega) ?_
    intro k0 hk0 k1 hk1
    have hit : its[j]? = some its[j] := List.getElem?_eq_getElem (by omega)
    generalize its[j] = x at hit
    obtain ⟨o, ho, hfit⟩ := hmat.get hit
    have hdrop : os.drop j = o :: os.drop (j + 1) := by
      have hlo := get_lt ho
      rw [List.drop_eq_getElem_cons hlo]
      congr 1
      rw [List.getElem?_eq_getElem hlo] at ho
      exact Option.some.inj ho
    rw [hdrop] at h5 hbd
    have hbd1 : (hi + 1 + o.w.length) + osz (os.drop (j + 1) ++ mo) ≤ 16 * (l + j) := by
      simp only [List.cons_append, osz] at hbd
      omega
    -- another one is made
    have step : ∀ (ki : List It) (ko : List Ob) (kp : Option Addr) (kc : Nat) (w : World), Mat W ki ko → Sat (SLs W b ⟨65536, ko, os.drop (j + 1) ++ mo, hi + 1 + o.w.length, true⟩ ki kp kc) w → k1 kp ki.length kc w := by
      intro ki ko kp kc w hmk h6
      refine hk1 _ _ _ _ ?_
      unfold S_law7_ArenaSlides_j0
      have on : ∀ (mo' : List Ob) (w : World), Mat W (it2.take (j + 1)) mo' → (hi + 1 + o.w.length) + osz (os.drop (j + 1) ++ mo') ≤ 16 * (l + (j + 1)) → Sat (SLs W b ⟨65536, ko, os.drop (j + 1) ++ mo', hi + 1 + o.w.length, true⟩ ki kp kc) w → k0 kp ki.length kc w := by
        intro mo' w hm1 hb1 h7
        refine hk0 _ _ _ _ ?_
        unfold S_law7_ArenaSlides_j1
        rw [wrapI64 (by omega) (by omega)]
        exact ⟨⟨j + 1, ki, ko, mo', _, by omega, by omega, rfl, hmk, hm1, hb1, h7⟩, by first | omega | (dsimp only; omega)⟩
      by_cases hj2 : j < l2
      · refine cond_t (by simp; omega) ?_
        have hi2 : it2[j]? = some it2[j] := List.getElem?_eq_getElem (by omega)
        generalize it2[j] = y at hi2
        refine hy.rd h6 2 rfl hi2 fun a a0 a1 a2 => LdI.at a0 (LdS.at a1 (LdB.at a2 ?_))
        obtain ⟨zs, hz⟩ := hy.words _ _ hi2
        obtain ⟨n, hne, hn⟩ := bAnd15 (l := y.l)
        refine (lay_c (h6.pull 1 rfl) 1 rfl hz _ hne hn).mono ?_
        rintro e w7 (⟨hno, rfl, h7⟩ | ⟨o', hon, hfit', rfl, h7⟩)
        · refine ⟨_, rfl, cond_t rfl ?_⟩
          have h10 : 10 < l := by
            have e1 : (Am.mk 65536 ko (os.drop (j + 1) ++ mo) (hi + 1 + o.w.length) true).top = hi + 1 + o.w.length + osz (os.drop (j + 1) ++ mo) := rfl
            rw [e1] at hno
            have e2 : (Am.mk 65536 ko (os.drop (j + 1) ++ mo) (hi + 1 + o.w.length) true).n = 65536 := rfl
            rw [e2] at hno
            omega
          exact ⟨by simp; omega, h7.below 2 rfl⟩
        · refine ⟨_, rfl, cond_f rfl ?_⟩
          refine on (mo ++ [o']) _ ?_ ?_ ?_
          · rw [List.take_add_one, hi2]; exact hmm.snoc hfit'
          · rw [← List.append_assoc, osz_app, osz_one]; omega
          · have h8 : Sat (SLs W b (Am.alloc ⟨65536, ko, os.drop (j + 1) ++ mo, hi + 1 + o.w.length, true⟩ o') ki kp kc) w7 := Sat.back 1 (A := Arena ⟨65536, ko, os.drop (j + 1) ++ mo, hi + 1 + o.w.length, true⟩ b) (L := SLs W b ⟨65536, ko, os.drop (j + 1) ++ mo, hi + 1 + o.w.length, true⟩ ki kp kc) rfl h7
            have e1 : Am.alloc ⟨65536, ko, os.drop (j + 1) ++ mo, hi + 1 + o.w.length, true⟩ o' = ⟨65536, ko, os.drop (j + 1) ++ (mo ++ [o']), hi + 1 + o.w.length, true⟩ := by rw [← List.append_assoc]; rfl
            rw [e1] at h8
            exact h8
      · refine cond_f (by simp; omega) (on mo _ ?_ (by omega) h6)
        rw [List.take_of_length_le (by omega)] at hmm ⊢
        exact hmm
    refine hx.rd h5 2 rfl hit fun a a0 a1 a2 => LdB.at a2 ?_
    cases hk : x.k with
    | true =>
      refine cond_t rfl ?_
      refine (keep2 (h5.pull 1 rfl) (o := o) (l := os.drop (j + 1) ++ mo) rfl).mono ?_
      rintro e w6 ⟨rfl, h6⟩
      have h6 : Sat (SLs W b ⟨65536, ko ++ [o], os.drop (j + 1) ++ mo, hi + 1 + o.w.length, true⟩ ki kp kc) w6 := Sat.back 1 (A := Arena ⟨65536, ko, o :: os.drop (j + 1) ++ mo, hi, true⟩ b) (L := SLs W b ⟨65536, ko, o :: os.drop (j + 1) ++ mo, hi, true⟩ ki kp kc) rfl h6
      refine ⟨_, _, _, rfl, cond_f rfl ?_⟩
      have hsm : ki.length ≤ 65536 := small hmk h5
      refine hx.rd h6 2 rfl hit fun a a0 a1 a2 => LdI.at a0 (LdS.at a1 (LdB.at a2 ?_))
      refine RunS.one eok_items h6 0 rfl (by rfl) (by rfl) (by omega) (by simp only [maxLen]; omega) fun p' c' w7 h7 => ?_
      have e1 : kcells ki ++ [.int .i64 x.tg, .slice x.p x.l x.c, .bool x.k] = kcells (ki ++ [x]) := (kcells_snoc ki x).symm
      have e2 : ki.length + 1 = (ki ++ [x]).length := by simp
      rw [e2]
      refine step _ _ _ _ _ (hmk.snoc hfit) ?_
      unfold SLs
      rw [← e1, ← e2]
      exact h7
    | false =>
      refine cond_f rfl ?_
      refine (skip2 (h5.pull 1 rfl) (o := o) (l := os.drop (j + 1) ++ mo) rfl).mono ?_
      rintro e w6 ⟨rfl, h6⟩
      have h6 : Sat (SLs W b ⟨65536, ko, os.drop (j + 1) ++ mo, hi + 1 + o.w.length, true⟩ ki kp kc) w6 := Sat.back 1 (A := Arena ⟨65536, ko, o :: os.drop (j + 1) ++ mo, hi, true⟩ b) (L := SLs W b ⟨65536, ko, o :: os.drop (j + 1) ++ mo, hi, true⟩ ki kp kc) rfl h6
      exact ⟨_, _, rfl, cond_f rfl (step _ _ _ _ _ hmk h6)⟩
  have hjl : j = l := by omega
  subst hjl
  refine cond_f (by simp) ?_
  rw [List.drop_eq_nil_of_le (by omega), List.nil_append] at h5
  intro k2 hk2
  have hmol : mo.length = min j l2 := by have := hmm.len; rw [List.length_take, hil2] at this; exact this.symm
  -- the new ones are kept
  refine ⟨fun kp kl kc i w => ∃ (q : Nat) (ki : List It) (ko : List Ob) (hi : Nat), i = q ∧ q ≤ mo.length ∧ kl = ki.length ∧ Mat W ki ko ∧ Sat (SLs W b ⟨65536, ko, mo.drop q, hi, true⟩ ki kp kc) w, fun _ _ _ i _ => (mo.length - i).toNat, ⟨0, ki, ko, hi, rfl, by omega, rfl, hmk, h5⟩, ?_⟩
  clear h5 hmk hbd
  clear ki ko hi kp kc
  rintro kp kl kc i w8 ⟨q, ki, ko, hi, rfl, hq, rfl, hmk, h8⟩
  unfold S_law7_ArenaSlides_l0
  -- it is looked at
  have look : q = mo.length → k2 kp ki.length kc w8 := by
    intro hqe
    rw [List.drop_eq_nil_of_le (by omega)] at h8
    refine hk2 _ _ _ _ ?_
    unfold S_law7_ArenaSlides_j2
    refine (close2 (h8.pull 1 rfl)).mono ?_
    intro e w9 hp
    rw [if_pos rfl, if_pos rfl] at hp
    obtain ⟨rfl, h9⟩ := hp
    have h9 : Sat (SLs W b (Am.flat 65536 ko) ki kp kc) w9 := Sat.back 1 (A := Arena ⟨65536, ko, [], hi, true⟩ b) (L := SLs W b ⟨65536, ko, [], hi, true⟩ ki kp kc) rfl h9
    refine ⟨_, rfl, cond_f rfl ?_⟩
    have hkl := hmk.len
    refine ⟨fun at_ i w => ∃ k : Nat, i = k ∧ k ≤ ki.length ∧ at_ = pos ko k ∧ Sat (SLs W b (Am.flat 65536 ko) ki kp kc) w, fun _ i _ => (ki.length - i).toNat, ⟨0, rfl, by omega, by simp [pos, osz], h9⟩, ?_⟩
    have hsm : ki.length ≤ 65536 := small hmk h8
    clear h8 h9
    rintro at_ i w10 ⟨k, rfl, hk, rfl, h10⟩
    unfold S_law7_ArenaSlides_l2
    have hwf := (arena_open (h10.pull 1 rfl)).1
    have htop : osz ko ≤ 65536 := hwf.top
    by_cases hkn : k < ki.length
    case neg =>
      have hke : k = ko.length := by omega
      subst hke
      refine cond_f (by simp; omega) ?_
      refine (top2 (h10.pull 1 rfl)).mono ?_
      rintro e w' ⟨rfl, rfl⟩
      rw [flat_top, pos_all]
      refine ⟨_, rfl, cond_t (by simp) ?_⟩
      refine (free2 (h10.pull 1 rfl)).mono ?_
      rintro e w11 ⟨rfl, h11⟩
      have e1 : (Am.flat 65536 ko).n - (Am.flat 65536 ko).top = 65536 - osz ko := rfl
      rw [e1, wrapI64 (by omega) (by omega)]
      refine ⟨_, rfl, ?_, h11.below 2 rfl⟩
      congr 1
      simp; omega
    have hit : ki[k]? = some ki[k] := List.getElem?_eq_getElem hkn
    generalize ki[k] = x at hit
    obtain ⟨o, ho, hfit⟩ := hmk.get hit
    have hfd := flat_find (n := 65536) ho
    obtain ⟨zs, hz, f1, f2, f3, f4⟩ := hfit
    refine cond_t (by simp; omega) ?_
    refine (head2 (h10.pull 1 rfl) (pos ko k : Int)).mono ?_
    rintro e w11 ⟨rfl, h11⟩
    have h11 : Sat (SLs W b (Am.flat 65536 ko) ki kp kc) w11 := Sat.back 1 (A := Arena (Am.flat 65536 ko) b) rfl h11
    rw [findI_nat, hfd]
    refine ⟨_, _, _, _, _, _, rfl, ?_⟩
    refine NewC.ofRow h11 fun b0 w12 h12 => st5 h12 0 rfl fun w13 h13 => cond_f rfl ?_
    have h14 := h13.drew
    have cell : ∀ {w : World} {L : List HP} (i : Nat), Sat L w → L[i]? = some (Own 57 3 kp ki.length kc (kcells ki)) → ∀ {K : Addr → Prop}, (∀ a, w.cell? a = some (.int .i64 x.tg) → w.cell? (a.add 1) = some (.slice x.p x.l x.c) → K a) → IdxC kp ki.length (k : Int) 3 K := by
      intro w L i hs hi K h
      refine IdxC.ownAt hs i hi hkn fun g hg => h _ ?_ ?_
      · exact hs.ownAt i hi hg ((kcells_get (q := 0) hit (by omega)).trans rfl)
      · rw [add_mk]; exact hs.ownAt i hi hg ((kcells_get (q := 1) hit (by omega)).trans rfl)
    simp only [add_mk, Nat.zero_add]
    refine LdI.of h14 0 rfl (off := 0) rfl rfl ?_
    refine cell 1 h14 rfl fun a a0 a1 => LdI.at a0 ?_
    rw [← f1]
    refine cond_f (by simp) ?_
    refine LdI.of h14 0 rfl (off := 2) rfl rfl ?_
    refine cell 1 h14 rfl fun a a0 a1 => LdS.at a1 ?_
    rw [f2]
    refine cond_f (by simp) ?_
    refine ⟨fun i w => ∃ q : Nat, i = q ∧ q ≤ o.w.length ∧ Sat (Row b0 [.int .i64 (o.tag : Nat), .int .i64 (o.refs : Nat), .int .i64 (o.w.length : Nat), .bool o.mark, .int .i64 (o.owner : Nat)] 39 :: SLs W b (Am.flat 65536 ko) ki kp kc) w, fun i _ => (o.w.length - i).toNat, ⟨0, rfl, by omega, h14⟩, ?_⟩
    clear h10 h11 h12 h13 h14
    rintro i w15 ⟨r, rfl, hr, h15⟩
    unfold S_law7_ArenaSlides_l1
    simp only [add_mk, Nat.zero_add]
    refine LdI.of h15 0 rfl (off := 2) rfl rfl ?_
    by_cases hrn : r < o.w.length
    · refine cond_t (by simpa using hrn) ?_
      refine (get2 (h15.pull 2 rfl) (pos ko k : Int) (r : Int)).mono ?_
      rintro e w16 ⟨rfl, h16⟩
      have h16 : Sat (Row b0 [.int .i64 (o.tag : Nat), .int .i64 (o.refs : Nat), .int .i64 (o.w.length : Nat), .bool o.mark, .int .i64 (o.owner : Nat)] 39 :: SLs W b (Am.flat 65536 ko) ki kp kc) w16 := Sat.back 2 (A := Arena (Am.flat 65536 ko) b) rfl h16
      have hrx : o.w[r]? = some o.w[r] := List.getElem?_eq_getElem hrn
      generalize o.w[r] = y at hrx
      rw [findI_nat, hfd, getO_of hrx]
      refine ⟨_, _, rfl, cond_f rfl ?_⟩
      have hzr := f4 r y hrx
      have hzl := get_lt hzr
      rw [hz.len] at hzl
      refine cell 1 h16 rfl fun a a0 a1 => LdS.at a1 ?_
      refine IdxC.reads (h16.baseReads 3 rfl hz.reads) (hz.some (by omega)) (by omega) (by omega) fun a hca => ?_
      refine LdI.at (n := (y : Int)) (by simpa [Addr.add, hzr] using hca 0 (.int .u64 (y : Int)) (by simp [hzr])) ?_
      refine cond_f (by simp) ?_
      rw [wrapI64 (by omega) (by omega)]
      exact ⟨⟨r + 1, by omega, by omega, h16⟩, by first | omega | (dsimp only; omega)⟩
    · refine cond_f (by simpa using hrn) ?_
      refine (next2 (h15.pull 2 rfl) (pos ko k : Int)).mono ?_
      rintro e w16 ⟨rfl, h16⟩
      have h16 : Sat (Row b0 [.int .i64 (o.tag : Nat), .int .i64 (o.refs : Nat), .int .i64 (o.w.length : Nat), .bool o.mark, .int .i64 (o.owner : Nat)] 39 :: SLs W b (Am.flat 65536 ko) ki kp kc) w16 := Sat.back 2 (A := Arena (Am.flat 65536 ko) b) rfl h16
      rw [findI_nat, hfd]
      refine ⟨_, _, rfl, cond_f rfl ?_⟩
      refine LdI.of h16 0 rfl (off := 2) rfl rfl ?_
      have hps := hwf.find_top hfd
      have hft : (Am.flat 65536 ko).top ≤ 65536 := hwf.top
      have e1 : (Am.flat 65536 ko).next ((pos ko k : Int).toNat + 1 + o.w.length) = pos ko k + 1 + o.w.length := by simp [Am.next, Am.flat]
      rw [e1, wrapI64 (n := (pos ko k : Int) + 1) (by omega) (by omega), wrapI64 (by omega) (by omega)]
      refine cond_f (by simp) ?_
      rw [wrapI64 (by omega) (by omega)]
      refine ⟨⟨k + 1, by omega, by omega, ?_, h16.drop⟩, by first | omega | (dsimp only; omega)⟩
      have e2 : pos ko (k + 1) = pos ko k + 1 + o.w.length := by
        unfold pos
        rw [List.take_add_one, ho, osz_app]
        simp [osz]; omega
      rw [e2]
  by_cases hq2 : q < l2
  case neg => exact cond_f (by simp; omega) (look (by omega))
  refine cond_t (by simp; omega) ?_
  by_cases hql : q < j
  case neg => exact cond_f (by simp; omega) (look (by omega))
  refine cond_t (by simp; omega) ?_
  clear look
  have hi2 : it2[q]? = some it2[q] := List.getElem?_eq_getElem (by omega)
  generalize it2[q] = y at hi2
  obtain ⟨o, ho, hfit⟩ := hmm.get (i := q) (x := y) (by rw [List.getElem?_take_of_lt hql]; exact hi2)
  have hdrop : mo.drop q = o :: mo.drop (q + 1) := by
    have hlo := get_lt ho
    rw [List.drop_eq_getElem_cons hlo]
    congr 1
    rw [List.getElem?_eq_getElem hlo] at ho
    exact Option.some.inj ho
  rw [hdrop] at h8
  refine (keep2 (h8.pull 1 rfl) (o := o) (l := mo.drop (q + 1)) rfl).mono ?_
  rintro e w9 ⟨rfl, h9⟩
  have h9 : Sat (SLs W b ⟨65536, ko ++ [o], mo.drop (q + 1), hi + 1 + o.w.length, true⟩ ki kp kc) w9 := Sat.back 1 (A := Arena ⟨65536, ko, o :: mo.drop (q + 1), hi, true⟩ b) (L := SLs W b ⟨65536, ko, o :: mo.drop (q + 1), hi, true⟩ ki kp kc) rfl h9
  refine ⟨_, _, _, rfl, cond_f rfl ?_⟩
  have hsm : ki.length ≤ 65536 := small hmk h8
  refine hy.rd h9 2 rfl hi2 fun a a0 a1 a2 => LdI.at a0 (LdS.at a1 (LdB.at a2 ?_))
  refine RunS.one eok_items h9 0 rfl (by rfl) (by rfl) (by omega) (by simp only [maxLen]; omega) fun p' c' w10 h10 => ?_
  have e1 : kcells ki ++ [.int .i64 y.tg, .slice y.p y.l y.c, .bool y.k] = kcells (ki ++ [y]) := (kcells_snoc ki y).symm
  have e2 : ki.length + 1 = (ki ++ [y]).length := by simp
  have hqm := get_lt ho
  rw [wrapI64 (by omega) (by omega)]
  refine ⟨⟨q + 1, ki ++ [y], ko ++ [o], hi + 1 + o.w.length, by omega, by omega, e2, hmk.snoc hfit, ?_⟩, by first | omega | (dsimp only; omega)⟩
  unfold SLs
  rw [← e1, ← e2]
  exact h10

set_option maxRecDepth 100000 in
theorem slides_lifted (os : Os) (started : os.Started) (H : Type) (enc : TypeId × Value → H) :
    ReturnsInHanded {} Try.checked os 6 .any (Rows.arenaSlidesSpec.pre6 enc Try.prog Try.f6 Rows.arenaSlidesRow.domain false) (Rows.arenaSlidesSpec.post enc Try.prog Try.f6 false true false false) := by
  refine returnsInHanded_of_change (C := Try.checked) own started (by kernel_rfl) Try.func6
    (ChangeSpec.witness6 (enc := enc) (C := Try.checked) false ⟨#[], #[.slice none 0 0, .slice none 0 0], []⟩ 8 (by kernel_rfl) (by kernel_rfl) (by kernel_rfl) (by kernel_rfl)) ?_
  intro W base args ds gs before hval hW hcnd _
  have hval : ∀ (j : Nat) t v, Try.f6.params[j]? = some t → args[j]? = some v → Value.okWide Try.prog W .any base t v := hval
  have hW' : DataW.Whole enc Try.prog Try.f6.params.toList Rows.arenaSlidesSpec.vars false W args.toList ds gs before := hW
  obtain ⟨p, q, hA, hV, _⟩ := hW'
  rw [Try.params6] at hA hval
  obtain ⟨v0, v1, d0, d1, p0, p1, rfl, rfl, rfl, h0, h1⟩ := trodAll_two hA
  obtain ⟨a0, l0, c0, rfl⟩ := okWide_slice Try.underlying54 (hval 0 54 v0 rfl rfl)
  obtain ⟨q0, m0, r0, xs0, hv0, hx0⟩ := (argOf (n := 5) (a := .slice itA) (by kernel_rfl) rfl h0).slice
  cases hv0
  obtain ⟨a1, l1, c1, rfl⟩ := okWide_slice Try.underlying54 (hval 1 54 v1 rfl rfl)
  obtain ⟨q1, m1, r1, xs1, hv1, hx1⟩ := (argOf (n := 5) (a := .slice itA) (by kernel_rfl) rfl h1).slice
  cases hv1
  refine (slides_c W hx0 hx1).mono fun e W' ⟨he, hs⟩ => ?_
  exact ⟨_, he, law_post (tb := 4) laidOut (by decide +kernel) (by kernel_rfl) Try.underlying4 rfl hW ⟨rfl, rfl, rfl⟩ hs⟩

theorem slides_holds : Rows.ArenaSlidesSaid :=
  OpenClaim.holds_of_wide 6 Try.f6 rfl rfl rfl rfl rfl rfl rfl ⟨rfl, rfl, rfl, rfl, rfl⟩ rfl rfl rfl rfl rfl (by kernel_rfl) Try.func6 (by kernel_rfl)
    (of_decide_eq_true (by kernel_rfl)) (by unfold Func.isWrapper; first | (rw [if_pos (by decide +kernel)]; kernel_rfl) | (rw [if_neg (by decide +kernel)]; exact ⟨rfl, rfl⟩))
    (fun os started H enc _ => slides_lifted os started H enc)
end Go.Proofs.Ytmcifhineibhpaa
