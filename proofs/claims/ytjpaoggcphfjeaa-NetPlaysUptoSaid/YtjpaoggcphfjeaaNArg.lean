/- Deeds and their messages, as they came in: read as trees. -/
import Derived.Test.YtjpaoggcphfjeaaNVast
import Derived.Test.YtjpaoggcphfjeaaRows
import Derived.Test.YtjpaoggcphfjeaaLaw
namespace Go.Lw
open Go Go.Tb
/-- a slice's cells as rows of things. -/
theorem CRs.of {α : Type} {S : Mem} {s : Nat} {g : α → List Value} {L : List α} {p : Option Addr} {c : Nat} (hl : L.length ≤ 1048576) (hc : L.length ≤ c) (hg : ∀ a, (g a).length = s) (h1 : ∀ a, ∀ u ∈ g a, u.oneCell' = true)
    (h : ∀ i a, L[i]? = some a → ∀ j v, (g a)[j]? = some v → ∃ ad, p = some ad ∧ RdS S (ad.add (i * s + j)) v) : CRs S s (L.flatMap g) p L.length c := by
  have hlen : ∀ L : List α, (L.flatMap g).length = L.length * s := fun L => by
    induction L with
    | nil => simp
    | cons a L ih => rw [List.flatMap_cons, List.length_append, ih, hg, List.length_cons, Nat.add_mul, Nat.one_mul, Nat.add_comm]
  have hget : ∀ (L : List α) (k : Nat) (v : Value), (L.flatMap g)[k]? = some v → ∃ i j a, k = i * s + j ∧ L[i]? = some a ∧ (g a)[j]? = some v := by
    intro L
    induction L with
    | nil => intro k v h; simp at h
    | cons a L ih =>
      intro k v h
      rw [List.flatMap_cons] at h
      by_cases hk : k < s
      · rw [List.getElem?_append_left (by rw [hg]; exact hk)] at h
        exact ⟨0, k, a, by omega, rfl, h⟩
      · rw [List.getElem?_append_right (by rw [hg]; omega), hg] at h
        obtain ⟨i, j, b, e, h2, h3⟩ := ih _ _ h
        refine ⟨i + 1, j, b, ?_, by simpa using h2, h3⟩
        rw [Nat.add_mul, Nat.one_mul]; omega
  refine ⟨hlen L, hl, hc, fun u hu => ?_, fun k v hv => ?_⟩
  · obtain ⟨a, _, hu⟩ := List.mem_flatMap.1 hu
    exact h1 a u hu
  · obtain ⟨i, j, a, rfl, h2, h3⟩ := hget L k v hv
    exact h i a h2 j v h3
theorem flatMap_cells {α : Type} {g : α → Value} (L : List α) : (L.flatMap fun a => [g a]) = L.map g := by
  induction L with
  | nil => rfl
  | cons a L ih => rw [List.flatMap_cons, ih]; rfl
end Go.Lw
namespace Go.Proofs.Ytjpaoggcphfjeaa
open Go Go.Lw Go.Tb Go.Wd Go.Vd
theorem uncons {α : Type} {n : Nat} {l : List α} (h : l.length = n + 1) : ∃ a t, l = a :: t ∧ t.length = n := by
  cases l with
  | nil => cases h
  | cons a t => exact ⟨a, t, rfl, by simpa using h⟩
theorem len2 {α : Type} {l : List α} (h : l.length = 2) : ∃ c0 c1, l = [c0, c1] := by
  obtain ⟨c0, t0, rfl, h0⟩ := uncons h
  obtain ⟨c1, t1, rfl, h1⟩ := uncons h0
  obtain rfl := List.eq_nil_of_length_eq_zero h1
  exact ⟨_, _, rfl⟩
theorem len3 {α : Type} {l : List α} (h : l.length = 3) : ∃ c0 c1 c2, l = [c0, c1, c2] := by
  obtain ⟨c0, t0, rfl, h0⟩ := uncons h
  obtain ⟨c1, t1, rfl, h1⟩ := uncons h0
  obtain ⟨c2, t2, rfl, h2⟩ := uncons h1
  obtain rfl := List.eq_nil_of_length_eq_zero h2
  exact ⟨_, _, _, rfl⟩
theorem len5 {α : Type} {l : List α} (h : l.length = 5) : ∃ c0 c1 c2 c3 c4, l = [c0, c1, c2, c3, c4] := by
  obtain ⟨c0, t0, rfl, h0⟩ := uncons h
  obtain ⟨c1, t1, rfl, h1⟩ := uncons h0
  obtain ⟨c2, t2, rfl, h2⟩ := uncons h1
  obtain ⟨c3, t3, rfl, h3⟩ := uncons h2
  obtain ⟨c4, t4, rfl, h4⟩ := uncons h3
  obtain rfl := List.eq_nil_of_length_eq_zero h4
  exact ⟨_, _, _, _, _, rfl⟩
theorem len6 {α : Type} {l : List α} (h : l.length = 6) : ∃ c0 c1 c2 c3 c4 c5, l = [c0, c1, c2, c3, c4, c5] := by
  obtain ⟨c0, t0, rfl, h0⟩ := uncons h
  obtain ⟨c1, t1, rfl, h1⟩ := uncons h0
  obtain ⟨c2, t2, rfl, h2⟩ := uncons h1
  obtain ⟨c3, t3, rfl, h3⟩ := uncons h2
  obtain ⟨c4, t4, rfl, h4⟩ := uncons h3
  obtain ⟨c5, t5, rfl, h5⟩ := uncons h4
  obtain rfl := List.eq_nil_of_length_eq_zero h5
  exact ⟨_, _, _, _, _, _, rfl⟩
theorem len17 {α : Type} {l : List α} (h : l.length = 17) : ∃ c0 c1 c2 c3 c4 c5 c6 c7 c8 c9 c10 c11 c12 c13 c14 c15 c16, l = [c0, c1, c2, c3, c4, c5, c6, c7, c8, c9, c10, c11, c12, c13, c14, c15, c16] := by
  obtain ⟨c0, t0, rfl, h0⟩ := uncons h
  obtain ⟨c1, t1, rfl, h1⟩ := uncons h0
  obtain ⟨c2, t2, rfl, h2⟩ := uncons h1
  obtain ⟨c3, t3, rfl, h3⟩ := uncons h2
  obtain ⟨c4, t4, rfl, h4⟩ := uncons h3
  obtain ⟨c5, t5, rfl, h5⟩ := uncons h4
  obtain ⟨c6, t6, rfl, h6⟩ := uncons h5
  obtain ⟨c7, t7, rfl, h7⟩ := uncons h6
  obtain ⟨c8, t8, rfl, h8⟩ := uncons h7
  obtain ⟨c9, t9, rfl, h9⟩ := uncons h8
  obtain ⟨c10, t10, rfl, h10⟩ := uncons h9
  obtain ⟨c11, t11, rfl, h11⟩ := uncons h10
  obtain ⟨c12, t12, rfl, h12⟩ := uncons h11
  obtain ⟨c13, t13, rfl, h13⟩ := uncons h12
  obtain ⟨c14, t14, rfl, h14⟩ := uncons h13
  obtain ⟨c15, t15, rfl, h15⟩ := uncons h14
  obtain ⟨c16, t16, rfl, h16⟩ := uncons h15
  obtain rfl := List.eq_nil_of_length_eq_zero h16
  exact ⟨_, _, _, _, _, _, _, _, _, _, _, _, _, _, _, _, _, rfl⟩
theorem len21 {α : Type} {l : List α} (h : l.length = 21) : ∃ c0 c1 c2 c3 c4 c5 c6 c7 c8 c9 c10 c11 c12 c13 c14 c15 c16 c17 c18 c19 c20, l = [c0, c1, c2, c3, c4, c5, c6, c7, c8, c9, c10, c11, c12, c13, c14, c15, c16, c17, c18, c19, c20] := by
  obtain ⟨c0, t0, rfl, h0⟩ := uncons h
  obtain ⟨c1, t1, rfl, h1⟩ := uncons h0
  obtain ⟨c2, t2, rfl, h2⟩ := uncons h1
  obtain ⟨c3, t3, rfl, h3⟩ := uncons h2
  obtain ⟨c4, t4, rfl, h4⟩ := uncons h3
  obtain ⟨c5, t5, rfl, h5⟩ := uncons h4
  obtain ⟨c6, t6, rfl, h6⟩ := uncons h5
  obtain ⟨c7, t7, rfl, h7⟩ := uncons h6
  obtain ⟨c8, t8, rfl, h8⟩ := uncons h7
  obtain ⟨c9, t9, rfl, h9⟩ := uncons h8
  obtain ⟨c10, t10, rfl, h10⟩ := uncons h9
  obtain ⟨c11, t11, rfl, h11⟩ := uncons h10
  obtain ⟨c12, t12, rfl, h12⟩ := uncons h11
  obtain ⟨c13, t13, rfl, h13⟩ := uncons h12
  obtain ⟨c14, t14, rfl, h14⟩ := uncons h13
  obtain ⟨c15, t15, rfl, h15⟩ := uncons h14
  obtain ⟨c16, t16, rfl, h16⟩ := uncons h15
  obtain ⟨c17, t17, rfl, h17⟩ := uncons h16
  obtain ⟨c18, t18, rfl, h18⟩ := uncons h17
  obtain ⟨c19, t19, rfl, h19⟩ := uncons h18
  obtain ⟨c20, t20, rfl, h20⟩ := uncons h19
  obtain rfl := List.eq_nil_of_length_eq_zero h20
  exact ⟨_, _, _, _, _, _, _, _, _, _, _, _, _, _, _, _, _, _, _, _, _, rfl⟩
theorem bulk_pos {H : Type} (d : DataW H) : 1 ≤ Rows.uptoBulk d := by
  cases d with
  | lit l => cases l <;> simp [Rows.uptoBulk]
  | _ => simp [Rows.uptoBulk]
theorem bulkAll_len {H : Type} : ∀ ds : List (DataW H), ds.length ≤ Rows.uptoBulkAll ds
  | [] => by simp
  | d :: r => by
    have h1 := bulk_pos d
    have h2 := bulkAll_len r
    simp only [Rows.uptoBulkAll, List.length_cons]
    omega
theorem bulkAll_mem {H : Type} : ∀ (ds : List (DataW H)) (d : DataW H), d ∈ ds → Rows.uptoBulk d ≤ Rows.uptoBulkAll ds
  | [], _, h => by cases h
  | e :: r, d, h => by
    simp only [Rows.uptoBulkAll]
    rcases List.mem_cons.1 h with rfl | h
    · omega
    · have := bulkAll_mem r d h
      omega
theorem bulkAll_append {H : Type} : ∀ (l m : List (DataW H)), Rows.uptoBulkAll (l ++ m) = Rows.uptoBulkAll l + Rows.uptoBulkAll m
  | [], _ => by simp [Rows.uptoBulkAll]
  | e :: r, m => by
    rw [List.cons_append]
    simp only [Rows.uptoBulkAll]
    rw [bulkAll_append r m]; omega

theorem mapM_get {α β : Type} {g : α → Option β} : ∀ {l : List α} {ys : List β}, l.mapM g = some ys → ∀ (i : Nat) (a : α), l[i]? = some a → ∃ y, g a = some y ∧ y ∈ ys
  | [], _, _, i, a, h => by simp at h
  | b :: l, ys, h, i, a, hi => by
    rw [List.mapM_cons] at h
    obtain ⟨y, hy, h⟩ := Option.bind_eq_some_iff.1 h
    obtain ⟨zs, hz, h⟩ := Option.bind_eq_some_iff.1 h
    simp only [pure, Option.some.injEq] at h
    subst h
    cases i with
    | zero =>
      simp only [List.getElem?_cons_zero, Option.some.injEq] at hi
      subst hi
      exact ⟨y, hy, by simp⟩
    | succ i =>
      simp only [List.getElem?_cons_succ] at hi
      obtain ⟨z, h1, h2⟩ := mapM_get hz i a hi
      exact ⟨z, h1, by simp [h2]⟩

theorem wf_u8 {n : Int} (h : (Lit.int .u8 n).wf = true) : 0 ≤ n ∧ n ≤ 255 := by
  simpa [Lit.wf, IntKind.min, IntKind.max, IntKind.signed, IntKind.bits] using h
section
variable {H : Type} {enc : TypeId × Value → H} {P : Program} {W : World} {sp : Nat → Bool} {held : Bool}
theorem trod_fld {fuel t : Nat} {fs : Array Field} {cs : List Value} {x : DataW H × List MemPlace} (hu : P.underlying t = some (.struct fs)) (h : DataW.trod enc P W 0 sp held fuel t cs = some x) :
    ∃ n, fuel = n + 1 ∧ cs.length = P.cellsOf t ∧ ∀ (i : Nat) (f : Field), fs[i]? = some f → ∃ y, DataW.trod enc P W 0 sp held n f.type ((cs.drop f.offset).take (P.cellsOf f.type)) = some y ∧ Rows.uptoBulk y.1 ≤ Rows.uptoBulk x.1 := by
  cases fuel with
  | zero => simp [DataW.trod] at h
  | succ n =>
    unfold DataW.trod at h
    rw [hu] at h
    dsimp only at h
    split at h
    · rename_i hl
      obtain ⟨ys, h1, h2⟩ := Option.map_eq_some_iff.1 h
      refine ⟨n, rfl, hl, fun i f hf => ?_⟩
      obtain ⟨y, h3, h4⟩ := mapM_get h1 i f (by rw [← Array.getElem?_toList] at hf; exact hf)
      refine ⟨y, h3, ?_⟩
      subst h2
      have := bulkAll_mem (ys.map (·.1)) y.1 (List.mem_map.2 ⟨y, h4, rfl⟩)
      simp only [Rows.uptoBulk]
      omega
    · cases h
/-- a slice's elements. -/
theorem trod_els {α : Type} {fuel t e s : Nat} {cs : List Value} {x : DataW H × List MemPlace} (hu : P.underlying t = some (.slice e)) (hc : P.cellsOf e = s) (R : α → List Value → Prop) (g : α → Nat)
    (hr : ∀ n, n < fuel → ∀ cs y, DataW.trod enc P W 0 sp held n e cs = some y → Rows.uptoBulk y.1 ≤ Rows.uptoBulk x.1 → ∃ a, R a cs ∧ g a ≤ Rows.uptoBulk y.1)
    (h : DataW.trod enc P W 0 sp held fuel t cs = some x) : ∃ (p : Option Addr) (c : Nat) (L : List α), cs = [.slice p L.length c] ∧ L.length ≤ c ∧ L.length ≤ Rows.uptoBulk x.1 ∧ (L.map g).sum ≤ Rows.uptoBulk x.1 ∧
      ∀ (i : Nat) (a : α), L[i]? = some a → ∃ xs : List Value, R a xs ∧ xs.length = s ∧ ∀ (j : Nat) (v : Value), xs[j]? = some v → ∃ ad, p = some ad ∧ RdS (Mem.of W) (ad.add (i * s + j)) v := by
  rcases DataW.trod_slice hu h with ⟨h0, _⟩ | ⟨ad, len, cap, elems, rest, m, hm, h0, hx, _, hl, _, hlen, hel, _, _⟩
  · exact ⟨none, 0, [], h0, by simp, by simp, by simp, by simp⟩
  · have hB : Rows.uptoBulk x.1 = Rows.uptoBulkAll (elems.map (·.1)) + Rows.uptoBulkAll (rest.map (·.1)) + 1 := by rw [hx]; simp only [Rows.uptoBulk]
    have key : ∀ n, n ≤ len → ∃ L : List α, L.length = n ∧ (L.map g).sum ≤ Rows.uptoBulkAll ((elems.take n).map (·.1)) ∧ ∀ i a, L[i]? = some a → ∃ xs, R a xs ∧ xs.length = s ∧ ∀ j v, xs[j]? = some v → RdS (Mem.of W) (ad.add (i * s + j)) v := by
      intro n
      induction n with
      | zero => intro _; exact ⟨[], rfl, by simp, by simp⟩
      | succ n ih =>
        intro hn
        obtain ⟨L, h1, h2, h3⟩ := ih (by omega)
        have he := hel n (by omega)
        have hy : elems[n]? = some elems[n] := List.getElem?_eq_getElem (by omega)
        rw [hy, hc] at he
        obtain ⟨ds, h4, h5⟩ := Option.bind_eq_some_iff.1 he
        have hb := bulkAll_mem (elems.map (·.1)) elems[n].1 (List.mem_map.2 ⟨_, List.getElem_mem _, rfl⟩)
        obtain ⟨a, h6, h7⟩ := hr m (by omega) ds _ h5 (by omega)
        refine ⟨L ++ [a], by simp [h1], ?_, fun i b hi => ?_⟩
        · have e1 : (elems.take (n + 1)).map (·.1) = (elems.take n).map (·.1) ++ [elems[n].1] := by rw [List.take_add_one, hy, List.map_append]; rfl
          rw [e1, bulkAll_append, List.map_append, List.sum_append]
          simp only [Rows.uptoBulkAll, List.map_cons, List.map_nil, List.sum_cons, List.sum_nil]
          omega
        · by_cases hin : i < n
          · rw [List.getElem?_append_left (by omega)] at hi
            exact h3 i b hi
          · have hi' := get_lt hi
            simp only [List.length_append, List.length_singleton, h1] at hi'
            obtain rfl : i = n := by omega
            rw [List.getElem?_append_right (by omega), h1, Nat.sub_self] at hi
            simp only [List.getElem?_cons_zero, Option.some.injEq] at hi
            subst hi
            have h8 := World.cells?_some h4
            refine ⟨ds, h6, h8.2.1, fun j v hj => RdS.base ?_⟩
            have hjl := get_lt hj
            rw [h8.2.1] at hjl
            rw [← add_add, h8.2.2 j hjl, hj]
    obtain ⟨L, h1, h2, h3⟩ := key len (Nat.le_refl _)
    have h9 := bulkAll_len (elems.map (·.1))
    rw [List.length_map] at h9
    rw [List.take_of_length_le (by omega)] at h2
    refine ⟨some ad, cap, L, by rw [h0, h1], by omega, by omega, by omega, fun i a hi => ?_⟩
    obtain ⟨xs, h4, h5, h6⟩ := h3 i a hi
    exact ⟨xs, h4, h5, fun j v hj => ⟨ad, rfl, h6 j v hj⟩⟩
theorem trod_i {fuel t : Nat} {k : IntKind} {v : Value} {x : DataW H × List MemPlace} (hu : P.underlying t = some (.int k)) (h : DataW.trod enc P W 0 sp held fuel t [v] = some x) : ∃ n, v = .int k n ∧ (Lit.int k n).wf = true := by
  obtain ⟨m, h1, _, h3⟩ := DataW.trod_int hu h
  cases h1
  exact ⟨m, rfl, h3⟩
theorem trod_s {fuel t : Nat} {v : Value} {x : DataW H × List MemPlace} (hu : P.underlying t = some .string) (h : DataW.trod enc P W 0 sp held fuel t [v] = some x) : ∃ s, v = .string s := by
  obtain ⟨m, h1, _, h3⟩ := DataW.trod_string hu h
  cases h1
  exact ⟨m, rfl⟩
end

section
variable {H : Type} {enc : TypeId × Value → H} {W : World} {sp : Nat → Bool} {held : Bool}
set_option maxRecDepth 100000 in
theorem val_arg : ∀ (fuel : Nat) (cs : List Value) (x : DataW H × List MemPlace), DataW.trod enc Try.prog W 0 sp held fuel 102 cs = some x → Rows.uptoBulk x.1 ≤ 1048576 → ∃ v, VR (Mem.of W) v cs := by
  intro fuel
  induction fuel using Nat.strongRecOn with
  | ind fuel ih =>
    intro cs x h hb
    obtain ⟨n, rfl, hl, hf⟩ := trod_fld Try.underlying102 h
    obtain ⟨c0, c1, c2, c3, c4, rfl⟩ := len5 (hl.trans (by kernel_rfl))
    obtain ⟨y0, f0, b0⟩ := hf 0 _ rfl
    obtain ⟨y1, f1, b1⟩ := hf 1 _ rfl
    obtain ⟨y2, f2, b2⟩ := hf 2 _ rfl
    obtain ⟨y3, f3, b3⟩ := hf 3 _ rfl
    obtain ⟨y4, f4, b4⟩ := hf 4 _ rfl
    obtain ⟨k, rfl, _⟩ := trod_i (k := .i64) (v := c0) Try.underlying3 f0
    obtain ⟨m, rfl, _⟩ := trod_i (k := .i64) (v := c1) Try.underlying2 f1
    obtain ⟨s, rfl⟩ := trod_s (v := c2) Try.underlying9 f2
    obtain ⟨lp, lc, L, e3, hlc, hll, _, hL⟩ := trod_els (α := V) (s := 5) Try.underlying33 (by kernel_rfl) (fun v cs => VR (Mem.of W) v cs) (fun _ => 0)
      (fun q hq cs y hy hyb => by
        obtain ⟨v, hv⟩ := ih q (by omega) cs y hy (by omega)
        exact ⟨v, hv, by omega⟩) (cs := [c3]) f3
    cases e3
    obtain ⟨fp, fc, F, e4, hfc, hfl, _, hF⟩ := trod_els (α := ByteArray × V) (s := 6) Try.underlying100 (by kernel_rfl) (fun v cs => ∃ ds, cs = .string v.1 :: ds ∧ VR (Mem.of W) v.2 ds) (fun _ => 0)
      (fun q hq cs y hy hyb => by
        obtain ⟨q', rfl, hl', hf'⟩ := trod_fld Try.underlying107 hy
        obtain ⟨d0, d1, d2, d3, d4, d5, rfl⟩ := len6 (hl'.trans (by kernel_rfl))
        obtain ⟨z0, g0, _⟩ := hf' 0 _ rfl
        obtain ⟨z1, g1, b1⟩ := hf' 1 _ rfl
        obtain ⟨nm, rfl⟩ := trod_s (v := d0) Try.underlying9 g0
        obtain ⟨v, hv⟩ := ih q' (by omega) [d1, d2, d3, d4, d5] z1 g1 (by omega)
        exact ⟨(nm, v), ⟨_, rfl, hv⟩, by omega⟩) (cs := [c4]) f4
    cases e4
    refine ⟨.mk k m s L F, VR.close (ll := L.length) (fl := F.length) ⟨rfl, by simp only [lim]; omega, hlc, fun i a hi => ?_⟩ ⟨rfl, by simp only [lim]; omega, hfc, fun i a hi => ?_⟩⟩
    · obtain ⟨xs, h1, _, h3⟩ := hL i a hi
      exact ⟨xs, h1, h3⟩
    · obtain ⟨xs, ⟨ds, rfl, h1⟩, _, h3⟩ := hF i a hi
      refine ⟨ds, h1, h3 0 _ rfl, fun j v hj => ?_⟩
      have := h3 (j + 1) v (by simpa using hj)
      rw [Nat.add_comm j 1] at this
      exact this

theorem bytes_arg {fuel : Nat} {v : Value} {x : DataW H × List MemPlace} (h : DataW.trod enc Try.prog W 0 sp held fuel 30 [v] = some x) (hb : Rows.uptoBulk x.1 ≤ 1048576) :
    ∃ p c L, v = .slice p L.length c ∧ CRs (Mem.of W) 1 (bcells L) p L.length c := by
  obtain ⟨p, c, L, e, h1, h2, _, h3⟩ := trod_els (α := UInt8) (s := 1) Try.underlying30 (by kernel_rfl) (fun b cs => cs = [.int .u8 (b.toNat : Int)]) (fun _ => 0)
    (fun q hq cs y hy hyb => by
      obtain ⟨m, e1, _, e2⟩ := DataW.trod_int Try.underlying5 hy
      have e3 := wf_u8 e2
      refine ⟨UInt8.ofNat m.toNat, ?_, by omega⟩
      rw [e1, show ((UInt8.ofNat m.toNat).toNat : Int) = m by rw [UInt8.toNat_ofNat']; omega]) h
  cases e
  refine ⟨p, c, L, rfl, ?_⟩
  have := CRs.of (S := Mem.of W) (s := 1) (g := fun b : UInt8 => [Value.int .u8 (b.toNat : Int)]) (L := L) (p := p) (c := c) (by omega) h1 (fun _ => rfl) (fun a u hu => by simp only [List.mem_cons, List.not_mem_nil, or_false] at hu; subst hu; rfl)
    (fun i a hi j v hj => by
      obtain ⟨xs, rfl, _, h5⟩ := h3 i a hi
      exact h5 j v hj)
  rw [flatMap_cells] at this
  exact this
set_option maxRecDepth 100000 in
theorem entry_arg {fuel : Nat} {cs : List Value} {x : DataW H × List MemPlace} (h : DataW.trod enc Try.prog W 0 sp held fuel 32 cs = some x) :
    ∃ c n s, cs = [.int .i64 c, .int .i64 n, .string s] := by
  obtain ⟨n, rfl, hl, hf⟩ := trod_fld Try.underlying32 h
  obtain ⟨c0, c1, c2, rfl⟩ := len3 (hl.trans (by kernel_rfl))
  obtain ⟨y0, f0, b0⟩ := hf 0 _ rfl
  obtain ⟨y1, f1, b1⟩ := hf 1 _ rfl
  obtain ⟨y2, f2, b2⟩ := hf 2 _ rfl
  obtain ⟨k, rfl, _⟩ := trod_i (k := .i64) (v := c0) Try.underlying3 f0
  obtain ⟨m, rfl, _⟩ := trod_i (k := .i64) (v := c1) Try.underlying3 f1
  obtain ⟨s, rfl⟩ := trod_s (v := c2) Try.underlying9 f2
  exact ⟨k, m, s, rfl⟩
theorem log_arg {fuel : Nat} {v : Value} {x : DataW H × List MemPlace} (h : DataW.trod enc Try.prog W 0 sp held fuel 29 [v] = some x) (hb : Rows.uptoBulk x.1 ≤ 1048576) :
    ∃ p c L, v = .slice p L.length c ∧ CRs (Mem.of W) 3 (ecells L) p L.length c := by
  obtain ⟨p, c, L, e, h1, h2, _, h3⟩ := trod_els (α := Int × Int × ByteArray) (s := 3) Try.underlying29 (by kernel_rfl) (fun x cs => cs = [.int .i64 x.1, .int .i64 x.2.1, .string x.2.2]) (fun _ => 0)
    (fun q hq cs y hy hyb => by
      obtain ⟨c, n, s, rfl⟩ := entry_arg hy
      exact ⟨(c, n, s), rfl, by omega⟩) h
  cases e
  refine ⟨p, c, L, rfl, ?_⟩
  exact CRs.of (S := Mem.of W) (s := 3) (g := fun x : Int × Int × ByteArray => [Value.int .i64 x.1, .int .i64 x.2.1, .string x.2.2]) (L := L) (p := p) (c := c) (by omega) h1 (fun _ => rfl) (fun a u hu => by simp only [List.mem_cons, List.not_mem_nil, or_false] at hu; rcases hu with rfl | rfl | rfl <;> rfl)
    (fun i a hi j v hj => by
      obtain ⟨xs, rfl, _, h5⟩ := h3 i a hi
      exact h5 j v hj)
theorem docs_arg {fuel : Nat} {v : Value} {x : DataW H × List MemPlace} (h : DataW.trod enc Try.prog W 0 sp held fuel 33 [v] = some x) (hb : Rows.uptoBulk x.1 ≤ 1048576) :
    ∃ p c L, v = .slice p L.length c ∧ VRs (Mem.of W) L p L.length c ∧ L.length ≤ Rows.uptoBulk x.1 := by
  obtain ⟨p, c, L, e, h1, h2, _, h3⟩ := trod_els (α := V) (s := 5) Try.underlying33 (by kernel_rfl) (fun v cs => VR (Mem.of W) v cs) (fun _ => 0)
    (fun q hq cs y hy hyb => by
      obtain ⟨v, hv⟩ := val_arg q cs y hy (by omega)
      exact ⟨v, hv, by omega⟩) h
  cases e
  refine ⟨p, c, L, rfl, ⟨rfl, by simp only [lim]; omega, h1, fun i a hi => ?_⟩, h2⟩
  obtain ⟨xs, h4, _, h5⟩ := h3 i a hi
  exact ⟨xs, h4, h5⟩
set_option maxRecDepth 100000 in
theorem msg_arg {fuel : Nat} {cs : List Value} {x : DataW H × List MemPlace} (h : DataW.trod enc Try.prog W 0 sp held fuel 37 cs = some x) (hb : Rows.uptoBulk x.1 ≤ 1048576) :
    ∃ m d, cs = m.cells ∧ DeepQ (Mem.of W) m d ∧ d.docs.length ≤ Rows.uptoBulk x.1 := by
  obtain ⟨n, rfl, hl, hf⟩ := trod_fld Try.underlying37 h
  obtain ⟨c0, c1, c2, c3, c4, c5, c6, c7, c8, c9, c10, c11, c12, c13, c14, c15, c16, rfl⟩ := len17 (hl.trans (by kernel_rfl))
  obtain ⟨y0, f0, _⟩ := hf 0 _ rfl
  obtain ⟨n0, rfl, _⟩ := trod_i (k := .i64) (v := c0) Try.underlying3 f0
  obtain ⟨y1, f1, _⟩ := hf 1 _ rfl
  obtain ⟨n1, rfl, _⟩ := trod_i (k := .i64) (v := c1) Try.underlying3 f1
  obtain ⟨y2, f2, _⟩ := hf 2 _ rfl
  obtain ⟨n2, rfl, _⟩ := trod_i (k := .i64) (v := c2) Try.underlying3 f2
  obtain ⟨y3, f3, _⟩ := hf 3 _ rfl
  obtain ⟨n3, rfl, _⟩ := trod_i (k := .i64) (v := c3) Try.underlying3 f3
  obtain ⟨y4, f4, _⟩ := hf 4 _ rfl
  obtain ⟨n4, rfl, _⟩ := trod_i (k := .i64) (v := c4) Try.underlying3 f4
  obtain ⟨y5, f5, _⟩ := hf 5 _ rfl
  obtain ⟨n5, rfl, _⟩ := trod_i (k := .i64) (v := c5) Try.underlying3 f5
  obtain ⟨y6, f6, _⟩ := hf 6 _ rfl
  obtain ⟨n6, rfl, _⟩ := trod_i (k := .i64) (v := c6) Try.underlying3 f6
  obtain ⟨y7, f7, _⟩ := hf 7 _ rfl
  obtain ⟨n7, rfl, _⟩ := trod_i (k := .i64) (v := c7) Try.underlying3 f7
  obtain ⟨y8, f8, _⟩ := hf 8 _ rfl
  obtain ⟨n8, rfl, _⟩ := trod_i (k := .i64) (v := c8) Try.underlying3 f8
  obtain ⟨y9, f9, b9⟩ := hf 9 _ rfl
  obtain ⟨lp, lc, log, rfl, hlog⟩ := log_arg (v := c9) f9 (by omega)
  obtain ⟨y10, f10, b10⟩ := hf 10 _ rfl
  obtain ⟨ip, ic, img, rfl, himg⟩ := bytes_arg (v := c10) f10 (by omega)
  obtain ⟨y11, f11, b11⟩ := hf 11 _ rfl
  obtain ⟨ec, en, et, e11⟩ := entry_arg (cs := [c11, c12, c13]) f11
  cases e11
  obtain ⟨y12, f12, b12⟩ := hf 12 _ rfl
  obtain ⟨n', rfl, _, hf'⟩ := trod_fld (cs := [c14, c15, c16]) Try.underlying35 f12
  obtain ⟨z0, g0, _⟩ := hf' 0 _ rfl
  obtain ⟨z1, g1, _⟩ := hf' 1 _ rfl
  obtain ⟨z2, g2, d2⟩ := hf' 2 _ rfl
  obtain ⟨re, rfl, _⟩ := trod_i (k := .i64) (v := c14) Try.underlying26 g0
  obtain ⟨rn, rfl, _⟩ := trod_i (k := .i64) (v := c15) Try.underlying3 g1
  obtain ⟨dp, dc, docs, rfl, hdocs, hdl⟩ := docs_arg (v := c16) g2 (by omega)
  exact ⟨⟨n0, n1, n2, n3, n4, n5, n6, n7, n8, lp, log.length, lc, ip, img.length, ic, ec, en, et, re, rn, dp, docs.length, dc⟩, ⟨_, log, img, docs⟩, rfl, ⟨rfl, hlog, himg, hdocs⟩, by dsimp only; omega⟩
set_option maxRecDepth 100000 in
theorem deeds_arg {fuel : Nat} {v : Value} {x : DataW H × List MemPlace} (h : DataW.trod enc Try.prog W 0 sp held fuel 49 [v] = some x) (hb : Rows.uptoBulk x.1 ≤ 1048576) :
    ∃ p c L, v = .slice p L.length c ∧ DRs (Mem.of W) L p L.length ∧ ∀ d ∈ L, -9223372036854775808 ≤ d.n ∧ d.n ≤ 9223372036854775807 := by
  obtain ⟨p, c, L, e, h1, h2, hs, h3⟩ := trod_els (α := Dd) (s := 21) Try.underlying49 (by kernel_rfl) (fun d cs => (-9223372036854775808 ≤ d.n ∧ d.n ≤ 9223372036854775807) ∧ ∃ m, DeepQ (Mem.of W) m d.m ∧ cs = ddCells d m) (fun d => d.m.docs.length)
    (fun q hq cs y hy hyb => by
      obtain ⟨q', rfl, hl, hf⟩ := trod_fld Try.underlying52 hy
      obtain ⟨c0, c1, c2, c3, c4, c5, c6, c7, c8, c9, c10, c11, c12, c13, c14, c15, c16, c17, c18, c19, c20, rfl⟩ := len21 (hl.trans (by kernel_rfl))
      obtain ⟨y0, f0, _⟩ := hf 0 _ rfl
      obtain ⟨y1, f1, _⟩ := hf 1 _ rfl
      obtain ⟨y2, f2, _⟩ := hf 2 _ rfl
      obtain ⟨y3, f3, _⟩ := hf 3 _ rfl
      obtain ⟨y4, f4, b4⟩ := hf 4 _ rfl
      obtain ⟨n0, rfl, _⟩ := trod_i (k := .i64) (v := c0) Try.underlying3 f0
      obtain ⟨n1, rfl, _⟩ := trod_i (k := .i64) (v := c1) Try.underlying3 f1
      obtain ⟨n2, rfl, _⟩ := trod_i (k := .i64) (v := c2) Try.underlying3 f2
      obtain ⟨n3, rfl, w3⟩ := trod_i (k := .i64) (v := c3) Try.underlying3 f3
      obtain ⟨m, d, e, hq', hd⟩ := msg_arg (cs := [c4, c5, c6, c7, c8, c9, c10, c11, c12, c13, c14, c15, c16, c17, c18, c19, c20]) f4 (by omega)
      refine ⟨⟨n0, n1, n2, n3, d⟩, ⟨wf_i64 w3, m, hq', ?_⟩, by dsimp only; omega⟩
      unfold ddCells
      rw [← e]
      rfl) h
  cases e
  refine ⟨p, c, L, rfl, ⟨rfl, by omega, ?_, fun i a hi => ?_⟩, fun d hd => ?_⟩
  · unfold docsOf
    rw [List.length_flatMap]
    omega
  · obtain ⟨xs, ⟨_, m, h4, rfl⟩, _, h5⟩ := h3 i a hi
    exact ⟨m, h4, h5⟩
  · obtain ⟨i, hi, rfl⟩ := List.mem_iff_getElem.1 hd
    obtain ⟨xs, ⟨h4, _⟩, _⟩ := h3 i _ (List.getElem?_eq_getElem hi)
    exact h4
end
end Go.Proofs.Ytjpaoggcphfjeaa
