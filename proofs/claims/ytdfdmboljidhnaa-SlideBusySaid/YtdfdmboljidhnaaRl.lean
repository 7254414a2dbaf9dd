
/- Cells that stand, in rows; copied, indexed, cut. No program in sight. (The net's templates have the same lemmas in NDeep, NVast, NArg, NRef.) -/
import Derived.Test.YtdfdmboljidhnaaRo
namespace Go.Lw
open Go Go.Tb
theorem add_add (a : Addr) (m n : Nat) : (a.add m).add n = a.add (m + n) := by
  unfold Addr.add
  by_cases h1 : m = 0 <;> by_cases h2 : n = 0 <;> simp [h1, h2, Nat.add_assoc]
theorem Sat.own_cap {L : List HP} {w : World} {e s l c : Nat} {p : Option Addr} {xs : List Value} (hs : Sat L w) (i : Nat) (hi : L[i]? = some (Own e s p l c xs)) : l ≤ c := by
  obtain ⟨_, ⟨_, h0, h1⟩ | ⟨_, _, _, h, _⟩⟩ := hs.own i hi
  · omega
  · exact h
section
variable {L : List HP} {w : World} {b T : Nat}
theorem stRow5 {c0 c1 c2 c3 c4 v0 v1 v2 v3 v4 : Value} {K : World → Prop} (hs : Sat L w) (i : Nat) (hi : L[i]? = some (Row b [c0, c1, c2, c3, c4] T)) (h : ∀ w', Sat (L.set i (Row b [v0, v1, v2, v3, v4] T)) w' → K w') :
    StC w ⟨b, 0, none⟩ v0 fun w => StC w (Addr.add ⟨b, 0, none⟩ 1) v1 fun w => StC w (Addr.add ⟨b, 0, none⟩ 2) v2 fun w => StC w (Addr.add ⟨b, 0, none⟩ 3) v3 fun w => StC w (Addr.add ⟨b, 0, none⟩ 4) v4 K := by
  simp only [add_mk, Nat.zero_add]
  refine StC.of hs i hi (off := 0) rfl rfl fun w1 h1 => ?_
  refine StC.of h1 i (get_set_self hi) (off := 1) rfl rfl fun w2 h2 => ?_
  rw [set_set_self] at h2
  refine StC.of h2 i (get_set_self hi) (off := 2) rfl rfl fun w3 h3 => ?_
  rw [set_set_self] at h3
  refine StC.of h3 i (get_set_self hi) (off := 3) rfl rfl fun w4 h4 => ?_
  rw [set_set_self] at h4
  refine StC.of h4 i (get_set_self hi) (off := 4) rfl rfl fun w5 h5 => ?_
  rw [set_set_self] at h5
  exact h w5 h5
theorem stRow6 {c0 c1 c2 c3 c4 c5 v0 v1 v2 v3 v4 v5 : Value} {K : World → Prop} (hs : Sat L w) (i : Nat) (hi : L[i]? = some (Row b [c0, c1, c2, c3, c4, c5] T)) (h : ∀ w', Sat (L.set i (Row b [v0, v1, v2, v3, v4, v5] T)) w' → K w') :
    StC w ⟨b, 0, none⟩ v0 fun w => StC w (Addr.add ⟨b, 0, none⟩ 1) v1 fun w => StC w (Addr.add ⟨b, 0, none⟩ 2) v2 fun w => StC w (Addr.add ⟨b, 0, none⟩ 3) v3 fun w => StC w (Addr.add ⟨b, 0, none⟩ 4) v4 fun w => StC w (Addr.add ⟨b, 0, none⟩ 5) v5 K := by
  simp only [add_mk, Nat.zero_add]
  refine StC.of hs i hi (off := 0) rfl rfl fun w1 h1 => ?_
  refine StC.of h1 i (get_set_self hi) (off := 1) rfl rfl fun w2 h2 => ?_
  rw [set_set_self] at h2
  refine StC.of h2 i (get_set_self hi) (off := 2) rfl rfl fun w3 h3 => ?_
  rw [set_set_self] at h3
  refine StC.of h3 i (get_set_self hi) (off := 3) rfl rfl fun w4 h4 => ?_
  rw [set_set_self] at h4
  refine StC.of h4 i (get_set_self hi) (off := 4) rfl rfl fun w5 h5 => ?_
  rw [set_set_self] at h5
  refine StC.of h5 i (get_set_self hi) (off := 5) rfl rfl fun w6 h6 => ?_
  rw [set_set_self] at h6
  exact h w6 h6
end
/-- cells in memory that stands, 's' to each of 'l' elements. -/
structure CRs (S : Mem) (s : Nat) (xs : List Value) (p : Option Addr) (l c : Nat) : Prop where
  len : xs.length = l * s
  lim : l ≤ 1048576
  cap : l ≤ c
  one : ∀ u ∈ xs, u.oneCell' = true
  reads : ∀ j v, xs[j]? = some v → ∃ a, p = some a ∧ RdS S (a.add j) v
theorem CRs.mono {S S' : Mem} (e : Ext S S') {s : Nat} {xs : List Value} {p : Option Addr} {l c : Nat} (h : CRs S s xs p l c) : CRs S' s xs p l c :=
  ⟨h.len, h.lim, h.cap, h.one, fun j v hv => by obtain ⟨a, h1, h2⟩ := h.reads j v hv; exact ⟨a, h1, h2.mono e⟩⟩
/-- 'append(own, x...)' of what stands. -/
theorem RunS.appRo {P : Program} {L : List HP} {w W : World} {S : Mem} {t e s bytes ty : Nat} (hE : EOK P t e s bytes) {p0 p : Option Addr} {l0 l c c0 : Nat} {xs0 xs : List Value} {K : Option Addr → Nat → Nat → World → Prop} (hs : Sat L w)
    (i : Nat) (hi : L[i]? = some (Own e s p0 l0 c0 xs0)) (k : Nat) (hk : L[k]? = some (Ro W S)) (hx : CRs S s xs p l c) (hb : bytes ≤ 1024) (hl : l0 + l ≤ 16777216)
    (h : ∀ p' c' w', Sat (L.set i (Own e s p' (l0 + l) c' (xs0 ++ xs))) w' → K p' (l0 + l) c' w') : RunS P (Builtin.append_ #[t, t] ty #[.slice p0 l0 c0, .slice p l c]) w K := by
  by_cases hl0 : l = 0
  · subst hl0
    have hx0 : xs = [] := List.eq_nil_of_length_eq_zero (by simpa using hx.len)
    subst hx0
    refine RunS.nothing hE (hs.own_cap i hi) (h p0 c0 w ?_)
    have : L.set i (Own e s p0 (l0 + 0) c0 (xs0 ++ [])) = L := by
      apply List.ext_getElem?
      intro j
      rw [Nat.add_zero, List.append_nil]
      by_cases hij : i = j
      · subst hij; rw [hi]; exact get_set_self hi
      · rw [List.getElem?_set_ne hij]
    rw [this]; exact hs
  · have hpos := hE.pos
    have hne : 0 < xs.length := by rw [hx.len]; exact Nat.mul_pos (by omega) hpos
    obtain ⟨a, rfl, _⟩ := hx.reads 0 _ (List.getElem?_eq_getElem hne)
    have hh := hs.has k hk
    have hm : (l0 + l) * bytes ≤ 140737488355328 := by
      calc (l0 + l) * bytes ≤ 16777216 * 1024 := Nat.mul_le_mul hl hb
        _ ≤ 140737488355328 := by omega
    refine RunS.own hE hs i hi (news := xs) (fun b hb' j v hj => ?_) hx.len hx.one hm (by simp only [maxLen]; omega) fun p' c' w' h' => h p' c' w' h'
    cases hb'
    obtain ⟨b, e1, h2⟩ := hx.reads j v hj
    cases e1
    exact h2 w hh
/-- a slice's cells as rows of things. -/
theorem CRs.of {α : Type} {S : Mem} {s : Nat} {g : α → List Value} {L : List α} {p : Option Addr} {c : Nat} (hl : L.length ≤ 1048576) (hc : L.length ≤ c) (hg : ∀ a, (g a).length = s) (h1 : ∀ a, ∀ u ∈ g a, u.oneCell' = true)
    (h : ∀ i a, L[i]? = some a → ∀ j v, (g a)[j]? = some v → ∃ ad, p = some ad ∧ RdS S (ad.add (i * s + j)) v) : CRs S s (L.flatMap g) p L.length c := by
  have hlen : ∀ L : List α, (L.flatMap g).length = L.length * s := fun L => by
    induction L with
    | nil => simp
    | cons a L ih => rw [List.flatMap_cons, List.length_append, ih, hg, List.length_cons, Nat.add_mul, Nat.one_mul, Nat.add_comm]
  have hget : ∀ (L : List α) (k : Nat) (v : Value), (L.flatMap g)[k]? = some v → ∃ i j a, k = i * s + j ∧ L[i]? = some a ∧ (g a)[j]? = some v := by
    intro L
    induction L with
    | nil => intro k v h; simp at h
    | cons a L ih =>
      intro k v h
      rw [List.flatMap_cons] at h
      by_cases hk : k < s
      · rw [List.getElem?_append_left (by rw [hg]; exact hk)] at h
        exact ⟨0, k, a, by omega, rfl, h⟩
      · rw [List.getElem?_append_right (by rw [hg]; omega), hg] at h
        obtain ⟨i, j, b, e, h2, h3⟩ := ih _ _ h
        refine ⟨i + 1, j, b, ?_, by simpa using h2, h3⟩
        rw [Nat.add_mul, Nat.one_mul]; omega
  refine ⟨hlen L, hl, hc, fun u hu => ?_, fun k v hv => ?_⟩
  · obtain ⟨a, _, hu⟩ := List.mem_flatMap.1 hu
    exact h1 a u hu
  · obtain ⟨i, j, a, rfl, h2, h3⟩ := hget L k v hv
    exact h i a h2 j v h3
theorem flatMap_cells {α : Type} {g : α → Value} (L : List α) : (L.flatMap fun a => [g a]) = L.map g := by
  induction L with
  | nil => rfl
  | cons a L ih => rw [List.flatMap_cons, ih]; rfl
theorem CRs.idx {S : Mem} {s : Nat} {xs : List Value} {p : Option Addr} {l c : Nat} (h : CRs S s xs p l c) {w : World} (hw : Has S w) {q : Nat} (hq : q < l) (hs : 0 < s) {K : Addr → Prop}
    (hk : ∀ a, (∀ j v, j < s → xs[q * s + j]? = some v → w.cell? (a.add j) = some v) → K a) : IdxC p l (q : Int) s K := by
  have hlen := h.len
  have hlt : q * s < xs.length := by rw [hlen]; exact Nat.mul_lt_mul_of_pos_right hq hs
  obtain ⟨a, rfl, _⟩ := h.reads (q * s) _ (List.getElem?_eq_getElem hlt)
  refine ⟨by omega, by omega, hk _ fun j v hj hv => ?_⟩
  obtain ⟨b, e1, h2⟩ := h.reads _ v hv
  cases e1
  rw [add_add, Int.toNat_natCast]
  exact h2 w hw
theorem CRs.upto {S : Mem} {s : Nat} {xs : List Value} {p : Option Addr} {l c : Nat} (h : CRs S s xs p l c) {k : Nat} (hk : k ≤ l) : CRs S s (xs.take (k * s)) p k c := by
  have h0 := h.cap; have h1 := h.lim
  refine ⟨?_, by omega, by omega, fun u hu => h.one u (List.mem_of_mem_take hu), fun j v hj => h.reads j v ?_⟩
  · rw [List.length_take, h.len]
    have : k * s ≤ l * s := Nat.mul_le_mul_right s hk
    omega
  · have := get_lt hj
    rw [List.length_take] at this
    rw [List.getElem?_take_of_lt (by omega)] at hj
    exact hj
theorem CRs.from {S : Mem} {s : Nat} {xs : List Value} {p : Option Addr} {l c : Nat} (h : CRs S s xs p l c) {k : Nat} (hk : k ≤ l) : CRs S s (xs.drop (k * s)) (slAddr p c k s) (l - k) (c - k) := by
  have h0 := h.cap; have h1 := h.lim
  refine ⟨?_, by omega, by omega, fun u hu => h.one u (List.mem_of_mem_drop hu), fun j v hj => ?_⟩
  · rw [List.length_drop, h.len, Nat.sub_mul]
  · rw [List.getElem?_drop] at hj
    obtain ⟨a, h2, h3⟩ := h.reads _ v hj
    have hlt := get_lt hj
    rw [h.len] at hlt
    have hne : c ≠ k := by
      intro e
      have : l = k := by omega
      subst this
      omega
    refine ⟨a.add (k * s), by unfold slAddr; rw [if_neg hne, h2]; rfl, ?_⟩
    rw [add_add]
    exact h3
end Go.Lw
