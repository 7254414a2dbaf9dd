/- More on parts of the heap: their order, slices that are owned, what came in. No program in sight. -/
import Derived.Test.YtmcifhineibhpaaLaw
namespace Go.Lw
open Go Go.Tb

theorem sepL_perm {L L' : List HP} (h : L.Perm L') {s : Still} : ∀ {f : Nat → Option Obj}, sepL L s f → sepL L' s f := by
  induction h with
  | nil => exact fun x => x
  | cons A _ ih => exact fun x => star_mono (fun _ y => ih y) x
  | swap A B L => exact fun x => star_swap x
  | trans _ _ ih1 ih2 => exact fun x => ih2 (ih1 x)
theorem Sat.perm {L L' : List HP} {w : World} (hs : Sat L w) (h : L.Perm L') : Sat L' w := by
  obtain ⟨f, hw, x⟩ := hs
  exact ⟨f, hw, sepL_perm h x⟩
theorem Sat.last {A : HP} {L : List HP} {w : World} (hs : Sat (A :: L) w) : Sat (L ++ [A]) w := hs.perm (List.perm_append_singleton A L).symm

section
variable {L : List HP} {w : World}
theorem IdxC.ownAt {e s l c k : Nat} {p : Option Addr} {xs : List Value} {K : Addr → Prop} (hs : Sat L w) (i : Nat) (hi : L[i]? = some (Own e s p l c xs)) (hk : k < l) (h : ∀ g, p = some ⟨g, 0, none⟩ → K ⟨g, k * s, none⟩) : IdxC p l (k : Int) s K := by
  obtain ⟨g, hg⟩ := hs.own_some i hi (by omega)
  have hh := h g hg
  subst hg
  refine IdxC.of (by omega) (by omega) ?_
  simpa using hh
theorem Sat.ownAt {e s g l c off : Nat} {p : Option Addr} {xs : List Value} {v : Value} (hs : Sat L w) (i : Nat) (hi : L[i]? = some (Own e s p l c xs)) (hp : p = some ⟨g, 0, none⟩) (hc : xs[off]? = some v) : w.cell? ⟨g, off, none⟩ = some v := by
  subst hp; exact hs.ownCell i hi hc
theorem StC.ownAt {e s g l c off : Nat} {p : Option Addr} {xs : List Value} {a : Addr} {v v0 : Value} {K : World → Prop} (hs : Sat L w) (i : Nat) (hi : L[i]? = some (Own e s p l c xs)) (hp : p = some ⟨g, 0, none⟩) (hc : xs[off]? = some v0) (ha : a = ⟨g, off, none⟩)
    (h : ∀ w', Sat (L.set i (Own e s p l c (xs.set off v))) w' → K w') : StC w a v K := by
  subst hp; exact StC.own hs i hi hc ha h
end

def intsL (l : List Nat) : List Value := l.map fun (n : Nat) => .int .i64 (n : Int)
def boolsL (l : List Bool) : List Value := l.map .bool

theorem Nums.get : ∀ {ks : List IntKind} {cs : List Value} {q : Nat} {k : IntKind}, Nums ks cs → ks[q]? = some k → ∃ n, cs[q]? = some (.int k n) ∧ (Lit.int k n).wf = true
  | [], _, _, _, _, hq => by simp at hq
  | k :: ks, [], _, _, h, _ => h.elim
  | k :: ks, v :: cs, 0, k', h, hq => by
    simp only [List.getElem?_cons_zero, Option.some.injEq] at hq
    subst hq
    obtain ⟨n, rfl, hw⟩ := h.1
    exact ⟨n, rfl, hw⟩
  | k :: ks, v :: cs, q + 1, k', h, hq => by
    simp only [List.getElem?_cons_succ] at hq ⊢
    exact h.2.get hq
/-- a number of an element of structs of numbers that came in. -/
theorem argCell {W : World} {ks : List IntKind} {p : Option Addr} {l : Nat} {xs : List Value} (hz : ArgR W ks p l xs) {j q : Nat} {k : IntKind} (hj : j < l) (hq : ks[q]? = some k) : ∃ n, xs[j * ks.length + q]? = some (.int k n) ∧ (Lit.int k n).wf = true := by
  obtain ⟨n, hn, hw⟩ := (hz.rows j hj).get hq
  have hlt : q < ks.length := by
    rcases Nat.lt_or_ge q ks.length with h | h
    · exact h
    · rw [List.getElem?_eq_none h] at hq; cases hq
  rw [List.getElem?_take_of_lt hlt, List.getElem?_drop] at hn
  exact ⟨n, hn, hw⟩
theorem wf_u64 {n : Int} (h : (Lit.int .u64 n).wf = true) : ∃ x : Nat, n = x ∧ x < 18446744073709551616 := by
  have h2 : 0 ≤ n ∧ n ≤ 18446744073709551615 := by simpa [Lit.wf, IntKind.min, IntKind.max, IntKind.signed, IntKind.bits] using h
  obtain ⟨x, rfl⟩ := Int.eq_ofNat_of_zero_le h2.1
  exact ⟨x, rfl, by omega⟩
theorem wf_i64 {n : Int} (h : (Lit.int .i64 n).wf = true) : -9223372036854775808 ≤ n ∧ n ≤ 9223372036854775807 := by
  simpa [Lit.wf, IntKind.min, IntKind.max, IntKind.signed, IntKind.bits] using h
theorem tdiv_nat (x k : Nat) : Int.tdiv (x : Int) (k : Int) = ((x / k : Nat) : Int) := by
  rw [Int.tdiv_eq_ediv_of_nonneg (by omega)]; omega
end Go.Lw
