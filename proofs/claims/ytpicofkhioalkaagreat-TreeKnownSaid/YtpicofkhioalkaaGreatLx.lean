
/- More on parts of the heap: their order, slices that are owned, what came in. No program in sight. -/
import Derived.Test.YtpicofkhioalkaaGreatLaw
namespace Go.Lw
open Go Go.Tb

theorem sepL_perm {L L' : List HP} (h : L.Perm L') {s : Still} : ∀ {f : Nat → Option Obj}, sepL L s f → sepL L' s f := by
  induction h with
  | nil => exact fun x => x
  | cons A _ ih => exact fun x => star_mono (fun _ y => ih y) x
  | swap A B L => exact fun x => star_swap x
  | trans _ _ ih1 ih2 => exact fun x => ih2 (ih1 x)
theorem Sat.perm {L L' : List HP} {w : World} (hs : Sat L w) (h : L.Perm L') : Sat L' w := by
  obtain ⟨f, hw, x⟩ := hs
  exact ⟨f, hw, sepL_perm h x⟩
theorem Sat.last {A : HP} {L : List HP} {w : World} (hs : Sat (A :: L) w) : Sat (L ++ [A]) w := hs.perm (List.perm_append_singleton A L).symm

section
variable {L : List HP} {w : World}
theorem IdxC.ownAt {e s l c k : Nat} {p : Option Addr} {xs : List Value} {K : Addr → Prop} (hs : Sat L w) (i : Nat) (hi : L[i]? = some (Own e s p l c xs)) (hk : k < l) (h : ∀ g, p = some ⟨g, 0, none⟩ → K ⟨g, k * s, none⟩) : IdxC p l (k : Int) s K := by
  obtain ⟨g, hg⟩ := hs.own_some i hi (by omega)
  have hh := h g hg
  subst hg
  refine IdxC.of (by omega) (by omega) ?_
  simpa using hh
theorem Sat.ownAt {e s g l c off : Nat} {p : Option Addr} {xs : List Value} {v : Value} (hs : Sat L w) (i : Nat) (hi : L[i]? = some (Own e s p l c xs)) (hp : p = some ⟨g, 0, none⟩) (hc : xs[off]? = some v) : w.cell? ⟨g, off, none⟩ = some v := by
  subst hp; exact hs.ownCell i hi hc
theorem StC.ownAt {e s g l c off : Nat} {p : Option Addr} {xs : List Value} {a : Addr} {v v0 : Value} {K : World → Prop} (hs : Sat L w) (i : Nat) (hi : L[i]? = some (Own e s p l c xs)) (hp : p = some ⟨g, 0, none⟩) (hc : xs[off]? = some v0) (ha : a = ⟨g, off, none⟩)
    (h : ∀ w', Sat (L.set i (Own e s p l c (xs.set off v))) w' → K w') : StC w a v K := by
  subst hp; exact StC.own hs i hi hc ha h
end

theorem Nums.get : ∀ {ks : List IntKind} {cs : List Value} {q : Nat} {k : IntKind}, Nums ks cs → ks[q]? = some k → ∃ n, cs[q]? = some (.int k n) ∧ (Lit.int k n).wf = true
  | [], _, _, _, _, hq => by simp at hq
  | k :: ks, [], _, _, h, _ => h.elim
  | k :: ks, v :: cs, 0, k', h, hq => by
    simp only [List.getElem?_cons_zero, Option.some.injEq] at hq
    subst hq
    obtain ⟨n, rfl, hw⟩ := h.1
    exact ⟨n, rfl, hw⟩
  | k :: ks, v :: cs, q + 1, k', h, hq => by
    simp only [List.getElem?_cons_succ] at hq ⊢
    exact h.2.get hq
theorem tdiv_nat (x k : Nat) : Int.tdiv (x : Int) (k : Int) = ((x / k : Nat) : Int) := by
  rw [Int.tdiv_eq_ediv_of_nonneg (by omega)]; omega

/-! What came in, by its type: numbers, bools, strings, slices of structs of such, each part in one cell. -/
inductive ATy where
  | int (k : IntKind) | bool | str | slice (fs : List ATy)
mutual
def AOK (W : World) : ATy → Value → Prop
  | .int k, v => ∃ n, v = .int k n ∧ (Lit.int k n).wf = true
  | .bool, v => ∃ b : Bool, v = .bool b
  | .str, v => ∃ s : ByteArray, v = .string s ∧ s.size ≤ maxLen
  | .slice fs, v => ∃ (p : Option Addr) (l c : Nat) (xs : List Value), v = .slice p l c ∧ (0 < l → ∃ a, p = some a) ∧ Reads W p xs ∧ xs.length = l * fs.length ∧ l ≤ maxLen ∧ ∀ i, i < l → AOKs W fs ((xs.drop (i * fs.length)).take fs.length)
def AOKs (W : World) : List ATy → List Value → Prop
  | [], [] => True
  | a :: ts, v :: vs => AOK W a v ∧ AOKs W ts vs
  | _, _ => False
end
section
variable {H : Type} {enc : TypeId × Value → H} {P : Program} {W : World} {base : Nat} {spare : Nat → Bool} {held : Bool}
end

/-- A slice that came in. -/
structure ArgF (W : World) (fs : List ATy) (p : Option Addr) (l : Nat) (xs : List Value) : Prop where
  ptr : 0 < l → ∃ a, p = some a
  reads : Reads W p xs
  len : xs.length = l * fs.length
  max : l ≤ maxLen
  rows : ∀ i, i < l → AOKs W fs ((xs.drop (i * fs.length)).take fs.length)
theorem AOK.slice {W : World} {fs : List ATy} {v : Value} (h : AOK W (.slice fs) v) : ∃ p l c xs, v = .slice p l c ∧ ArgF W fs p l xs := by
  simp only [AOK] at h
  obtain ⟨p, l, c, xs, rfl, h1, h2, h3, h4, h5⟩ := h
  exact ⟨p, l, c, xs, rfl, h1, h2, h3, h4, h5⟩
theorem AOKs.get {W : World} : ∀ {fs : List ATy} {cs : List Value} {q : Nat} {a : ATy}, AOKs W fs cs → fs[q]? = some a → ∃ v, cs[q]? = some v ∧ AOK W a v
  | [], _, _, _, _, hq => by simp at hq
  | f :: fs, [], _, _, h, _ => by simp [AOKs] at h
  | f :: fs, v :: cs, 0, a, h, hq => by
    simp only [List.getElem?_cons_zero, Option.some.injEq] at hq
    subst hq
    simp only [AOKs] at h
    exact ⟨v, rfl, h.1⟩
  | f :: fs, v :: cs, q + 1, a, h, hq => by
    simp only [List.getElem?_cons_succ] at hq ⊢
    simp only [AOKs] at h
    exact AOKs.get h.2 hq
/-- a part of an element. -/
theorem ArgF.part {W : World} {fs : List ATy} {p : Option Addr} {l : Nat} {xs : List Value} (hz : ArgF W fs p l xs) {j q : Nat} {a : ATy} (hj : j < l) (hq : fs[q]? = Option.some a) : ∃ v, xs[j * fs.length + q]? = Option.some v ∧ AOK W a v := by
  obtain ⟨v, hv, h⟩ := (hz.rows j hj).get hq
  have hlt : q < fs.length := by
    rcases Nat.lt_or_ge q fs.length with h | h
    · exact h
    · rw [List.getElem?_eq_none h] at hq; cases hq
  rw [List.getElem?_take_of_lt hlt, List.getElem?_drop] at hv
  exact ⟨v, hv, h⟩
theorem AOK.int {W : World} {k : IntKind} {v : Value} (h : AOK W (.int k) v) : ∃ n, v = .int k n ∧ (Lit.int k n).wf = true := by simpa only [AOK] using h
theorem AOK.bool {W : World} {v : Value} (h : AOK W .bool v) : ∃ b : Bool, v = .bool b := by simpa only [AOK] using h
end Go.Lw
