
/- More on parts of the heap: their order, slices that are owned, what came in. No program in sight. -/
import Derived.Test.YtpicofkhioalkaaGreatLaw
namespace Go.Lw
open Go Go.Tb
section
variable {L : List HP} {w : World}
theorem IdxC.ownAt {e s l c k : Nat} {p : Option Addr} {xs : List Value} {K : Addr -> Prop} (hs : Sat L w) (i : Nat) (hi : L[i]? = some (Own e s p l c xs)) (hk : k < l) (h : ∀ g, p = some ⟨g, 0, none⟩ -> K ⟨g, k * s, none⟩) : IdxC p l (k : Int) s K := by
 obtain ⟨g, hg⟩ := hs.own_some i hi (by omega)
 have hh := h g hg
 subst hg
 refine IdxC.of (by omega) (by omega) ?_
 simpa using hh
theorem Sat.ownAt {e s g l c off : Nat} {p : Option Addr} {xs : List Value} {v : Value} (hs : Sat L w) (i : Nat) (hi : L[i]? = some (Own e s p l c xs)) (hp : p = some ⟨g, 0, none⟩) (hc : xs[off]? = some v) : w.cell? ⟨g, off, none⟩ = some v := by
 subst hp; exact hs.ownCell i hi hc
theorem StC.ownAt {e s g l c off : Nat} {p : Option Addr} {xs : List Value} {a : Addr} {v v0 : Value} {K : World -> Prop} (hs : Sat L w) (i : Nat) (hi : L[i]? = some (Own e s p l c xs)) (hp : p = some ⟨g, 0, none⟩) (hc : xs[off]? = some v0) (ha : a = ⟨g, off, none⟩)
  (h : ∀ w', Sat (L.set i (Own e s p l c (xs.set off v))) w' -> K w') : StC w a v K := by
 subst hp; exact StC.own hs i hi hc ha h
end
theorem tdiv_nat (x k : Nat) : Int.tdiv (x : Int) (k : Int) = ((x / k : Nat) : Int) := by
 rw [Int.tdiv_eq_ediv_of_nonneg (by omega)]; omega
section
variable {H : Type} {enc : TypeId × Value -> H} {P : Program} {W : World} {base : Nat} {spare : Nat -> Bool} {held : Bool}
end
end Go.Lw
