
/- Memory that stands: what lay there when the call began, and what is only read from then on. No program in sight. -/
import Derived.Test.YtpicofkhioalkaaGreatLx
namespace Go.Lw
open Go Go.Tb
abbrev Mem := Nat -> Option Obj
def Ro (W : World) (S : Mem) : HP := fun v h => v = stillOf W /\ ∀ b, h b = S b
def Mem.of (W : World) : Mem := fun b => W.heap[b]?
def Ext (S S' : Mem) : Prop := ∀ b o, S b = some o -> S' b = some o
theorem Ext.refl (S : Mem) : Ext S S := fun _ _ h => h
def Has (S : Mem) (w : World) : Prop := ∀ b o, S b = some o -> w.heap[b]? = some o
theorem Has.of {S S' : Mem} {w : World} (h : Has S' w) (e : Ext S S') : Has S w := fun b o x => h b o (e b o x)
def RdS (S : Mem) (a : Addr) (v : Value) : Prop := ∀ w, Has S w -> w.cell? a = some v
theorem RdS.base {W : World} {a : Addr} {v : Value} (h : W.cell? a = some v) : RdS (Mem.of W) a v := fun w hw => by
 have hlt := cell_lt h
 have h1 : w.heap[a.block]? = W.heap[a.block]? := by
  rw [Array.getElem?_eq_getElem hlt]
  exact hw a.block _ (Array.getElem?_eq_getElem hlt)
 rw [<- h]
 exact World.cell?_of_block h1
section
variable {L : List HP} {w W : World} {S : Mem}
theorem Sat.has (hs : Sat L w) (i : Nat) (hi : L[i]? = some (Ro W S)) : Has S w := by
 intro b o hb
 obtain ⟨h, hw, h1, h2, hd, hh, ⟨_, a⟩, x⟩ := hs.pull i hi
 refine hw b o ?_
 rw [hh, a b, hb]
 rfl
theorem Sat.roStill (hs : Sat L w) (i : Nat) (hi : L[i]? = some (Ro W S)) : stillOf w = stillOf W := by
 obtain ⟨h, hw, h1, h2, hd, hh, ⟨e, _⟩, x⟩ := hs.pull i hi
 exact e
theorem Sat.roBelow (hs : Sat L w) (i : Nat) (hi : L[i]? = some (Ro W S)) (he : Ext (Mem.of W) S) : Go.RowKit.Below W.heap.size W w := by
 have h := hs.roStill i hi
 have hh := (hs.has i hi).of he
 have hb : ∀ b, b < W.heap.size -> w.heap[b]? = W.heap[b]? := fun b hb => by
  rw [Array.getElem?_eq_getElem hb]
  exact hh b _ (Array.getElem?_eq_getElem hb)
 simp only [stillOf, Still.mk.injEq] at h
 refine ⟨h.1, h.2.1, h.2.2, ?_, fun k hk => hb k hk⟩
 rcases Nat.lt_or_ge w.heap.size W.heap.size with h | h
 ·have := hb (W.heap.size - 1) (by omega)
  rw [Array.getElem?_eq_none (by omega), Array.getElem?_eq_getElem (by omega)] at this
  cases this
 ·exact h
end
end Go.Lw
