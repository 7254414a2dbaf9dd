
/- Memory that stands: what lay there when the call began, and what is only read from then on. No program in sight. -/
import Derived.Test.YtpicofkhioalkaaGreatLx
namespace Go.Lw
open Go Go.Tb

/-- Blocks that stand, and nothing else. -/
abbrev Mem := Nat → Option Obj
def Ro (W : World) (S : Mem) : HP := fun v h => v = stillOf W ∧ ∀ b, h b = S b
def Mem.of (W : World) : Mem := fun b => W.heap[b]?
def Ext (S S' : Mem) : Prop := ∀ b o, S b = some o → S' b = some o
theorem Ext.refl (S : Mem) : Ext S S := fun _ _ h => h
theorem Ext.trans {A B C : Mem} (h : Ext A B) (h' : Ext B C) : Ext A C := fun b o x => h' b o (h b o x)
def Has (S : Mem) (w : World) : Prop := ∀ b o, S b = some o → w.heap[b]? = some o
theorem Has.of {S S' : Mem} {w : World} (h : Has S' w) (e : Ext S S') : Has S w := fun b o x => h b o (e b o x)
/-- a cell of memory that stands. -/
def RdS (S : Mem) (a : Addr) (v : Value) : Prop := ∀ w, Has S w → w.cell? a = some v
theorem RdS.mono {S S' : Mem} {a : Addr} {v : Value} (h : RdS S a v) (e : Ext S S') : RdS S' a v := fun w hw => h w (hw.of e)
theorem RdS.base {W : World} {a : Addr} {v : Value} (h : W.cell? a = some v) : RdS (Mem.of W) a v := fun w hw => by
  have hlt := cell_lt h
  have h1 : w.heap[a.block]? = W.heap[a.block]? := by
    rw [Array.getElem?_eq_getElem hlt]
    exact hw a.block _ (Array.getElem?_eq_getElem hlt)
  rw [← h]
  exact World.cell?_of_block h1

section
variable {L : List HP} {w W : World} {S : Mem}
theorem Sat.has (hs : Sat L w) (i : Nat) (hi : L[i]? = some (Ro W S)) : Has S w := by
  intro b o hb
  obtain ⟨h, hw, h1, h2, hd, hh, ⟨_, a⟩, x⟩ := hs.pull i hi
  refine hw b o ?_
  rw [hh, a b, hb]
  rfl
/-- what is one's own stands from now on. -/
theorem Sat.freeze {g : Nat} {o : Obj} (hs : Sat (Blk g o :: Ro W S :: L) w) : ∃ S', Ext S S' ∧ S' g = some o ∧ Sat (Ro W S' :: L) w := by
  obtain ⟨h, hw, h1, h2, hd, hh, a, h3, h4, hd', hh', ⟨e, r⟩, x⟩ := hs
  refine ⟨fun b => if b = g then some o else S b, fun b o' hb => ?_, if_pos rfl, h, hw, fun b => if b = g then some o else S b, h4, fun b => ?_, fun b => ?_, ⟨e, fun _ => rfl⟩, x⟩
  · have hg : S g = none := by
      have h5 := hd g
      rw [a g, hh' g, r g] at h5
      simp only [if_true, reduceCtorEq, false_or] at h5
      cases hs : S g with
      | none => rfl
      | some o'' => rw [hs] at h5; simp at h5
    by_cases hbg : b = g
    · subst hbg; rw [hg] at hb; cases hb
    · simp only [hbg, if_false]; exact hb
  · by_cases hbg : b = g
    · subst hbg
      have h5 := hd b
      rw [a b, hh' b] at h5
      simp only [if_true, reduceCtorEq, false_or] at h5
      refine .inr ?_
      cases h3b : h3 b with
      | none => rw [h3b] at h5; simpa using h5
      | some o'' => rw [h3b] at h5; simp at h5
    · have h5 := hd' b
      rw [r b] at h5
      simp only [hbg, if_false]
      exact h5
  · have h5 := hh b
    rw [a b, hh' b, r b] at h5
    by_cases hbg : b = g
    · subst hbg
      simp only [if_true] at h5 ⊢
      rw [h5]; rfl
    · simp only [hbg, if_false] at h5 ⊢
      rw [h5]; simp
theorem RdS.row {S : Mem} {g off : Nat} {cs : List Value} {T : TypeId} {v : Value} (h : S g = some (.cells cs.toArray T (0, 0))) (hc : cs[off]? = some v) : RdS S ⟨g, off, none⟩ v := fun w hw => by
  have h1 := hw g _ h
  simp [World.cell?, h1, hc]
end
end Go.Lw
