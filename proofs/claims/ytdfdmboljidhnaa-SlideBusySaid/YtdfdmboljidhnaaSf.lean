
/- What a full collection leaves of a heap, as data; the end of a step. -/
import Derived.Test.YtdfdmboljidhnaaMe
set_option maxRecDepth 100000
namespace Go.Hm
open Go Go.Lw Go.Wd Go.Am Go.Tb Go.Proofs.Ytdfdmboljidhnaa
theorem step_done {c : Cd} (n : Nat) (h0 : c.ph ≠ 0) : (stepC n c).2 = decide ((stepC n c).1.ph = 0) := by
  unfold stepC
  split
  · rfl
  · unfold slC
    split <;> rfl
structure Fl (B : Nat) (H0 : Hp) (c : Cd) : Prop where
  ci : Ci B c
  ph : c.ph = 0
  less : Less H0 c.H
  live : ∀ x, (c.H.look x).isSome = true ↔ Reach H0 x
  top : c.H.m.top = wordsOf H0 (order H0)
theorem fl_of {B : Nat} {c : Cd} {H0 : Hp} (hB : B + 2 < 4294967296) (h : Ci B c) (hp : c.ph = 0) (hl : Less H0 c.H) : Fl B H0 (endC (startC c)) := by
  have hs := start_ok h hp
  obtain ⟨he, h0⟩ := end_ok hB hs.ci
  have hle := hl.trans (hs.trans he).less
  have hlv : ∀ x, ((endC (startC c)).H.look x).isSome = true ↔ Reach H0 x := fun x => (full_live hB h hp x).trans (hl.reach x)
  obtain ⟨_, hop, _⟩ := he.ci.ph0 h0
  refine ⟨he.ci, h0, hle, hlv, ?_⟩
  rw [top_words he.ci.wf hop fun x hx => (hle.reach x).2 ((hlv x).1 hx), hle.words]
end Go.Hm
