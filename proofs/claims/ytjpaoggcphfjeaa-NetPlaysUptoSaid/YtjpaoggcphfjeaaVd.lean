/- Values of the document, each a tree, as they lie in memory that stands; and that what came in is such. -/
import Derived.Test.YtjpaoggcphfjeaaRo
namespace Go.Vd
open Go Go.Lw Go.Tb

inductive V where
  | mk (k n : Int) (s : ByteArray) (L : List V) (F : List (ByteArray × V))

def lim : Nat := 1048576
inductive VR (S : Mem) : V → List Value → Prop where
  | mk {k n : Int} {s : ByteArray} {L : List V} {F : List (ByteArray × V)} {lp fp : Option Addr} {lc fc : Nat} (cs fs : Nat → List Value) (hl : L.length ≤ lim) (hf : F.length ≤ lim) (hlc : L.length ≤ lc) (hfc : F.length ≤ fc)
    (hL : ∀ i x, L[i]? = some x → VR S x (cs i)) (rL : ∀ i x j v, L[i]? = some x → (cs i)[j]? = some v → ∃ a, lp = some a ∧ RdS S (a.add (i * 5 + j)) v)
    (hF : ∀ i x, F[i]? = some x → VR S x.2 (fs i)) (rN : ∀ i x, F[i]? = some x → ∃ a, fp = some a ∧ RdS S (a.add (i * 6)) (.string x.1))
    (rF : ∀ i x j v, F[i]? = some x → (fs i)[j]? = some v → ∃ a, fp = some a ∧ RdS S (a.add (i * 6 + (1 + j))) v) :
    VR S (.mk k n s L F) [.int .i64 k, .int .i64 n, .string s, .slice lp L.length lc, .slice fp F.length fc]

theorem VR.mono {S S' : Mem} (e : Ext S S') {v : V} {cs : List Value} (h : VR S v cs) : VR S' v cs := by
  induction h with
  | mk cs fs hl hf hlc hfc hL rL hF rN rF ihL ihF =>
    refine .mk cs fs hl hf hlc hfc ihL (fun i x j v hx hv => ?_) ihF (fun i x hx => ?_) (fun i x j v hx hv => ?_)
    · obtain ⟨a, h1, h2⟩ := rL i x j v hx hv; exact ⟨a, h1, h2.mono e⟩
    · obtain ⟨a, h1, h2⟩ := rN i x hx; exact ⟨a, h1, h2.mono e⟩
    · obtain ⟨a, h1, h2⟩ := rF i x j v hx hv; exact ⟨a, h1, h2.mono e⟩
theorem VR.len {S : Mem} {v : V} {cs : List Value} (h : VR S v cs) : cs.length = 5 := by cases h; rfl
theorem VR.one {S : Mem} {v : V} {cs : List Value} (h : VR S v cs) : ∀ u ∈ cs, u.oneCell' = true := by
  cases h
  intro u hu
  simp only [List.mem_cons, List.not_mem_nil, or_false] at hu
  rcases hu with rfl | rfl | rfl | rfl | rfl <;> rfl

/-- rows of values in one block. -/
structure VRs (S : Mem) (L : List V) (p : Option Addr) (l c : Nat) : Prop where
  len : l = L.length
  lim : L.length ≤ lim
  cap : L.length ≤ c
  each : ∀ i x, L[i]? = some x → ∃ cs, VR S x cs ∧ ∀ j v, cs[j]? = some v → ∃ a, p = some a ∧ RdS S (a.add (i * 5 + j)) v
theorem VRs.mono {S S' : Mem} (e : Ext S S') {L : List V} {p : Option Addr} {l c : Nat} (h : VRs S L p l c) : VRs S' L p l c :=
  ⟨h.len, h.lim, h.cap, fun i x hx => by
    obtain ⟨cs, h1, h2⟩ := h.each i x hx
    exact ⟨cs, h1.mono e, fun j v hv => by obtain ⟨a, h3, h4⟩ := h2 j v hv; exact ⟨a, h3, h4.mono e⟩⟩⟩
/-- rows of named values. -/
structure FRs (S : Mem) (F : List (ByteArray × V)) (p : Option Addr) (l c : Nat) : Prop where
  len : l = F.length
  lim : F.length ≤ lim
  cap : F.length ≤ c
  each : ∀ i x, F[i]? = some x → ∃ cs, VR S x.2 cs ∧ (∃ a, p = some a ∧ RdS S (a.add (i * 6)) (.string x.1)) ∧ ∀ j v, cs[j]? = some v → ∃ a, p = some a ∧ RdS S (a.add (i * 6 + (1 + j))) v
theorem FRs.mono {S S' : Mem} (e : Ext S S') {F : List (ByteArray × V)} {p : Option Addr} {l c : Nat} (h : FRs S F p l c) : FRs S' F p l c :=
  ⟨h.len, h.lim, h.cap, fun i x hx => by
    obtain ⟨cs, h1, ⟨a0, h5, h6⟩, h2⟩ := h.each i x hx
    exact ⟨cs, h1.mono e, ⟨a0, h5, h6.mono e⟩, fun j v hv => by obtain ⟨a, h3, h4⟩ := h2 j v hv; exact ⟨a, h3, h4.mono e⟩⟩⟩
theorem VR.open {S : Mem} {k n : Int} {s : ByteArray} {L : List V} {F : List (ByteArray × V)} {cs : List Value} (h : VR S (.mk k n s L F) cs) :
    ∃ lp ll lc fp fl fc, cs = [.int .i64 k, .int .i64 n, .string s, .slice lp ll lc, .slice fp fl fc] ∧ VRs S L lp ll lc ∧ FRs S F fp fl fc := by
  cases h with
  | mk cs fs hl hf hlc hfc hL rL hF rN rF =>
    exact ⟨_, _, _, _, _, _, rfl, ⟨rfl, hl, hlc, fun i x hx => ⟨cs i, hL i x hx, fun j v hv => rL i x j v hx hv⟩⟩, ⟨rfl, hf, hfc, fun i x hx => ⟨fs i, hF i x hx, rN i x hx, fun j v hv => rF i x j v hx hv⟩⟩⟩
theorem VR.close {S : Mem} {k n : Int} {s : ByteArray} {L : List V} {F : List (ByteArray × V)} {lp fp : Option Addr} {ll lc fl fc : Nat} (hL : VRs S L lp ll lc) (hF : FRs S F fp fl fc) :
    VR S (.mk k n s L F) [.int .i64 k, .int .i64 n, .string s, .slice lp ll lc, .slice fp fl fc] := by
  classical
  rw [hL.len, hF.len]
  let cs : Nat → List Value := fun i => if h : ∃ x, L[i]? = some x then (hL.each i _ h.choose_spec).choose else []
  let fs : Nat → List Value := fun i => if h : ∃ x, F[i]? = some x then (hF.each i _ h.choose_spec).choose else []
  have hc : ∀ i x, L[i]? = some x → VR S x (cs i) ∧ ∀ j v, (cs i)[j]? = some v → ∃ a, lp = some a ∧ RdS S (a.add (i * 5 + j)) v := by
    intro i x hx
    have h : ∃ x, L[i]? = some x := ⟨x, hx⟩
    have e : h.choose = x := Option.some.inj (h.choose_spec.symm.trans hx)
    have e2 : cs i = (hL.each i _ h.choose_spec).choose := by simp only [cs]; rw [dif_pos h]
    have h3 := (hL.each i _ h.choose_spec).choose_spec
    rw [← e2] at h3
    rw [e] at h3
    exact h3
  have hf : ∀ i x, F[i]? = some x → VR S x.2 (fs i) ∧ (∃ a, fp = some a ∧ RdS S (a.add (i * 6)) (.string x.1)) ∧ ∀ j v, (fs i)[j]? = some v → ∃ a, fp = some a ∧ RdS S (a.add (i * 6 + (1 + j))) v := by
    intro i x hx
    have h : ∃ x, F[i]? = some x := ⟨x, hx⟩
    have e : h.choose = x := Option.some.inj (h.choose_spec.symm.trans hx)
    have e2 : fs i = (hF.each i _ h.choose_spec).choose := by simp only [fs]; rw [dif_pos h]
    have h3 := (hF.each i _ h.choose_spec).choose_spec
    rw [← e2] at h3
    rw [e] at h3
    exact h3
  exact .mk cs fs hL.lim hF.lim hL.cap hF.cap (fun i x hx => (hc i x hx).1) (fun i x j v hx hv => (hc i x hx).2 j v hv) (fun i x hx => (hf i x hx).1) (fun i x hx => (hf i x hx).2.1) (fun i x j v hx hv => (hf i x hx).2.2 j v hv)
end Go.Vd
