
/- Markings of a heap by deeds: data, and what is common to chapter 10's laws. -/
import Derived.Test.YtdfdmboljidhnaaMd
import Derived.Test.YtdfdmboljidhnaaDf
set_option maxRecDepth 100000
namespace Go.Proofs.Ytdfdmboljidhnaa
open Go Go.Lw Go.Wd Go.Am Go.Tb Go.Hm
section
variable {n k : Nat} {H : Hp} {hs : List Nat} {s : Ms}
theorem Pl.paint (h : Pl n k H hs) (x : Nat) (on : Bool) : Pl n k (H.paint x on) hs := by
  unfold Hp.paint
  split
  · exact h.set _ _
  · exact h
theorem Pl.lnk (h : Pl n k s.1 hs) (x : Nat) : Pl n k (lnk s x).1 hs := by
  unfold Hm.lnk
  split
  · split
    · exact h
    · exact h.paint _ _
  · exact h
theorem Pl.lnks : ∀ (ys : List Nat) {s : Ms}, Pl n k s.1 hs → Pl n k (ys.foldl Hm.lnk s).1 hs
  | [], _, h => h
  | y :: ys, s, h => by
    rw [List.foldl_cons]
    exact Pl.lnks ys (h.lnk y)
theorem Pl.unit (h : Pl n k s.1 hs) : Pl n k (unit s).1 hs := by
  unfold Hm.unit
  split
  · exact h
  · exact Pl.lnks _ h
theorem Pl.units : ∀ (m : Nat) {s : Ms}, Pl n k s.1 hs → Pl n k (units m s).1 hs
  | 0, _, h => h
  | m + 1, s, h => Pl.units m h.unit
theorem Pl.clear (h : Pl n k H hs) : Pl n k H.clear hs := by
  refine ⟨h.cnt, h.tn, h.mn, h.op, ?_⟩
  have := h.objs
  unfold Hp.clear
  simp only [List.length_map]
  exact this
theorem Pl.began (h : Pl n k H hs) : Pl n k (began H).1 hs := Pl.lnks (s := (H.clear, [])) _ h.clear
theorem inv_small {s : Ms} (h : Inv s) : ∀ x ∈ s.2, x < 18446744073709551616 := fun x hx => by
  obtain ⟨o, ho⟩ := Option.isSome_iff_exists.1 (isM_live (h.stack x hx))
  exact look_lt h.wf ho
/-- in the end what is marked is what is reached. -/
theorem marked_iff {H0 : Hp} (hm0 : H0.WF) (hi : Inv s) (ho : Only s) (hk : Sk H0 s.1) (he : s.2 = []) (x : Nat) : isM s.1 x = decide (x ∈ order H0) := by
  by_cases hx : x ∈ order H0
  · rw [hi.all he (hk.reach ((order_iff hm0).1 hx))]; simp [hx]
  · cases hM : isM s.1 x with
    | true => exact absurd ((order_iff hm0).2 (hk.symm.reach (ho x hM))) hx
    | false => simp [hx]
theorem sk_meets {A B : Hp} (h : Sk A B) : ∀ (ys l : List Nat), meets B l ys = meets A l ys
  | [], _ => rfl
  | y :: ys, l => by
    have e : meet B l y = meet A l y := by unfold meet; rw [h.isSome]
    have ih := sk_meets h ys
    unfold meets at ih ⊢
    rw [List.foldl_cons, List.foldl_cons, e, ih]
theorem sk_walk {A B : Hp} (h : Sk A B) : ∀ m, walkTo B m = walkTo A m
  | 0 => by unfold walkTo; rw [h.roots]; exact sk_meets h _ _
  | m + 1 => by
    unfold walkTo walkStep
    rw [sk_walk h m]
    split
    · rw [h.refs]; exact sk_meets h _ _
    · rfl
theorem sk_order {A B : Hp} (h : Sk A B) : order B = order A := by unfold order; rw [h.t]; exact sk_walk h _
theorem sk_graphR {A B : Hp} (h : Sk A B) : graphR B = graphR A := by unfold graphR; rw [h.roots, sk_order h]
theorem sk_graphN {A B : Hp} (h : Sk A B) : graphN B = graphN A := by
  unfold graphN
  rw [sk_order h]
  apply List.map_congr_left
  intro x hx
  obtain ⟨o, ho⟩ := order_look hx
  obtain ⟨p, hp, h1, h2, h3⟩ := h.some ho
  unfold nodeOf
  rw [ho, hp]
  simp only [h1, h2, h3]
end
end Go.Proofs.Ytdfdmboljidhnaa
