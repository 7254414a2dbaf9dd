
/- Deeds that came in: numbers, and a key. -/
import Derived.Test.YtpicofkhioalkaaGreatEk
import Derived.Test.YtpicofkhioalkaaGreatRo
import Derived.Test.YtpicofkhioalkaaGreatRows
set_option maxRecDepth 100000
namespace Go.Proofs.YtpicofkhioalkaaGreat
open Go Go.Lw Go.Wd Go.Am Go.Tb Go.Hm Go.Kd Go.Td
theorem dadd (a : Addr) (m n : Nat) : (a.add m).add n = a.add (m + n) := by
  unfold Addr.add
  by_cases h1 : m = 0 <;> by_cases h2 : n = 0 <;> simp [h1, h2, Nat.add_assoc]
/-- a deed. -/
structure Dd where
  do_ : Int
  tr : Int
  x : Int
  k : K
/-- deeds in memory that stands. -/
def ArgD (W : World) (p : Option Addr) (l : Nat) (L : List Dd) : Prop := l = L.length ∧ ∀ i d, L[i]? = some d → ∃ (a : Addr) (kp : Option Addr) (kc : Nat), p = some a ∧ RdS (Mem.of W) (a.add (i * 4)) (.int .i64 d.do_) ∧ RdS (Mem.of W) (a.add (i * 4 + 1)) (.int .i64 d.tr) ∧ RdS (Mem.of W) (a.add (i * 4 + 2)) (.int .i64 d.x) ∧
  RdS (Mem.of W) (a.add (i * 4 + 3)) (.slice kp d.k.length kc) ∧ ∀ j v, (bytesV d.k)[j]? = some v → ∃ b, kp = some b ∧ RdS (Mem.of W) (b.add j) v
theorem ArgD.at {W : World} {p : Option Addr} {l : Nat} {L : List Dd} (h : ArgD W p l L) {i : Nat} {d : Dd} (hi : L[i]? = some d) : ∃ (ad : Addr) (kp : Option Addr) (kc : Nat), (∀ (j : Int) (K : Addr → Prop), j = i → K ad → IdxC p l j 4 K) ∧ RdS (Mem.of W) ad (.int .i64 d.do_) ∧ RdS (Mem.of W) (ad.add 1) (.int .i64 d.tr) ∧ RdS (Mem.of W) (ad.add 2) (.int .i64 d.x) ∧
    RdS (Mem.of W) (ad.add 3) (.slice kp d.k.length kc) ∧ (d.k ≠ [] → ∃ b, kp = some b) ∧ ∀ w, Has (Mem.of W) w → Reads w kp (bytesV d.k) := by
  obtain ⟨rfl, h⟩ := h
  obtain ⟨a, kp, kc, rfl, h0, h1, h2, h3, h4⟩ := h i d hi
  have hil := kget_lt hi
  refine ⟨a.add (i * 4), kp, kc, fun j K hj hk => ?_, h0, by rw [dadd]; exact h1, by rw [dadd]; exact h2, by rw [dadd]; exact h3, fun hne => ?_, fun w hw b hb j v hj => ?_⟩
  · subst hj
    refine ⟨by omega, by omega, ?_⟩
    show K _
    rw [Int.toNat_natCast]; exact hk
  · obtain ⟨b, r, he⟩ := List.exists_cons_of_ne_nil hne
    obtain ⟨c, hc, _⟩ := h4 0 (.int .u8 ((b.toNat : Nat) : Int)) (by rw [he]; rfl)
    exact ⟨c, hc⟩
  · obtain ⟨c, hc, hr⟩ := h4 j v hj
    rw [hb] at hc
    cases hc
    exact hr w hw
section
variable {H : Type} {enc : TypeId × Value → H} {P : Program} {W : World} {sp : Nat → Bool} {held : Bool}
end
section
variable {H : Type} {enc : TypeId × Value → H} {W : World} {sp : Nat → Bool} {held : Bool}
end
end Go.Proofs.YtpicofkhioalkaaGreat
