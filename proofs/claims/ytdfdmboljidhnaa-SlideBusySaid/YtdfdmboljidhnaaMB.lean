
/- What the laws of chapter 10 have in common: three objects; 'is'; the law 'awake'. -/
import Derived.Test.YtdfdmboljidhnaaMc
set_option maxRecDepth 100000
namespace Go.Proofs.Ytdfdmboljidhnaa
open Go Go.Lw Go.Wd Go.Am Go.Tb Go.Hm

def th0 : Hp := Hp.new 100 10
def thz : Nat := nextH th0.t
def th1 : Hp := th0.made 3 0 3
def thx : Nat := nextH th1.t
def th2 : Hp := th1.made 1 1 1
def thy : Nat := nextH th2.t
def th3 : Hp := th2.made 2 0 0
def th4 : Hp := if Hp.refE th3 thx 0 thy = 0 then Hp.setRef th3 thx 0 thy else th3
def th5 : Hp := if Hp.rootE th4 0 thx = 0 then th4.rooted (Int.toNat 0) thx else th4
theorem th_refE : Hp.refE th3 thx 0 thy = 0 := by decide +kernel
theorem th_rootE : Hp.rootE th4 0 thx = 0 := by decide +kernel
theorem th_xu : thx < 18446744073709551616 := by decide +kernel
theorem th_yu : thy < 18446744073709551616 := by decide +kernel
theorem th_zu : thz < 18446744073709551616 := by decide +kernel
theorem th_op : th5.m.op = false := by decide +kernel

theorem st3i {L : List HP} {w : World} {b T : Nat} {c0 c1 c2 : Value} {n0 n1 n2 : Int} {K : Int → Int → Int → World → Prop} (hs : Sat L w) (i : Nat) (hi : L[i]? = some (Row b [c0, c1, c2] T)) (h : ∀ w', Sat (L.set i (Row b [.int .u64 n0, .int .u64 n1, .int .u64 n2] T)) w' → K n0 n1 n2 w') :
    StC w ⟨b, 0, none⟩ (.int .u64 n0) fun w => StC w (Addr.add ⟨b, 0, none⟩ 1) (.int .u64 n1) fun w => StC w (Addr.add ⟨b, 0, none⟩ 2) (.int .u64 n2) fun w => LdI .u64 w ⟨b, 0, none⟩ fun m0 => LdI .u64 w (Addr.add ⟨b, 0, none⟩ 1) fun m1 => LdI .u64 w (Addr.add ⟨b, 0, none⟩ 2) fun m2 => K m0 m1 m2 w := by
  simp only [add_mk, Nat.zero_add]
  refine StC.of hs i hi (off := 0) rfl rfl fun w1 h1 => ?_
  refine StC.of h1 i (get_set_self hi) (off := 1) rfl rfl fun w2 h2 => ?_
  rw [set_set_self] at h2
  refine StC.of h2 i (get_set_self hi) (off := 2) rfl rfl fun w3 h3 => ?_
  rw [set_set_self] at h3
  exact LdI.of h3 i (get_set_self hi) (off := 0) rfl rfl (LdI.of h3 i (get_set_self hi) (off := 1) rfl rfl (LdI.of h3 i (get_set_self hi) (off := 2) rfl rfl (h w3 h3)))
theorem st3v {L : List HP} {w : World} {b T : Nat} {c0 c1 c2 v0 v1 v2 : Value} {K : World → Prop} (hs : Sat L w) (i : Nat) (hi : L[i]? = some (Row b [c0, c1, c2] T)) (h : ∀ w', Sat (L.set i (Row b [v0, v1, v2] T)) w' → K w') :
    StC w ⟨b, 0, none⟩ v0 fun w => StC w (Addr.add ⟨b, 0, none⟩ 1) v1 fun w => StC w (Addr.add ⟨b, 0, none⟩ 2) v2 K := by
  simp only [add_mk, Nat.zero_add]
  refine StC.of hs i hi (off := 0) rfl rfl fun w1 h1 => ?_
  refine StC.of h1 i (get_set_self hi) (off := 1) rfl rfl fun w2 h2 => ?_
  rw [set_set_self] at h2
  refine StC.of h2 i (get_set_self hi) (off := 2) rfl rfl fun w3 h3 => ?_
  rw [set_set_self] at h3
  exact h w3 h3

section
variable {H : Hp} {v : Value} {b mb : Nat} {st : List Nat} {run : Bool} {F : List HP} {w : World}
end

end Go.Proofs.Ytdfdmboljidhnaa
