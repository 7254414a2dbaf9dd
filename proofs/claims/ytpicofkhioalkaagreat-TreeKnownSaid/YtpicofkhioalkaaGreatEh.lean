
/- What Check comes to: a tree is whole. -/
import Derived.Test.YtpicofkhioalkaaGreatEf
import Derived.Test.YtpicofkhioalkaaGreatWk
set_option maxRecDepth 100000
namespace Go.Hm
open Go Go.Lw
/-! A map that is a set of words. -/
section
variable {P : Program} {t kt et : TypeId} {L : List HP} {w : World} {r : Nat} {l : List Nat}
end
end Go.Hm
namespace Go.Proofs.YtpicofkhioalkaaGreat
open Go Go.Lw Go.Wd Go.Am Go.Tb Go.Hm Go.Kd Go.Td
theorem us : Tryz.prog.underlying 160 = some (.map 32 189) := by kernel_rfl
theorem key_str_eq (x y : K) : ((str x).toList == (str y).toList) = decide (x = y) := by
  rw [str_toList, str_toList]
  by_cases h : x = y <;> simp [h]
section
variable {H : Hp} {v : Value} {b : Nat} {F : List HP} {w : World}
end
end Go.Proofs.YtpicofkhioalkaaGreat
/- What Check comes to, and Make. -/
set_option maxRecDepth 100000
namespace Go.Proofs.YtpicofkhioalkaaGreat
open Go Go.Lw Go.Wd Go.Am Go.Tb Go.Hm Go.Kd Go.Td
section
variable {H : Hp} {v : Value} {b : Nat} {F : List HP} {w : World}
end
section
variable {v : Value} {b : Nat} {E : Eng v b} {s : E.σ} {F : List HP} {w : World}
theorem tmake_c (hs : Sat (E.S s F) w) (hi : E.inv s) (h4 : (E.H s).m.top + 4 ≤ (E.H s).m.n) (h5 : (E.H s).t.count < (E.H s).t.n) :
    Calls Tryz.prog 35 #[.pointer (some ⟨b, 0, none⟩)] w fun e w' =>
      ∃ (s' : E.σ) (x : Nat), e = .returned (.tuple #[.int .u64 (x : Int), .int .i64 0]) ∧ E.Mv s s' 1 4 ∧ x ≠ 0 ∧ E.ov s x = none ∧ E.ok s' x ∧ E.ov s' = updO (E.ov s) x (treeO 0 0 0) ∧ Sat (E.S s' F) w' := by
  refine S_tree_Make_ok _ _ _ ?_
  unfold S_tree_Make
  refine emk_c hs hi (tag := 20) (refs := 1) (size := 3) (by omega) (by omega) (by omega) (by omega) h5 ?_
  intro s1 k w3 m1 x0 xl xn xk xo h3
  exact ⟨_, _, rfl, cond_f rfl ⟨s1, k, rfl, m1, x0, xn, xk, xo, h3⟩⟩
end
end Go.Proofs.YtpicofkhioalkaaGreat
