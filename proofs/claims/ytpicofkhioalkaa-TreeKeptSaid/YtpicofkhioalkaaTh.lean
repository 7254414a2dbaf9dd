
/- What topped comes to: entries laid into the top node. -/
import Derived.Test.YtpicofkhioalkaaTp
import Derived.Test.YtpicofkhioalkaaTd
set_option maxRecDepth 100000
namespace Go.Proofs.Ytpicofkhioalkaa
open Go Go.Lw Go.Wd Go.Am Go.Tb Go.Hm Go.Kd Go.Td

section
variable {v : Value} {b : Nat} {E : Eng v b} {s : E.σ} {F : List HP} {w : World}
/-- what holds in the end of a change that makes nothing. -/
def EndT (E : Eng v b) (s : E.σ) (U : List Nat) (t : Nat) (ES : List Ent) (F : List HP) (e : Ending) (w' : World) : Prop :=
  ∃ (s' : E.σ) (V : List Nat), e = .returned (.tuple #[]) ∧ Tree (E.ov s') t ES V ∧ St E s U s' V 0 0 ∧ Sat (E.S s' F) w'
theorem tree_none {ov : Lk} {t : Nat} (h : ov t = some (treeO 0 0 0)) : Tree ov t [] [t] := ⟨by simp, List.Pairwise.nil, .inl ⟨rfl, rfl, h⟩⟩

end
end Go.Proofs.Ytpicofkhioalkaa
