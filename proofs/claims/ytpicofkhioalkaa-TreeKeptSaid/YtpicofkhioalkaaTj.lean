
/- What shrunk comes to: fewer entries in a node, and those around and above it made right. -/
import Derived.Test.YtpicofkhioalkaaTh
set_option maxRecDepth 100000
namespace Go.Proofs.Ytpicofkhioalkaa
open Go Go.Lw Go.Wd Go.Am Go.Tb Go.Hm Go.Kd Go.Td

section
variable {v : Value} {b : Nat} {E : Eng v b} {s : E.σ} {F : List HP} {w : World}
theorem EndT.after {s1 : E.σ} {U V : List Nat} {t : Nat} {ES : List Ent} {e : Ending} (h : St E s U s1 V 0 0) (g : EndT E s1 V t ES F e w) : EndT E s U t ES F e w := by
  obtain ⟨s', V', h1, h2, h3, h4⟩ := g
  exact ⟨s', V', h1, h2, h.trans h3 fun z hz => hz, h4⟩
theorem EndT.drop {A : HP} {U : List Nat} {t : Nat} {ES : List Ent} {e : Ending} (g : EndT E s U t ES (A :: F) e w) : EndT E s U t ES F e w := by
  obtain ⟨s', V', h1, h2, h3, h4⟩ := g
  exact ⟨s', V', h1, h2, h3, (outS h4).drop⟩
/-- a turn of shrunk. -/
def SInv (E : Eng v b) (s : E.σ) (U : List Nat) (t n D : Nat) (ES : List Ent) (r : Nat) (F : List HP) (_i : Nat) (wp : Option Addr) (wl wc : Nat) (x : Int) (lp : Option Addr) (ll lc : Nat) (inner : Bool) (up : Addr) (w' : World) : Prop :=
  ∃ (bs : List Fr) (xn : Nat) (L : List Kid) (d k0 : Nat) (s1 : E.σ) (ub : Nat) (ua : Int) (up1 : Option Addr) (ul uc' : Nat) (uj : Int), wl = bs.length ∧ x = (xn : Int) ∧ ll = L.length ∧ inner = decide (0 < d) ∧ up = ⟨ub, 0, none⟩ ∧ GS (E.ov s1) t n D ES bs xn L d k0 ∧
    L.length ≤ 12 ∧ (bs ≠ [] → 5 ≤ L.length) ∧ (0 < d → 1 ≤ L.length) ∧ E.ok s1 k0 ∧ St E s U s1 (t :: xn :: (hsOf L ++ whs bs)) 0 0 ∧ (∀ e ∈ ES, e.x = 0 ∨ E.ok s1 e.x) ∧ bs.length ≤ 12 ∧
    Sat (Own 78 2 lp L.length lc (pairsV (L.map Kid.pr)) :: Way bs wp wc :: Row ub [.int .u64 ua, .slice up1 ul uc', .int .i64 uj] 121 :: E.S s1 (Row r (trc b t) 50 :: F)) w'

end
end Go.Proofs.Ytpicofkhioalkaa

