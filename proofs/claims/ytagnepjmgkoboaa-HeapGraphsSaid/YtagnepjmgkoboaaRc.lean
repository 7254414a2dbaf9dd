
/- Reached: is a handle of the document's heap? -/
import Derived.Test.YtagnepjmgkoboaaHPl
set_option maxRecDepth 100000
namespace Go.Proofs.Ytagnepjmgkoboaa
open Go Go.Lw Go.Wd Go.Am Go.Tb Go.Hm
section
variable {H : Hp} {hs : List Nat} {r : Rh} {om : List (R9 × Gq)} {w W : World} {S : Mem} {L : List HP}
theorem plain_play {b : Nat} {F : List HP} {d : Dd} (hS : Sat (HeapH H .nilIface b :: Ro W S :: F) w) (hM : Mir S H hs r om) (hl : hs.length ≤ H.t.n) (hcn : hs.length = H.t.count) {tp : Option Addr} {tc : Nat} (hT : CRs S 1 (words hs) tp hs.length tc) (hw : d.w < 18446744073709551616) (hy64 : -9223372036854775808 ≤ d.y ∧ d.y ≤ 9223372036854775807) :
    Calls Try.prog 19 #[.pointer (some ⟨b, 0, none⟩), r.agg, .slice tp hs.length tc, d.agg] w fun e w' =>
    ∃ (S' : Mem) (r' : Rh) (om' : List (R9 × Gq)) (tp' : Option Addr) (tc' : Nat), e = .returned (.tuple #[r'.agg, .slice tp' (playH H hs d).2.length tc', .bool true]) ∧ Ext S S' ∧ Mir S' (playH H hs d).1 (playH H hs d).2 r' om' ∧ CRs S' 1 (words (playH H hs d).2) tp' (playH H hs d).2.length tc' ∧
      Sat (HeapH (playH H hs d).1 .nilIface b :: Ro W S' :: F) w' := by
  have h1 : Sat (HeapH H .nilIface b :: (Wt.none b).at_ () :: Ro W S :: F) w := hemp_add hS
  refine (play_c (T := Wt.none b) (s := ()) h1 trivial hM hl hcn hT hw hy64).mono ?_
  rintro e w' ⟨S', r', om', tp', tc', he, hE, hM', hT', _, h2⟩
  rw [playF_none] at he hM' hT' h2
  exact ⟨S', r', om', tp', tc', he, hE, hM', hT', hemp_drop h2⟩
end
end Go.Proofs.Ytagnepjmgkoboaa
