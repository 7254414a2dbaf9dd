
/- Reached: is a handle of the document's heap? -/
import Derived.Test.YtdfdmboljidhnaaHPl
set_option maxRecDepth 100000
namespace Go.Proofs.Ytdfdmboljidhnaa
open Go Go.Lw Go.Wd Go.Am Go.Tb Go.Hm
section
variable {H : Hp} {hs : List Nat} {r : Rh} {om : List (R9 × Gq)} {w W : World} {S : Mem} {L : List HP}
theorem reached9_c (hm : H.WF) (hS : Sat L w) (k : Nat) (hk : L[k]? = some (Ro W S)) (hM : Mir S H hs r om) (hl : hs.length ≤ 1048576) (x : Nat) : Calls Try.prog 26 #[r.agg, .int .u64 (x : Int)] w (Ret (.bool (decide (x ∈ order H))) (Sat L)) := by
  have hol : (order H).length ≤ 1048576 := by have := (order_met (H := H)).len hm; have := hm.tab.most; omega
  refine S_ref9_Reached_ok r.p r.l r.c r.a0 r.a1 r.a2 r.a3 r.a4 r.a5 r.a6 r.a7 r.a8 r.a9 r.a10 r.a11 r.a12 r.a13 r.a14 r.a15 x w _ ?_
  unfold S_ref9_Reached
  refine NewC.ofRow hS fun b0 w1 h1 => ?_
  refine ldRh (r := r) h1 0 rfl ?_
  refine (order9_c (r := r) hm h1 (k + 1) hk hM hl).mono ?_
  rintro e w2 ⟨p, c, rfl, h2⟩
  refine ⟨_, _, _, rfl, ?_⟩
  refine (number9_c h2 (fun w h => h.reads 0 rfl) (fun hp => ?_) hol x).mono ?_
  · obtain ⟨_, hc⟩ := h2.own 0 rfl
    rcases hc with ⟨_, h0, _⟩ | ⟨g, rest, hp', _⟩
    · omega
    · exact ⟨_, hp'⟩
  rintro e w3 ⟨rfl, h3⟩
  refine ⟨_, rfl, ?_, h3.drop.drop⟩
  congr 1
  by_cases hx : x ∈ order H
  · obtain ⟨q, hq, _⟩ := numI_some hx
    rw [hq]; simp [hx]
  · rw [numI_none hx]; simp [hx]
theorem plain_play {b : Nat} {F : List HP} {d : Dd} (hS : Sat (HeapH H .nilIface b :: Ro W S :: F) w) (hM : Mir S H hs r om) (hl : hs.length ≤ H.t.n) (hcn : hs.length = H.t.count) {tp : Option Addr} {tc : Nat} (hT : CRs S 1 (words hs) tp hs.length tc) (hw : d.w < 18446744073709551616) (hy64 : -9223372036854775808 ≤ d.y ∧ d.y ≤ 9223372036854775807) :
    Calls Try.prog 39 #[.pointer (some ⟨b, 0, none⟩), r.agg, .slice tp hs.length tc, d.agg] w fun e w' =>
    ∃ (S' : Mem) (r' : Rh) (om' : List (R9 × Gq)) (tp' : Option Addr) (tc' : Nat), e = .returned (.tuple #[r'.agg, .slice tp' (playH H hs d).2.length tc', .bool true]) ∧ Ext S S' ∧ Mir S' (playH H hs d).1 (playH H hs d).2 r' om' ∧ CRs S' 1 (words (playH H hs d).2) tp' (playH H hs d).2.length tc' ∧
      Sat (HeapH (playH H hs d).1 .nilIface b :: Ro W S' :: F) w' := by
  have h1 : Sat (HeapH H .nilIface b :: (Wt.none b).at_ () :: Ro W S :: F) w := hemp_add hS
  refine (play_c (T := Wt.none b) (s := ()) h1 trivial hM hl hT hw hy64).mono ?_
  rintro e w' ⟨S', r', om', tp', tc', he, hE, hM', hT', _, h2⟩
  rw [playF_none] at he hM' hT' h2
  exact ⟨S', r', om', tp', tc', he, hE, hM', hT', hemp_drop h2⟩
end
end Go.Proofs.Ytdfdmboljidhnaa
