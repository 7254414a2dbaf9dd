
/- What topped comes to: entries laid into the top node. -/
import Derived.Test.YtpicofkhioalkaaGreatTp
import Derived.Test.YtpicofkhioalkaaGreatTd
set_option maxRecDepth 100000
namespace Go.Proofs.YtpicofkhioalkaaGreat
open Go Go.Lw Go.Wd Go.Am Go.Tb Go.Hm Go.Kd Go.Td
section
variable {v : Value} {b : Nat} {E : Eng v b} {s : E.σ} {F : List HP} {w : World}
def EndT (E : Eng v b) (s : E.σ) (U : List Nat) (t : Nat) (ES : List Ent) (F : List HP) (e : Ending) (w' : World) : Prop :=
 ∃ (s' : E.σ) (V : List Nat), e = .returned (.tuple #[]) /\ Tree (E.ov s') t ES V /\ St E s U s' V 0 0 /\ Sat (E.S s' F) w'
theorem tree_none {ov : Lk} {t : Nat} (h : ov t = some (treeO 0 0 0)) : Tree ov t [] [t] := ⟨by simp, List.Pairwise.nil, .inl ⟨rfl, rfl, h⟩⟩
theorem topped_c {t n D xn d k0 : Nat} {ES : List Ent} {L : List Kid} {lp : Option Addr} {lc : Nat} (hs0 : Sat (E.S s F) w) (hi : E.inv s) (hgs : GS (E.ov s) t n D ES [] xn L d k0) (hl12 : L.length <= 12) (hd : 0 < d -> 1 <= L.length)
  {U : List Nat} (hst : St E s U s (t :: xn :: (hsOf L ++ whs [])) 0 0) (hD : D <= 12) (hn : n = ES.length) (hn3 : n <= 1000000) (hsr : Srt ES) (hes : ∀ e ∈ ES, e.x = 0 ∨ E.ok s e.x) (hrd : RdP F lp (L.map Kid.pr)) {inner : Bool} (hin : inner = decide (0 < d)) :
  Calls Tryz.prog 136 #[trv b t, .int .u64 (xn : Int), .slice lp L.length lc, .bool inner] w (EndT E s U t ES F) := by
 subst hin
 refine S_tree_tree_topped_ok _ _ _ _ _ _ _ _ _ ?_
 unfold S_tree_tree_topped
 refine NewC.ofRow hs0 fun r w1 h1 => ?_
 have g1 : Sat (E.S s (Row r (trc b t) 73 :: F)) w1 := inS h1
 intro k1 hk1
 have hk : ∀ w', EndT E s U t ES F (.returned (.tuple #[])) w' -> k1 w' := fun w' h => hk1 w' (by unfold S_tree_tree_topped_j0; exact h)
 obtain ⟨a1, a2, a3, a4, a5, a6, a7, a8⟩ := zip_of_nd hgs.nd
 obtain ⟨l0, ho0, hl0⟩ := hgs.node
 have hokt : E.ok s t := hst.ok t (by simp)
 have hokx : E.ok s xn := hst.ok xn (by simp)
 have hokL : ∀ z ∈ hsOf L, E.ok s z := fun z hz => hst.ok z (by simp [hz])
 have hES : esOf L = ES := by have := hgs.es; simpa [lefts, rights] using this
 have hDd : D = d + 1 := by rw [hgs.dep]; rfl
 have hto : E.ov s t = some (treeO xn n D) := hgs.tree
 have wr : L ≠ [] -> (0 < d -> 2 <= L.length) -> ∀ {k2 : World -> Prop}, (∀ w', EndT E s U t ES F (.returned (.tuple #[])) w' -> k2 w') ->
   LdP w1 (⟨r, 0, none⟩) fun p => LdI .u64 w1 (Addr.add (⟨r, 0, none⟩) 1) fun n => Calls Tryz.prog 101 #[.agg #[.pointer p, .int .u64 n], .int .u64 (xn : Int), .slice lp L.length lc] w1 fun e w' => e = .returned (.tuple #[]) /\ k2 w' := by
  intro hL h2 k2 hk2
  refine LdP.of g1 2 rfl (off := 0) rfl rfl (LdI.of g1 2 rfl (off := 1) rfl (add_mk _ _ _) ?_)
  refine (write_c g1 hi t (x := xn) (l := L.map Kid.pr) ho0 (nodeW_len hl0) hokx (by simpa using hl12) (kids_ok hgs.kids hokL fun e he => hes e (by rw [<- hES]; exact he)) (by simp) hrd.tail).mono ?_
  rintro e w2 ⟨s2, rfl, m2, o2, g2⟩
  have o2 : E.ov s2 = updO (E.ov s) xn (nodeO (decide (0 < d)) (L.map Kid.pr)) := o2
  obtain ⟨root, hdn⟩ := hgs.fin hL (fun h => absurd rfl h) h2 hl12
  have hdn : Done (E.ov s2) t n (d + 0) ES (t :: xn :: (hsOf L ++ whs [])) root := by rw [o2]; exact hdn
  refine ⟨rfl, hk2 w2 ⟨s2, _, rfl, tree_of_done hdn hn hgs.nd hsr, ?_, (outS g2).drop⟩⟩
  have := hst.step (V' := t :: xn :: (hsOf L ++ whs [])) m2 (fun z hz _ => ?_) (fun z hz => .inl hz) (fun z hz => m2.ok z (hst.ok z hz))
  ·simpa using this
  ·rw [o2, updO_ne _ _ (fun e => hz (by rw [e]; simp))]
 by_cases hL : L = []
 ·subst hL
  refine cond_t rfl ?_
  have hES0 : ES = [] := by rw [<- hES]; rfl
  refine ⟨fun w' => ∃ T, Sat (Row r (trc b t) 73 :: T) w', ⟨_, Sat.pull g1.drew 2 rfl⟩, ?_⟩
  refine ⟨_, _, fun w' ⟨T, h⟩ => trv_ld h 0 rfl, _, _, fun w' ⟨T, h⟩ => trv_ld h 0 rfl, ?_⟩
  refine (tcount_c g1.drew hto (by omega)).mono ?_
  rintro e w2 ⟨rfl, g2⟩
  refine ⟨_, rfl, ⟨_, Sat.pull g2 2 rfl⟩, ?_⟩
  refine (tset_c g2 hi (top := 0) (n := n) (d := 0) hto hokt (.inl rfl) (by omega) (by omega)).mono ?_
  rintro e w3 ⟨s2, rfl, m2, o2, g3⟩
  refine ⟨rfl, ⟨_, Sat.pull g3 2 rfl⟩, hk _ ⟨s2, [t], rfl, ?_, ?_, (outS g3).drop⟩⟩
  ·rw [hES0] at hn ⊢
   exact tree_none (by rw [o2, updO_self, hn]; rfl)
  ·have := hst.step (V' := [t]) m2 (fun z hz _ => ?_) (fun z hz => .inl ?_) (fun z hz => ?_)
   ·simpa using this
   ·rw [o2, updO_ne _ _ (fun e => hz (by rw [e]; simp))]
   ·simp only [List.mem_cons, List.not_mem_nil, or_false] at hz; subst hz; simp
   ·simp only [List.mem_cons, List.not_mem_nil, or_false] at hz; subst hz; exact m2.ok _ hokt
 ·have hL0 := List.length_pos_iff.2 hL
  refine cond_f (by simp; omega) ?_
  by_cases hd0 : 0 < d
  ·refine cond_t (by simpa using hd0) ?_
   by_cases hl1 : L.length = 1
   ·refine cond_t (by simp [hl1]) ?_
    obtain ⟨c, rfl⟩ : ∃ c, L = [c] := by
     cases L with
     | nil => simp at hl1
     | cons c L => cases L with
      | nil => exact ⟨c, rfl⟩
      | cons _ _ => simp at hl1
    refine ⟨fun w' => Sat (Row r (trc b t) 73 :: F) w', g1.drew.drop.drop, ?_⟩
    refine ⟨_, _, fun w' h => trv_ld h 0 rfl, ?_⟩
    refine idxP (i := 0) (q := c.pr) hrd (g1.drop.drop.drop) (by simp) rfl rfl fun ad had => ?_
    refine ⟨(c.x : Int), fun w' h => LdI.at (had w' h.drop).2 rfl, ?_⟩
    refine ⟨_, _, fun w' h => trv_ld h 0 rfl, _, _, fun w' h => trv_ld h 0 rfl, ?_⟩
    refine (tcount_c g1.drew hto (by omega)).mono ?_
    rintro e w2 ⟨rfl, g2⟩
    refine ⟨_, rfl, g2.drop.drop, ?_⟩
    refine (tdepth_c g2 hto hD).mono ?_
    rintro e w3 ⟨rfl, g3⟩
    refine ⟨_, rfl, g3.drop.drop, ?_⟩
    have e1 : IntKind.wrap .i64 ((D : Int) - 1) = ((d : Nat) : Int) := by rw [wrapI64 (by omega) (by omega)]; omega
    rw [e1]
    have hrc := hgs.kids c (by simp)
    obtain ⟨d', rfl⟩ : ∃ d', d = d' + 1 := ⟨d - 1, by omega⟩
    have hcx : c.x ∈ hsOf [c] := by simp [hrc.xmem]
    refine (tset_c g3 hi (top := c.x) (n := n) (d := d' + 1) hto hokt (.inr (hokL _ hcx)) (by omega) (by omega)).mono ?_
    rintro e w4 ⟨s2, rfl, m2, o2, g4⟩
    have hdn : Done (E.ov s2) t n d' ES (t :: hsOf [c]) c := by
     refine ⟨by rw [o2, updO_self], ?_, ?_, by simp⟩
     ·have : Rep (E.ov s2) (d' + 1) 6 c := hrc.frame fun z hz => by rw [o2, updO_ne _ _ (fun e => a2 (by rw [<- e]; simp [hz]))]
      exact this.mono (by split <;> omega)
     ·rw [<- hES]; simp
    have hnd : (t :: hsOf [c]).Nodup := List.nodup_cons.2 ⟨a2, a6⟩
    refine ⟨rfl, g4.drop.drop, hk _ ⟨s2, _, rfl, tree_of_done hdn hn hnd hsr, ?_, (outS g4).drop⟩⟩
    have hsub : ∀ z, z ∈ t :: hsOf [c] -> z ∈ t :: xn :: (hsOf [c] ++ whs []) := by
     intro z hz
     rcases List.mem_cons.1 hz with rfl | hz
     ·simp
     ·simp only [List.mem_cons, List.mem_append]; exact .inr (.inr (.inl hz))
    have := hst.step (V' := t :: hsOf [c]) m2 (fun z hz _ => ?_) (fun z hz => .inl (hsub z hz)) (fun z hz => m2.ok z (hst.ok z (hsub z hz)))
    ·simpa using this
    ·rw [o2, updO_ne _ _ (fun e => hz (by rw [e]; simp))]
   ·exact cond_f (by simp; omega) (wr hL (fun _ => by omega) hk)
  ·exact cond_f (by simp; omega) (wr hL (fun h => absurd h hd0) hk)
end
end Go.Proofs.YtpicofkhioalkaaGreat
