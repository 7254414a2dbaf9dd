
/- 'MarkAgain' answers true: stopped in the middle and begun anew, a marking ends as one that was never stopped. No conditions. -/
import Derived.Test.YtdlplljmgkfkgaaMa
set_option maxRecDepth 100000
namespace Go.Proofs.Ytdlplljmgkfkgaa
open Go Go.Lw Go.Wd Go.Am Go.Tb Go.Hm Go.ChangeShapes Go.WideShapes Go.ChangeAt Go.RowKit

set_option maxHeartbeats 4000000 in
theorem again_c (W : World) {p p1 : Option Addr} {l c l1 c1 : Nat} {xs : List Value} {zs : List Int} (hx : ArgR W dks9 p l xs) (hz : ArgI W .i64 p1 l1 zs) :
    Calls Try.prog 5 #[.slice p l c, .slice p1 l1 c1] W (Ret (.bool true) (Go.RowKit.Below W.heap.size W)) := by
  have h0 : Sat [Ro W (Mem.of W)] W := Sat.ofBase W
  refine S_law10_MarkAgain_ok _ _ _ _ _ _ _ _ ?_
  unfold S_law10_MarkAgain
  refine (awake10_c h0).mono ?_
  rintro e w0 ⟨rfl, h1⟩
  refine ⟨_, rfl, cond_f rfl ?_⟩
  by_cases hl : l ≤ 300
  rotate_left
  · exact cond_t (by simp; omega) ⟨rfl, h1.roBelow 0 rfl (Ext.refl _)⟩
  refine cond_f (by simp; omega) ?_
  refine (made10_c h1 (Ext.refl _) hx hl).mono ?_
  rintro e w1 ⟨b, S, H0, hs, r, om, tp, tc, rfl, hE, hM, hT, hP0, hs3, h2⟩
  refine ⟨_, _, _, _, _, _, _, _, _, _, _, _, _, _, _, _, _, _, _, _, _, _, _, _, rfl, ?_⟩
  refine NewC.ofRow h2 fun b0 w2 h3 => ?_
  refine stRh (r := r) rfl h3 0 rfl fun w3 h4 => ?_
  refine cond_f rfl ?_
  have h5 : Sat (HeapH H0 .nilIface b :: [Ro W S, Row b0 r.cells 49]) w3 := (Sat.pull h4 2 rfl).pull 2 rfl
  have hm0 := sat_wf h5
  refine (mnew_c h5).mono ?_
  rintro e w4 ⟨mb, rfl, h6⟩
  refine ⟨_, rfl, ?_⟩
  clear h0 h1 h2 h3 h4 h5
  intro k0 hk0
  -- behind the stops
  have fin : ∀ w Hc, Sk H0 Hc → Pl 16384 1024 Hc hs → Sat [HeapH Hc .nilIface b, MkH b mb [] false, Ro W S, Row b0 r.cells 49] w → k0 w := by
    intro w Hc hk hP h
    refine hk0 _ ?_
    unfold S_law10_MarkAgain_j0
    have hmc := sat_wf h
    refine (mstart_c h hP.op).mono ?_
    rintro e w1 ⟨rfl, h1⟩
    refine ⟨_, rfl, cond_f rfl ?_⟩
    obtain ⟨hbw, hbs, hbp⟩ := began_ok hmc
    have hI := Inv.began hmc
    have hO := Only.began hmc
    have hpot : pot (began Hc) ≤ 300 := by rw [hbp, hP.objs]; exact hs3
    have hk := hk.trans hbs
    generalize began Hc = s0 at h1 hI hO hk hpot hbw
    refine ⟨fun i w => ∃ q : Nat, i = q ∧ (q = 0 ∨ (units (2 * q) s0).2 ≠ []) ∧ Sat [HeapH (units (2 * q) s0).1 (mkW mb) b, MkH b mb (units (2 * q) s0).2 true, Ro W S, Row b0 r.cells 49] w, fun i _ => (400 - i).toNat, ⟨0, rfl, .inl rfl, h1⟩, ?_⟩
    clear h h1
    rintro i w2 ⟨q, rfl, hnd, h2⟩
    unfold S_law10_MarkAgain_l2
    have hIq := hI.units (2 * q)
    have hOq := Only.units hI hO (2 * q)
    obtain ⟨hqw, hqs, hqp⟩ := units_ok hI.wf (2 * q)
    have hq : 2 * q ≤ 300 := by
      rcases hnd with rfl | hnd
      · omega
      · have := hqp hnd; omega
    have hpq : pot (units (2 * q) s0) ≤ 300 := by
      rcases hnd with rfl | hnd
      · exact hpot
      · have := hqp hnd; omega
    refine cond_t (by simp; omega) ?_
    refine (mstep_c h2 (n := 2) (by omega) (by omega) (by have : pot ((units (2 * q) s0).1, (units (2 * q) s0).2) = pot (units (2 * q) s0) := rfl; omega) (inv_small hIq)).mono ?_
    rintro e w3 ⟨rfl, h3⟩
    have he : units 2 ((units (2 * q) s0).1, (units (2 * q) s0).2) = units (2 * (q + 1)) s0 := by rw [Nat.mul_succ, units_add]
    rw [he] at h3 ⊢
    refine ⟨_, _, rfl, cond_f rfl ?_⟩
    by_cases hdone : (units (2 * (q + 1)) s0).2 = []
    rotate_left
    · refine cond_f (by simpa using hdone) ?_
      rw [wrapI64 (by omega) (by omega)]
      exact ⟨⟨q + 1, by omega, .inr hdone, h3⟩, by first | omega | (dsimp only; omega)⟩
    refine cond_t (by simpa using hdone) ?_
    have hI2 := hI.units (2 * (q + 1))
    have hO2 := Only.units hI hO (2 * (q + 1))
    obtain ⟨_, hs2, _⟩ := units_ok hI.wf (2 * (q + 1))
    have hk2 := hk.trans hs2
    have hmk := marked_iff hm0 hI2 hO2 hk2 hdone
    generalize units (2 * (q + 1)) s0 = s1 at h3 hI2 hO2 hk2 hmk
    refine ⟨fun j w => ∃ g : Nat, j = g ∧ g ≤ hs.length ∧ Sat [HeapH s1.1 (mkW mb) b, MkH b mb s1.2 true, Ro W S, Row b0 r.cells 49] w, fun j _ => (hs.length - j).toNat, ⟨0, rfl, by omega, h3⟩, ?_⟩
    clear h3
    rintro j w4 ⟨g, rfl, hg, h4⟩
    unfold S_law10_MarkAgain_l1
    by_cases hgl : g < hs.length
    rotate_left
    · exact cond_f (by simp; omega) ⟨rfl, h4.roBelow 2 rfl hE⟩
    refine cond_t (by simp; omega) ?_
    have h5 := h4.drew
    generalize w4.drew = w5 at h5
    clear h4
    have hxg : hs[g]? = some hs[g] := List.getElem?_eq_getElem hgl
    generalize hs[g] = x at hxg
    obtain ⟨a, ha, hra⟩ := hT.reads g (.int .u64 (x : Int)) (by unfold words; rw [List.getElem?_map, hxg]; rfl)
    subst ha
    have ix : ∀ {K : Addr → Prop}, K (a.add (g * 1)) → IdxC (some a) hs.length (g : Int) 1 K := fun h => ⟨by omega, by omega, by rw [Int.toNat_natCast]; exact h⟩
    have rdx : ∀ w, Has S w → w.cell? (a.add (g * 1)) = some (.int .u64 (x : Int)) := fun w hw => by rw [Nat.mul_one]; exact hra w hw
    have hxl : (H0.look x).isSome = true := (hM.live x).1 (List.mem_of_getElem? hxg)
    have hxu : x < 18446744073709551616 := by
      obtain ⟨o, ho⟩ := Option.isSome_iff_exists.1 hxl
      exact look_lt hm0 ho
    refine ⟨fun w => ∃ (L : List HP) (i : Nat), L[i]? = some (Row b0 r.cells 49) ∧ Has S w ∧ Sat L w, ⟨_, 3, rfl, h5.has 2 rfl, h5⟩, ix ⟨x, fun w ⟨L, i, hi, hw, h⟩ => LdI.at (rdx w hw) rfl, ?_⟩⟩
    refine qRh (r := r) (b := b0) (T := 49) (fun w ⟨L, i, hi, _, h⟩ => ⟨_, h.pull i hi⟩) ?_
    refine ix ⟨x, fun w ⟨L, i, hi, hw, h⟩ => LdI.at (rdx w hw) rfl, ?_⟩
    refine (reached9_c (r := r) hm0 h5 2 rfl hM (by omega) x).mono ?_
    rintro e w6 ⟨rfl, h6⟩
    refine ⟨_, rfl, ⟨_, 3, rfl, h6.has 2 rfl, h6⟩, ?_⟩
    refine (is_m h6 hxu (decide (x ∈ order H0))).mono ?_
    rintro e w7 ⟨rfl, h7⟩
    refine ⟨_, rfl, ?_⟩
    rw [hk2.isSome, hxl, hmk]
    refine cond_f (by simp) ?_
    rw [wrapI64 (by omega) (by omega)]
    exact ⟨⟨g + 1, by omega, by omega, h7⟩, by first | omega | (dsimp only; omega)⟩
  refine ⟨fun i w => ∃ (q : Nat) (Hc : Hp), i = q ∧ Sk H0 Hc ∧ Pl 16384 1024 Hc hs ∧ Sat [HeapH Hc .nilIface b, MkH b mb [] false, Ro W S, Row b0 r.cells 49] w, fun i _ => (20 - i).toNat, ⟨0, H0, rfl, Sk.refl _, hP0, h6⟩, ?_⟩
  clear h6
  rintro i w5 ⟨q, Hc, rfl, hk, hP, h7⟩
  unfold S_law10_MarkAgain_l0
  by_cases hql : q < l1
  rotate_left
  · exact cond_f (by simp; omega) (fin _ _ hk hP h7)
  refine cond_t (by simp; omega) ?_
  by_cases hq20 : q < 20
  rotate_left
  · exact cond_f (by simp; omega) (fin _ _ hk hP h7)
  refine cond_t (by simp; omega) ?_
  have hmc := sat_wf h7
  refine (mstart_c h7 hP.op).mono ?_
  rintro e w6 ⟨rfl, h8⟩
  refine ⟨_, rfl, cond_f rfl ?_⟩
  obtain ⟨a, rfl⟩ := hz.some (by omega)
  have hzl := hz.len
  have hzq : zs[q]? = some zs[q] := List.getElem?_eq_getElem (by omega)
  have hrd := hz.reads a rfl q (.int .i64 zs[q]) (by rw [List.getElem?_map, hzq]; rfl)
  refine ⟨by omega, by omega, ?_⟩
  rw [Int.toNat_natCast]
  refine LdI.at (((RdS.base (by rw [Nat.mul_one]; exact hrd)).mono hE) _ (h8.has 2 rfl)) ?_
  obtain ⟨x, hx7, hxe⟩ := bAnd_le zs[q] 7 (by omega)
  have hxe : bAnd .i64 zs[q] 7 = (x : Int) := hxe
  rw [hxe, show IntKind.wrap .i64 (1 + (x : Int)) = ((x + 1 : Nat) : Int) by rw [wrapI64 (by omega) (by omega)]; omega]
  obtain ⟨hbw, hbs, hbp⟩ := began_ok hmc
  have hI := Inv.began hmc
  have hpot : pot ((began Hc).1, (began Hc).2) ≤ 300 := by
    have : pot ((began Hc).1, (began Hc).2) = pot (began Hc) := rfl
    rw [this, hbp, hP.objs]; exact hs3
  refine (mstep_c h8 (n := x + 1) (by omega) (by omega) (by omega) (inv_small hI)).mono ?_
  rintro e w7 ⟨rfl, h9⟩
  obtain ⟨_, hus, _⟩ := units_ok hI.wf (x + 1)
  refine ⟨_, _, rfl, cond_f rfl ?_⟩
  refine (mstop_c h9).mono ?_
  intro e w8 h10
  rw [if_pos rfl] at h10
  obtain ⟨rfl, h10⟩ := h10
  refine ⟨_, rfl, cond_f rfl ?_⟩
  rw [wrapI64 (by omega) (by omega)]
  exact ⟨⟨q + 1, _, by omega, (hk.trans hbs).trans hus, Pl.units (s := ((began Hc).1, (began Hc).2)) _ hP.began, h10⟩, by first | omega | (dsimp only; omega)⟩

set_option maxRecDepth 100000 in
theorem again_lifted (os : Os) (started : os.Started) (H : Type) (enc : TypeId × Value → H) :
    ReturnsInHanded {} Try.checked os 5 .any (Rows.markAgainSpec.pre6 enc Try.prog Try.f5 Rows.markAgainRow.domain false) (Rows.markAgainSpec.post enc Try.prog Try.f5 false true false false) := by
  refine returnsInHanded_of_change (C := Try.checked) own started (by kernel_rfl) Try.func5
    (ChangeSpec.witness6 (enc := enc) (C := Try.checked) false ⟨#[], #[.slice none 0 0, .slice none 0 0], []⟩ 8 (by kernel_rfl) (by kernel_rfl) (by kernel_rfl) (by kernel_rfl)) ?_
  intro W base args ds gs before hval hW hcnd _
  have hval : ∀ (j : Nat) t v, Try.f5.params[j]? = some t → args[j]? = some v → Value.okWide Try.prog W .any base t v := hval
  have hW' : DataW.Whole enc Try.prog Try.f5.params.toList Rows.markAgainSpec.vars false W args.toList ds gs before := hW
  obtain ⟨p, q, hA, hV, _⟩ := hW'
  rw [Try.params5] at hA hval
  obtain ⟨v0, v1, d0, d1, p0, p1, rfl, rfl, rfl, h0, h1⟩ := trodAll_two hA
  obtain ⟨a0, l0, c0, rfl⟩ := okWide_slice Try.underlying44 (hval 0 44 v0 rfl rfl)
  obtain ⟨⟨xs0, hx0⟩, _⟩ := argRows (ks := dks9) Try.underlying44 Try.underlying57 (by kernel_rfl) (by kernel_rfl) (by kernel_rfl) h0
  obtain ⟨a1, l1, c1, rfl⟩ := okWide_slice Try.underlying45 (hval 1 45 v1 rfl rfl)
  obtain ⟨zs1, hz1⟩ := argInts Try.underlying45 Try.underlying3 (by kernel_rfl) h1
  refine (again_c W hx0 hz1).mono fun e W' ⟨he, hs⟩ => ?_
  exact ⟨_, he, law_post (tb := 4) laidOut (by decide +kernel) (by kernel_rfl) Try.underlying4 rfl hW ⟨rfl, rfl, rfl⟩ hs⟩

theorem again_holds : Rows.MarkAgainSaid :=
  OpenClaim.holds_of_wide 5 Try.f5 rfl rfl rfl rfl rfl rfl rfl ⟨rfl, rfl, rfl, rfl, rfl⟩ rfl rfl rfl rfl rfl (by kernel_rfl) Try.func5 (by kernel_rfl)
    (of_decide_eq_true (by kernel_rfl)) (by unfold Func.isWrapper; first | (rw [if_pos (by decide +kernel)]; kernel_rfl) | (rw [if_neg (by decide +kernel)]; exact ⟨rfl, rfl⟩))
    (fun os started H enc _ => again_lifted os started H enc)
