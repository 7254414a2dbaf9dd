
/- 'MarkStill' answers true: nothing being changed, just what is reached is marked in the end, within as many units as there are objects. No conditions. -/
import Derived.Test.YtdlplljmgkfkgaaMa
set_option maxRecDepth 100000
namespace Go.Proofs.Ytdlplljmgkfkgaa
open Go Go.Lw Go.Wd Go.Am Go.Tb Go.Hm Go.ChangeShapes Go.WideShapes Go.ChangeAt Go.RowKit

set_option maxHeartbeats 4000000 in
theorem still_c (W : World) {p p1 : Option Addr} {l c l1 c1 : Nat} {xs : List Value} {zs : List Int} (hx : ArgR W dks9 p l xs) (hz : ArgI W .i64 p1 l1 zs) :
    Calls Try.prog 7 #[.slice p l c, .slice p1 l1 c1] W (Ret (.bool true) (Go.RowKit.Below W.heap.size W)) := by
  have h0 : Sat [Ro W (Mem.of W)] W := Sat.ofBase W
  refine S_law10_MarkStill_ok _ _ _ _ _ _ _ _ ?_
  unfold S_law10_MarkStill
  refine (awake10_c h0).mono ?_
  rintro e w0 ⟨rfl, h1⟩
  refine ⟨_, rfl, cond_f rfl ?_⟩
  by_cases hl : l ≤ 300
  rotate_left
  · exact cond_t (by simp; omega) ⟨rfl, h1.roBelow 0 rfl (Ext.refl _)⟩
  refine cond_f (by simp; omega) ?_
  refine (made10_c h1 (Ext.refl _) hx hl).mono ?_
  rintro e w1 ⟨b, S, H0, hs, r, om, tp, tc, rfl, hE, hM, hT, hP0, hs3, h2⟩
  refine ⟨_, _, _, _, _, _, _, _, _, _, _, _, _, _, _, _, _, _, _, _, _, _, _, _, rfl, ?_⟩
  refine NewC.ofRow h2 fun b0 w2 h3 => ?_
  refine stRh (r := r) rfl h3 0 rfl fun w3 h4 => ?_
  refine cond_f rfl ?_
  have h5 : Sat (HeapH H0 .nilIface b :: [Ro W S, Row b0 r.cells 49]) w3 := (Sat.pull h4 2 rfl).pull 2 rfl
  have hm0 := sat_wf h5
  refine (mnew_c h5).mono ?_
  rintro e w4 ⟨mb, rfl, h6⟩
  refine ⟨_, rfl, ?_⟩
  refine (mstart_c h6 hP0.op).mono ?_
  rintro e w5 ⟨rfl, h7⟩
  refine ⟨_, rfl, cond_f rfl ?_⟩
  clear h0 h1 h2 h3 h4 h5 h6
  obtain ⟨hbw, hbs, hbp⟩ := began_ok hm0
  have hI := Inv.began hm0
  have hO := Only.began hm0
  have hpot : pot (began H0) = hs.length := by rw [hbp, hP0.objs]
  have hk := hbs
  generalize began H0 = s0 at h7 hI hO hk hpot hbw
  clear hbs hbp
  intro k0 hk0
  have fin : ∀ (m : Nat) w, (units m s0).2 = [] → m ≤ 8 * (hs.length + 1) → Sat [HeapH (units m s0).1 (mkW mb) b, MkH b mb (units m s0).2 true, Ro W S, Row b0 r.cells 49] w → k0 m true w := by
    intro m w hdone hm8 h3
    refine hk0 _ _ _ ?_
    unfold S_law10_MarkStill_j1
    refine cond_f rfl ?_
    rw [wrapI64 (n := (hs.length : Int) + 1) (by omega) (by omega), wrapI64 (by omega) (by omega)]
    refine cond_f (decide_eq_false (by omega)) ?_
    have hI2 := hI.units m
    have hO2 := Only.units hI hO m
    obtain ⟨_, hs2, _⟩ := units_ok hI.wf m
    have hk2 := hk.trans hs2
    have hmk := marked_iff hm0 hI2 hO2 hk2 hdone
    generalize units m s0 = s1 at h3 hI2 hO2 hk2 hmk
    refine ⟨fun j w => ∃ g : Nat, j = g ∧ g ≤ hs.length ∧ Sat [HeapH s1.1 (mkW mb) b, MkH b mb s1.2 true, Ro W S, Row b0 r.cells 49] w, fun j _ => (hs.length - j).toNat, ⟨0, rfl, by omega, h3⟩, ?_⟩
    clear h3
    rintro j w4 ⟨g, rfl, hg, h4⟩
    unfold S_law10_MarkStill_l1
    by_cases hgl : g < hs.length
    rotate_left
    · refine cond_f (by simp; omega) ?_
      have h5 := h4.drew
      generalize w4.drew = w5 at h5
      clear h4
      refine ⟨fun w => ∃ (L : List HP) (i : Nat), L[i]? = some (Row b0 r.cells 49) ∧ Sat L w, ⟨_, 3, rfl, h5⟩, ?_⟩
      refine (mstop_c h5).mono ?_
      intro e w6 h6
      rw [if_pos rfl] at h6
      obtain ⟨rfl, h6⟩ := h6
      refine ⟨_, rfl, ⟨_, 3, rfl, h6⟩, cond_t rfl ?_⟩
      refine qRh (r := r) (b := b0) (T := 49) (fun w ⟨L, i, hi, h⟩ => ⟨_, h.pull i hi⟩) ?_
      have h7 : Sat (HeapH s1.1 .nilIface b :: Ro W S :: [MkH b mb [] false, Row b0 r.cells 49]) w6 := (Sat.pull h6 2 rfl).p1
      refine (graph_c h7).mono ?_
      rintro e w7 ⟨gp, gc, np, nc, S2, gs, rfl, hE2, hR, hN, h8⟩
      refine ⟨_, _, _, _, _, _, rfl, ⟨_, 3, rfl, h8⟩, ?_⟩
      refine (differ_c (r := r) (sk_graphR hk2) (sk_graphN hk2) hm0 (Sat.p1 h8) (hM.mono hE2) (by omega) hR hN).mono ?_
      rintro e w8 ⟨rfl, S3, hE3, h9⟩
      exact ⟨_, rfl, rfl, h9.roBelow 0 rfl (hE.trans (hE2.trans hE3))⟩
    refine cond_t (by simp; omega) ?_
    have h5 := h4.drew
    generalize w4.drew = w5 at h5
    clear h4
    have hxg : hs[g]? = some hs[g] := List.getElem?_eq_getElem hgl
    generalize hs[g] = x at hxg
    obtain ⟨a, ha, hra⟩ := hT.reads g (.int .u64 (x : Int)) (by unfold words; rw [List.getElem?_map, hxg]; rfl)
    subst ha
    have ix : ∀ {K : Addr → Prop}, K (a.add (g * 1)) → IdxC (some a) hs.length (g : Int) 1 K := fun h => ⟨by omega, by omega, by rw [Int.toNat_natCast]; exact h⟩
    have rdx : ∀ w, Has S w → w.cell? (a.add (g * 1)) = some (.int .u64 (x : Int)) := fun w hw => by rw [Nat.mul_one]; exact hra w hw
    have hxl : (H0.look x).isSome = true := (hM.live x).1 (List.mem_of_getElem? hxg)
    have hxu : x < 18446744073709551616 := by
      obtain ⟨o, ho⟩ := Option.isSome_iff_exists.1 hxl
      exact look_lt hm0 ho
    refine ⟨fun w => ∃ (L : List HP) (i : Nat), L[i]? = some (Row b0 r.cells 49) ∧ Has S w ∧ Sat L w, ⟨_, 3, rfl, h5.has 2 rfl, h5⟩, ix ⟨x, fun w ⟨L, i, hi, hw, h⟩ => LdI.at (rdx w hw) rfl, ?_⟩⟩
    refine qRh (r := r) (b := b0) (T := 49) (fun w ⟨L, i, hi, _, h⟩ => ⟨_, h.pull i hi⟩) ?_
    refine ix ⟨x, fun w ⟨L, i, hi, hw, h⟩ => LdI.at (rdx w hw) rfl, ?_⟩
    refine (reached9_c (r := r) hm0 h5 2 rfl hM (by omega) x).mono ?_
    rintro e w6 ⟨rfl, h6⟩
    refine ⟨_, rfl, ⟨_, 3, rfl, h6.has 2 rfl, h6⟩, ?_⟩
    refine (is_m h6 hxu (decide (x ∈ order H0))).mono ?_
    rintro e w7 ⟨rfl, h7⟩
    refine ⟨_, rfl, ?_⟩
    rw [hk2.isSome, hxl, hmk]
    refine cond_f (by simp) ?_
    rw [wrapI64 (by omega) (by omega)]
    exact ⟨⟨g + 1, by omega, by omega, h7⟩, by first | omega | (dsimp only; omega)⟩
  refine ⟨fun un dn i w => ∃ q m : Nat, i = q ∧ un = m ∧ q ≤ m ∧ (dn = false → pot (units m s0) + m = hs.length) ∧ (dn = true → (units m s0).2 = [] ∧ m ≤ 8 * (hs.length + 1)) ∧
      Sat [HeapH (units m s0).1 (mkW mb) b, MkH b mb (units m s0).2 true, Ro W S, Row b0 r.cells 49] w, fun _ _ i _ => (400 - i).toNat, ⟨0, 0, rfl, rfl, by omega, fun _ => hpot, fun h => (by cases h), h7⟩, ?_⟩
  clear h7
  rintro un dn i w6 ⟨q, m, rfl, rfl, hqm, hn, hd, h7⟩
  unfold S_law10_MarkStill_l0
  cases dn with
  | true =>
    obtain ⟨a1, a2⟩ := hd rfl
    by_cases hq : q < 400
    · exact cond_t (by simp; omega) (cond_f rfl (fin m _ a1 a2 h7))
    · exact cond_f (by simp; omega) (fin m _ a1 a2 h7)
  | false =>
    have hn := hn rfl
    refine cond_t (by simp; omega) (cond_t rfl ?_)
    intro k1 hk1
    have go : ∀ n : Nat, 1 ≤ n → n ≤ 8 → k1 (n : Int) w6 := by
      intro n hn1 hn8
      refine hk1 _ _ ?_
      unfold S_law10_MarkStill_j0
      have hIq := hI.units m
      refine (mstep_c h7 (n := n) (by omega) (by omega) (by have : pot ((units m s0).1, (units m s0).2) = pot (units m s0) := rfl; omega) (inv_small hIq)).mono ?_
      rintro e w7 ⟨rfl, h8⟩
      have he : units n ((units m s0).1, (units m s0).2) = units (m + n) s0 := by rw [units_add]
      rw [he] at h8 ⊢
      refine ⟨_, _, rfl, cond_f rfl ?_⟩
      refine (mwaiting_c h8).mono ?_
      rintro e w8 ⟨rfl, rfl⟩
      refine ⟨_, rfl, ?_⟩
      obtain ⟨_, _, hp⟩ := units_ok (s := units m s0) hIq.wf n
      rw [show units n (units m s0) = units (m + n) s0 from he] at hp
      refine cond_f ?_ ?_
      · by_cases h : (units (m + n) s0).2 = [] <;> simp [h]
      rw [wrapI64 (n := (m : Int) + n) (by omega) (by omega), wrapI64 (by omega) (by omega)]
      refine ⟨⟨q + 1, m + n, by omega, by omega, by omega, fun h => ?_, fun h => ⟨of_decide_eq_true h, by omega⟩, h8⟩, by first | omega | (dsimp only; omega)⟩
      have := hp (of_decide_eq_false h)
      omega
    by_cases hl1 : 0 < l1
    rotate_left
    · exact cond_f (by simp; omega) (go 1 (by omega) (by omega))
    refine cond_t (by simp; omega) ?_
    obtain ⟨a, rfl⟩ := hz.some hl1
    have hzl := hz.len
    have hmod : Int.tmod (q : Int) (l1 : Int) = ((q % l1 : Nat) : Int) := by rw [Int.tmod_eq_emod_of_nonneg (by omega)]; omega
    have hml : q % l1 < l1 := Nat.mod_lt _ hl1
    rw [hmod]
    generalize q % l1 = g at hml
    have hzq : zs[g]? = some zs[g] := List.getElem?_eq_getElem (by omega)
    have hrd := hz.reads a rfl g (.int .i64 zs[g]) (by rw [List.getElem?_map, hzq]; rfl)
    refine ⟨by omega, by omega, by omega, ?_⟩
    rw [Int.toNat_natCast]
    refine LdI.at (((RdS.base (by rw [Nat.mul_one]; exact hrd)).mono hE) _ (h7.has 2 rfl)) ?_
    obtain ⟨x, hx7, hxe⟩ := bAnd_le zs[g] 7 (by omega)
    have hxe : bAnd .i64 zs[g] 7 = (x : Int) := hxe
    rw [hxe, show IntKind.wrap .i64 (1 + (x : Int)) = ((x + 1 : Nat) : Int) by rw [wrapI64 (by omega) (by omega)]; omega]
    exact go (x + 1) (by omega) (by omega)

set_option maxRecDepth 100000 in
theorem still_lifted (os : Os) (started : os.Started) (H : Type) (enc : TypeId × Value → H) :
    ReturnsInHanded {} Try.checked os 7 .any (Rows.markStillSpec.pre6 enc Try.prog Try.f7 Rows.markStillRow.domain false) (Rows.markStillSpec.post enc Try.prog Try.f7 false true false false) := by
  refine returnsInHanded_of_change (C := Try.checked) own started (by kernel_rfl) Try.func7
    (ChangeSpec.witness6 (enc := enc) (C := Try.checked) false ⟨#[], #[.slice none 0 0, .slice none 0 0], []⟩ 8 (by kernel_rfl) (by kernel_rfl) (by kernel_rfl) (by kernel_rfl)) ?_
  intro W base args ds gs before hval hW hcnd _
  have hval : ∀ (j : Nat) t v, Try.f7.params[j]? = some t → args[j]? = some v → Value.okWide Try.prog W .any base t v := hval
  have hW' : DataW.Whole enc Try.prog Try.f7.params.toList Rows.markStillSpec.vars false W args.toList ds gs before := hW
  obtain ⟨p, q, hA, hV, _⟩ := hW'
  rw [Try.params7] at hA hval
  obtain ⟨v0, v1, d0, d1, p0, p1, rfl, rfl, rfl, h0, h1⟩ := trodAll_two hA
  obtain ⟨a0, l0, c0, rfl⟩ := okWide_slice Try.underlying44 (hval 0 44 v0 rfl rfl)
  obtain ⟨⟨xs0, hx0⟩, _⟩ := argRows (ks := dks9) Try.underlying44 Try.underlying57 (by kernel_rfl) (by kernel_rfl) (by kernel_rfl) h0
  obtain ⟨a1, l1, c1, rfl⟩ := okWide_slice Try.underlying45 (hval 1 45 v1 rfl rfl)
  obtain ⟨zs1, hz1⟩ := argInts Try.underlying45 Try.underlying3 (by kernel_rfl) h1
  refine (still_c W hx0 hz1).mono fun e W' ⟨he, hs⟩ => ?_
  exact ⟨_, he, law_post (tb := 4) laidOut (by decide +kernel) (by kernel_rfl) Try.underlying4 rfl hW ⟨rfl, rfl, rfl⟩ hs⟩

theorem still_holds : Rows.MarkStillSaid :=
  OpenClaim.holds_of_wide 7 Try.f7 rfl rfl rfl rfl rfl rfl rfl ⟨rfl, rfl, rfl, rfl, rfl⟩ rfl rfl rfl rfl rfl (by kernel_rfl) Try.func7 (by kernel_rfl)
    (of_decide_eq_true (by kernel_rfl)) (by unfold Func.isWrapper; first | (rw [if_pos (by decide +kernel)]; kernel_rfl) | (rw [if_neg (by decide +kernel)]; exact ⟨rfl, rfl⟩))
    (fun os started H enc _ => still_lifted os started H enc)
