
/- 'HeapKnown' answers true: chapter 9's examples. No conditions. -/
import Derived.Test.YtagnepjmgkoboaaGk
set_option maxRecDepth 100000
namespace Go.Proofs.Ytagnepjmgkoboaa
open Go Go.Lw Go.Wd Go.Am Go.Tb Go.Hm Go.ChangeShapes Go.WideShapes Go.ChangeAt Go.RowKit

def kn0 : Hp := Hp.new 100 10
def knx : Nat := nextH kn0.t
def kn1 : Hp := kn0.made 1 1 2
def kny : Nat := nextH kn1.t
def kn2 : Hp := kn1.made 2 0 1
def kn3 : Hp := if Hp.refE kn2 knx 0 kny = 0 then Hp.setRef kn2 knx 0 kny else kn2
def kn4 : Hp := if Hp.rootE kn3 3 knx = 0 then kn3.rooted (Int.toNat 3) knx else kn3
theorem kn_refE : Hp.refE kn2 knx 0 kny = 0 := by decide +kernel
theorem kn_rootE : Hp.rootE kn3 3 knx = 0 := by decide +kernel
theorem kn_R : graphR kn4 = [-1, -1, -1, 0, -1, -1, -1, -1, -1, -1, -1, -1, -1, -1, -1, -1] := by decide +kernel
theorem kn_N : graphN kn4 = [⟨1, [1], [0]⟩, ⟨2, [], [0]⟩] := by decide +kernel
theorem kn_len : (order kn4).length = 2 := by decide +kernel
theorem kn_words : wordsOf kn4 (order kn4) = 5 := by decide +kernel
theorem kn_ref : Hp.ref kn4 kny 0 = (0, 1) := by decide +kernel
theorem kn_no : Hp.refE kn4 knx 0 99 = 6 := by decide +kernel
theorem kn_make : Hp.makeE kn4 0 0 0 = 1 := by decide +kernel
theorem kn_xu : knx < 18446744073709551616 := by decide +kernel
theorem kn_yu : kny < 18446744073709551616 := by decide +kernel
theorem kn_op : kn4.m.op = false := by decide +kernel
theorem kn_roots : ∀ x ∈ kn4.roots, kn4.may x = true := by decide +kernel
theorem kn_refs : ∀ x ∈ [knx, kny], ∀ y ∈ refsOf kn4 x, kn4.may y = true := by decide +kernel
theorem kn_look (h0 : kn0.WF) (h1 : kn1.WF) (h2 : kn2.WF) {z : Nat} {o : Ob} (h : kn4.look z = some o) : z = knx ∨ z = kny := by
  have e4 : kn4 = kn3.rooted (Int.toNat 3) knx := by unfold kn4; rw [if_pos kn_rootE]
  have e3 : kn3 = Hp.setRef kn2 knx 0 kny := by unfold kn3; rw [if_pos kn_refE]
  rw [e4, rooted_look, e3] at h
  have hl0 : ¬ kn0.t.full := by unfold Tab.full; decide +kernel
  have hl1 : ¬ kn1.t.full := by unfold Tab.full; decide +kernel
  have h1l : kn1.look knx = some (Fresh 1 1 2 kn0.t.nextSlot) := (made_look h0 hl0 knx).trans (if_pos rfl)
  have h2l : kn2.look knx = some (Fresh 1 1 2 kn0.t.nextSlot) := (made_look h1 hl1 knx).trans (by rw [if_neg (by decide +kernel)]; exact h1l)
  simp only [Hp.setRef, h2l] at h
  rw [set_look h2 h2l (by simp [Ob.put])] at h
  by_cases a : z = knx
  · exact .inl a
  rw [if_neg a] at h
  have h := (made_look h1 hl1 (tag := 2) (refs := 0) (size := 1) z).symm.trans h
  by_cases c : z = nextH kn1.t
  · exact .inr c
  rw [if_neg c] at h
  have h := (made_look h0 hl0 (tag := 1) (refs := 1) (size := 2) z).symm.trans h
  rw [if_neg (show z ≠ nextH kn0.t from a)] at h
  have := new_look (n := 100) (k := 10) (x := z)
  rw [show kn0 = Hp.new 100 10 from rfl, this] at h
  cases h
theorem kn_closed (h0 : kn0.WF) (h1 : kn1.WF) (h2 : kn2.WF) : kn4.Closed := by
  refine ⟨kn_roots, fun x y hy => ?_⟩
  cases hl : kn4.look x with
  | none => unfold refsOf at hy; rw [hl] at hy; cases hy
  | some o =>
    rcases kn_look h0 h1 h2 hl with rfl | rfl
    · exact kn_refs _ (by simp) y hy
    · exact kn_refs _ (by simp) y hy

theorem known_c {W w : World} (hs : Sat [Base W] w) : Calls Try.prog 7 #[] w (fun e w' => e = .returned (.bool true) ∧ ∃ S, Ext (Mem.of W) S ∧ Sat [Ro W S] w') := by
  refine S_law9_HeapKnown_ok _ _ ?_
  unfold S_law9_HeapKnown
  refine (awake_c hs).mono ?_
  rintro e w0 ⟨rfl, s0⟩
  refine ⟨_, rfl, cond_f rfl ?_⟩
  refine (fresh_c (n := 100) (k := 10) (by omega) (by omega) (by omega) (by omega) s0).mono ?_
  rintro e w1 ⟨b, rfl, s1⟩
  have s1 : Sat [HeapH kn0 .nilIface b, Base W] w1 := s1
  have hm0 := sat_wf s1
  refine ⟨_, rfl, ?_⟩
  refine (mk_c s1 (tag := 1) (refs := 1) (size := 2) (by decide +kernel)).mono ?_
  rintro e w2 ⟨rfl, s2⟩
  have s2 : Sat [HeapH kn1 .nilIface b, Base W] w2 := s2
  have hm1 := sat_wf s2
  refine ⟨_, _, rfl, ?_⟩
  refine (mk_c s2 (tag := 2) (refs := 0) (size := 1) (by decide +kernel)).mono ?_
  rintro e w3 ⟨rfl, s3⟩
  have s3 : Sat [HeapH kn2 .nilIface b, Base W] w3 := s3
  have hm2 := sat_wf s3
  refine ⟨_, _, rfl, ?_⟩
  refine (sref_c s3 (x := knx) kn_xu 0 (y := kny) kn_yu).mono ?_
  rintro e w4 ⟨rfl, s4⟩
  have s4 : Sat [HeapH kn3 .nilIface b, Base W] w4 := s4
  refine ⟨_, rfl, ?_⟩
  refine (sroot_c s4 3 (y := knx) kn_xu).mono ?_
  rintro e w5 ⟨rfl, s5⟩
  have s5 : Sat [HeapH kn4 .nilIface b, Ro W (Mem.of W)] w5 := s5
  rw [kn_refE, kn_rootE]
  have hcl := kn_closed hm0 hm1 hm2
  refine ⟨_, rfl, ?_⟩
  refine (graph_c s5).mono ?_
  rintro e w6 ⟨gp, gc, np, nc, S, om, rfl, hE, hR, hN, s6⟩
  rw [kn_R] at hR
  rw [kn_N] at hN
  rw [kn_len] at hN ⊢
  refine ⟨_, _, _, _, _, _, rfl, ?_⟩
  refine NewC.ofRow s6 fun g w7 s7 => ?_
  refine st2 s7 0 rfl fun w8 s8 => ?_
  refine (hlive_c (Sat.pull s8 1 rfl)).mono ?_
  rintro e w9 ⟨rfl, s9⟩
  rw [kn_len, kn_words]
  refine ⟨_, _, rfl, ?_⟩
  refine (href_c s9 (x := kny) kn_yu 0).mono ?_
  rintro e w10 ⟨rfl, s10⟩
  rw [kn_ref]
  refine ⟨_, _, rfl, ?_⟩
  refine (sref_c s10 (x := knx) kn_xu 0 (y := 99) (by omega)).mono ?_
  rintro e w11 ⟨rfl, s11⟩
  rw [kn_no] at s11 ⊢
  rw [if_neg (by decide)] at s11
  refine ⟨_, rfl, ?_⟩
  refine (make_no s11 (tag := 0) (refs := 0) (size := 0) (by rw [kn_make]; decide)).mono ?_
  rintro e w12 ⟨rfl, s12⟩
  rw [kn_make]
  refine ⟨_, _, rfl, ?_⟩
  have hw := s12.has 2 rfl
  have g0 : ∀ {K : Option Addr → Nat → Nat → Prop}, K gp 16 gc → LdS w12 ⟨g, 0, none⟩ K := fun h => LdS.of s12 1 rfl (off := 0) rfl rfl h
  have g1 : ∀ {K : Option Addr → Nat → Nat → Prop}, K np 2 nc → LdS w12 (Addr.add ⟨g, 0, none⟩ 1) K := fun h => LdS.of s12 1 rfl (off := 1) rfl (add_mk _ _ _) h
  refine cond_f rfl (cond_f rfl (g0 (cond_f rfl (g0 ?_))))
  refine rd_int hR hw (q := 3) rfl rfl (cond_f rfl (g0 ?_))
  refine rd_int hR hw (q := 0) rfl rfl (cond_f rfl (g1 (cond_f rfl (g1 ?_))))
  refine rd_node hN hw (q := 0) rfl rfl fun a x hx hxr c1 c2 c3 => LdS.cell c2 (cond_f rfl (g1 ?_))
  refine rd_node hN hw (q := 1) rfl rfl fun a1 x1 hx1 hxr1 d1 d2 d3 => LdS.cell d3 (cond_f rfl (g1 ?_))
  clear c1 c2 c3
  refine rd_node hN hw (q := 0) rfl rfl fun a x hx hxr c1 c2 c3 => LdI.cell c1 (cond_t rfl (g1 ?_))
  refine rd_node hN hw (q := 0) rfl rfl fun a x hx hxr c1 c2 c3 => LdS.cell c2 ?_
  have hr := hxr.refs
  rw [hx] at hr
  refine rd_int hr hw (q := 0) rfl rfl (cond_t rfl (g1 ?_))
  refine rd_node hN hw (q := 0) rfl rfl fun a x hx hxr c1 c2 c3 => LdS.cell c3 (cond_t rfl (g1 ?_))
  refine rd_node hN hw (q := 1) rfl rfl fun a x hx hxr c1 c2 c3 => LdI.cell c1 (cond_t rfl ?_)
  refine cond_t rfl (cond_t rfl (cond_t rfl (cond_t rfl (cond_t rfl ?_))))
  refine (check_c s12 hcl kn_op).mono ?_
  rintro e w13 ⟨rfl, s13⟩
  exact ⟨_, rfl, rfl, S, hE, s13.drop.drop⟩

set_option maxRecDepth 100000 in
theorem known_lifted (os : Os) (started : os.Started) (H : Type) (enc : TypeId × Value → H) :
    ReturnsInHanded {} Try.checked os 7 .any (Rows.heapKnownSpec.pre6 enc Try.prog Try.f7 Rows.heapKnownRow.domain false) (Rows.heapKnownSpec.post enc Try.prog Try.f7 false true false false) := by
  refine returnsInHanded_of_change (C := Try.checked) own started (by kernel_rfl) Try.func7
    (ChangeSpec.witness6 (enc := enc) (C := Try.checked) false ⟨#[], #[], []⟩ 8 (by kernel_rfl) (by kernel_rfl) (by kernel_rfl) (by kernel_rfl)) ?_
  intro W base args ds gs before hval hW hcnd _
  have hW' : DataW.Whole enc Try.prog Try.f7.params.toList Rows.heapKnownSpec.vars false W args.toList ds gs before := hW
  obtain ⟨p, q, hA, hV, _⟩ := hW'
  rw [Try.params7] at hA
  obtain ⟨hargs, rfl, rfl⟩ := trodAll_nil hA
  obtain rfl : args = #[] := by cases args; simp_all
  refine (known_c (Sat.ofBase W)).mono fun e W' ⟨he, S, hE, hs⟩ => ?_
  exact ⟨_, he, law_post (tb := 4) laidOut (by decide +kernel) (by kernel_rfl) Try.underlying4 rfl hW ⟨rfl, rfl, rfl⟩ (hs.roBelow 0 rfl hE)⟩

theorem known_holds : Rows.HeapKnownSaid :=
  OpenClaim.holds_of_wide 7 Try.f7 rfl rfl rfl rfl rfl rfl rfl ⟨rfl, rfl, rfl, rfl, rfl⟩ rfl rfl rfl rfl rfl (by kernel_rfl) Try.func7 (by kernel_rfl)
    (of_decide_eq_true (by kernel_rfl)) (by unfold Func.isWrapper; first | (rw [if_pos (by decide +kernel)]; kernel_rfl) | (rw [if_neg (by decide +kernel)]; exact ⟨rfl, rfl⟩))
    (fun os started H enc _ => known_lifted os started H enc)
end Go.Proofs.Ytagnepjmgkoboaa
