
/- 'Apart' answers 0; two heaps that are built in other orders: data. -/
import Derived.Test.YtagnepjmgkoboaaGi
import Derived.Test.YtagnepjmgkoboaaCl
set_option maxRecDepth 100000
namespace Go.Proofs.Ytagnepjmgkoboaa
open Go Go.Lw Go.Wd Go.Am Go.Tb Go.Hm
section
variable {w W : World} {S : Mem} {L : List HP}
theorem apart_c {A B : Hp} {gp np gp2 np2 : Option Addr} {gc nc gc2 nc2 : Nat} {gs gs2 : List (Gn × Gq)} (hm : A.WF) (hR2 : graphR B = graphR A) (hN2 : graphN B = graphN A) (hS : Sat (Ro W S :: L) w)
    (hR : CRs S 1 (ints (graphR A)) gp 16 gc) (hN : NRs S (graphN A) gs np (order A).length nc) (hR3 : CRs S 1 (ints (graphR B)) gp2 16 gc2) (hN3 : NRs S (graphN B) gs2 np2 (order B).length nc2) :
    Calls Try.prog 29 #[.agg #[.slice gp 16 gc, .slice np (order A).length nc], .agg #[.slice gp2 16 gc2, .slice np2 (order B).length nc2]] w (Ret (.int .i64 0) (Sat (Ro W S :: L))) := by
  have hlen : (order B).length = (order A).length := by have := congrArg List.length hN2; simpa [graphN] using this
  rw [hR2] at hR3
  rw [hN2] at hN3
  rw [hlen] at hN3 ⊢
  have hmost := hm.tab.most
  have hol := (order_met (H := A)).len hm
  have hgl : (graphR A).length = 16 := by simp [graphR, hm.rlen]
  have hgn : (graphN A).length = (order A).length := by simp [graphN]
  refine S_law9_Apart_ok _ _ _ _ _ _ _ _ _ _ _ _ _ _ ?_
  unfold S_law9_Apart
  refine NewC.ofRow hS fun b2 w0 s0 => ?_
  refine NewC.ofRow s0 fun b3 w1 s1 => ?_
  have s2 : Sat (Row b3 [.slice gp2 16 gc2, .slice np2 (order A).length nc2] 67 :: Row b2 [.slice gp 16 gc, .slice np (order A).length nc] 67 :: Ro W S :: L) w1 := s1
  refine LdS.of s2 1 rfl (off := 0) rfl rfl (LdS.of s2 0 rfl (off := 0) rfl rfl (cond_f rfl ?_))
  refine LdS.of s2 1 rfl (off := 1) rfl (add_mk _ _ _) (LdS.of s2 0 rfl (off := 1) rfl (add_mk _ _ _) (cond_f (by simp) ?_))
  refine ⟨fun i w => ∃ q : Nat, i = q ∧ q ≤ 16 ∧ Sat (Row b3 [.slice gp2 16 gc2, .slice np2 (order A).length nc2] 67 :: Row b2 [.slice gp 16 gc, .slice np (order A).length nc] 67 :: Ro W S :: L) w, fun i _ => (16 - i).toNat, ⟨0, rfl, by omega, s2⟩, ?_⟩
  clear s0 s1 s2 hS
  rintro i w3 ⟨q, rfl, hq, s2⟩
  unfold S_law9_Apart_l1
  refine LdS.of s2 1 rfl (off := 0) rfl rfl ?_
  by_cases hql : q < 16
  · refine cond_t (by simp; omega) ?_
    have s3 := s2.drew
    have hw := s3.has 2 rfl
    have hx : (graphR A)[q]? = some ((graphR A)[q]'(by omega)) := List.getElem?_eq_getElem (by omega)
    refine LdS.of s3 1 rfl (off := 0) rfl rfl (rd_int hR hw hx rfl ?_)
    refine LdS.of s3 0 rfl (off := 0) rfl rfl (rd_int hR3 hw hx rfl ?_)
    refine cond_f (by simp) ?_
    rw [wrapI64 (by omega) (by omega)]
    exact ⟨⟨q + 1, by omega, by omega, s3⟩, by first | omega | (dsimp only; omega)⟩
  refine cond_f (by simp; omega) ?_
  refine ⟨fun i w => ∃ q : Nat, i = q ∧ q ≤ (order A).length ∧ Sat (Row b3 [.slice gp2 16 gc2, .slice np2 (order A).length nc2] 67 :: Row b2 [.slice gp 16 gc, .slice np (order A).length nc] 67 :: Ro W S :: L) w, fun i _ => ((order A).length - i).toNat, ⟨0, rfl, by omega, s2⟩, ?_⟩
  clear s2
  rintro i w4 ⟨q, rfl, hq, s2⟩
  unfold S_law9_Apart_l0
  refine LdS.of s2 1 rfl (off := 1) rfl (add_mk _ _ _) ?_
  by_cases hql : q < (order A).length
  · refine cond_t (by simp; omega) ?_
    have s3 := s2.drew
    generalize w4.drew = w5 at s3
    have hw := s3.has 2 rfl
    have hx : (graphN A)[q]? = some ((graphN A)[q]'(by omega)) := List.getElem?_eq_getElem (by omega)
    generalize (graphN A)[q]'(by omega) = n at hx
    refine LdS.of s3 1 rfl (off := 1) rfl (add_mk _ _ _) ?_
    refine rd_node hN hw hx rfl fun a x hx1 hxr c1 c2 c3 => LdI.cell c1 (LdS.cell c2 (LdS.cell c3 ?_))
    refine LdS.of s3 0 rfl (off := 1) rfl (add_mk _ _ _) ?_
    refine rd_node hN3 hw hx rfl fun a y hy1 hyr d1 d2 d3 => LdI.cell d1 ?_
    refine LdS.of s3 0 rfl (off := 1) rfl (add_mk _ _ _) ?_
    refine rd_node hN3 hw hx rfl fun a y2 hy2 hyr2 d1 d2 d3 => LdS.cell d2 ?_
    refine LdS.of s3 0 rfl (off := 1) rfl (add_mk _ _ _) ?_
    refine rd_node hN3 hw hx rfl fun a y3 hy3 hyr3 d1 d2 d3 => LdS.cell d3 ?_
    have e1 := hxr.refs; have e2 := hxr.words; have e3 := hyr2.refs; have e4 := hyr3.words
    rw [hx1] at e1 e2
    rw [hy2] at e3
    rw [hy3] at e4
    refine (node_c s3 2 rfl e1 e2 e3 e4).mono ?_
    rintro e w6 ⟨rfl, s4⟩
    refine ⟨_, rfl, cond_f rfl ?_⟩
    rw [wrapI64 (by omega) (by omega)]
    exact ⟨⟨q + 1, by omega, by omega, s4⟩, by first | omega | (dsimp only; omega)⟩
  · exact cond_f (by simp; omega) ⟨rfl, s2.drop.drop⟩
end

/-! First the objects are made. -/
structure P1 (n : Nat) (m : Nat → Nat) (D : Nat → Prop) (X : List Nat) (H : Hp) (c : Nat) : Prop where
  wf : H.WF
  len : X.length = n
  u64 : ∀ x ∈ X, x < 18446744073709551616
  inj : ∀ i j, i < n → j < n → X.getD i 0 = X.getD j 0 → X.getD i 0 ≠ 0 → i = j
  did : ∀ i, i < n → (X.getD i 0 ≠ 0 ↔ D i)
  ob : ∀ i, i < n → X.getD i 0 ≠ 0 → ∃ s, H.look (X.getD i 0) = some (Fresh (1 + i) (m i) (m i + 1) s)
  cnt : H.t.count = c
  tn : H.t.n = 256
  mn : H.m.n = 4096
  op : H.m.op = false
  top : H.m.top ≤ 10 * c
  closed : H.Closed
  roots : H.roots = List.replicate 16 0
theorem getD_set {X : List Nat} {k i x : Nat} (hk : k < X.length) : (X.set k x).getD i 0 = if i = k then x else X.getD i 0 := by
  simp only [List.getD_eq_getElem?_getD, List.getElem?_set]
  by_cases e : i = k
  · subst e; simp [hk]
  · rw [if_neg (fun h => e h.symm), if_neg e]
theorem P1.makes {n : Nat} {m : Nat → Nat} {D : Nat → Prop} {X : List Nat} {H : Hp} {c k : Nat} (h : P1 n m D X H c) (hc : c < 40) (hk : k < 40) (hmk : m k ≤ 8) : Hp.makeE H (1 + k : Nat) (m k : Nat) (m k + 1 : Nat) = 0 := by
  have := h.top; have := h.mn; have := h.cnt; have := h.tn
  exact makeE_of (by omega) (by omega) (by omega) (by omega) (by omega)
theorem P1.step {n : Nat} {m : Nat → Nat} {D D' : Nat → Prop} {X : List Nat} {H : Hp} {c k : Nat} (h : P1 n m D X H c) (hc : c < 40) (hk : k < n) (hn : n ≤ 40) (hmk : m k ≤ 8) (hD : ¬ D k) (hD' : ∀ i, D' i ↔ (D i ∨ i = k)) :
    P1 n m D' (X.set k (nextH H.t)) (H.made (1 + k) (m k) (m k + 1)) (c + 1) := by
  have hct := h.cnt; have htn := h.tn; have hmn := h.mn; have htop := h.top
  have hnf := not_full h.wf (by omega)
  have hlk := made_look h.wf (tag := 1 + k) (refs := m k) (size := m k + 1) hnf
  have hnone := next_look h.wf hnf
  have hpos := next_pos H.t
  have hu := next_u64 h.wf hnf
  have hwf := made_wf h.wf (tag := 1 + k) (refs := m k) (size := m k + 1) (by omega) (by omega) (by omega) hnf (by omega)
  have hkl : k < X.length := by rw [h.len]; exact hk
  have hclo := closed_made h.wf h.closed hnf (tag := 1 + k) (refs := m k) (size := m k + 1)
  have hcm := count_make h.wf.tab (a := H.m.top)
  have htop2 := made_top h.wf (tag := 1 + k) (refs := m k) (size := m k + 1)
  have hop := h.op
  have em : (H.made (1 + k) (m k) (m k + 1)).m = ⟨H.m.n, H.m.low ++ [Fresh (1 + k) (m k) (m k + 1) H.t.nextSlot], H.m.high, H.m.hi, false⟩ := by
    show H.m.alloc _ = _
    unfold Am.alloc
    cases hop2 : H.m.op with
    | true => rw [hop2] at hop; cases hop
    | false => rfl
  have hnew : ∀ i, i < n → X.getD i 0 ≠ 0 → X.getD i 0 ≠ nextH H.t := fun i hi h0 e => by
    obtain ⟨s, hs⟩ := h.ob i hi h0
    rw [e, hnone] at hs; cases hs
  have hX0 : X.getD k 0 = 0 := by
    by_cases e : X.getD k 0 = 0
    · exact e
    · exact absurd ((h.did k hk).1 e) hD
  generalize nextH H.t = x at *
  refine ⟨hwf, by rw [List.length_set]; exact h.len, fun y hy => ?_, fun i j hi hj e h0 => ?_, fun i hi => ?_, fun i hi h0 => ?_, hcm.trans (by rw [hct]), (make_n _ _).trans htn, by rw [em]; exact hmn, by rw [em], by omega, hclo, h.roots⟩
  · rcases List.mem_or_eq_of_mem_set hy with a | rfl
    · exact h.u64 y a
    · exact hu
  · rw [getD_set hkl] at e h0
    rw [getD_set hkl] at e
    by_cases ei : i = k <;> by_cases ej : j = k
    · rw [ei, ej]
    · rw [if_pos ei, if_neg ej] at e
      rw [if_pos ei] at h0
      exact absurd e.symm (hnew j hj (by rw [← e]; exact h0))
    · rw [if_neg ei, if_pos ej] at e
      rw [if_neg ei] at h0
      exact absurd e (hnew i hi h0)
    · rw [if_neg ei, if_neg ej] at e
      rw [if_neg ei] at h0
      exact h.inj i j hi hj e h0
  · rw [getD_set hkl, hD']
    by_cases ei : i = k
    · rw [if_pos ei]; exact ⟨fun _ => .inr ei, fun _ => by omega⟩
    · rw [if_neg ei]; exact ⟨fun hh => .inl ((h.did i hi).1 hh), fun hh => (h.did i hi).2 (hh.resolve_right ei)⟩
  · rw [getD_set hkl] at h0 ⊢
    by_cases ei : i = k
    · rw [if_pos ei, hlk, if_pos rfl, ei]; exact ⟨_, rfl⟩
    · rw [if_neg ei] at h0 ⊢
      obtain ⟨s, hs⟩ := h.ob i hi h0
      rw [hlk, if_neg (hnew i hi h0)]
      exact ⟨s, hs⟩
end Go.Proofs.Ytagnepjmgkoboaa
