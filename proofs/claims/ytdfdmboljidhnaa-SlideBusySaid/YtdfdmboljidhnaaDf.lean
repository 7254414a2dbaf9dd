
/- 'Differ' answers 0: a heap's graph and the document's are one. -/
import Derived.Test.YtdfdmboljidhnaaH9g
set_option maxRecDepth 100000
namespace Go.Proofs.Ytdfdmboljidhnaa
open Go Go.Lw Go.Wd Go.Am Go.Tb Go.Hm
section
variable {H : Hp} {hs : List Nat} {r : Rh} {om : List (R9 × Gq)} {w W : World} {S : Mem} {L : List HP}
theorem node_c {n : Gn} {p1 p2 q1 q2 : Option Addr} {c1 c2 d1 d2 : Nat} (hS : Sat L w) (k : Nat) (hk : L[k]? = some (Ro W S)) (h1 : CRs S 1 (ints n.refs) p1 n.refs.length c1) (h2 : CRs S 1 (words n.words) p2 n.words.length c2) (g1 : CRs S 1 (ints n.refs) q1 n.refs.length d1) (g2 : CRs S 1 (words n.words) q2 n.words.length d2) :
    Calls Try.prog 56 #[.agg #[.int .i64 (n.tag : Int), .slice p1 n.refs.length c1, .slice p2 n.words.length c2], .agg #[.int .i64 (n.tag : Int), .slice q1 n.refs.length d1, .slice q2 n.words.length d2]] w (Ret (.bool true) (Sat L)) := by
  have hl1 := h1.lim; have hl2 := h2.lim
  refine S_law9_node_ok _ _ _ _ _ _ _ _ _ _ _ _ _ _ _ _ ?_
  unfold S_law9_node
  refine NewC.ofRow hS fun b3 w0 s0 => ?_
  refine NewC.ofRow s0 fun b4 w1 s1 => ?_
  refine LdI.of s1 1 rfl (off := 0) rfl rfl (LdI.of s1 0 rfl (off := 0) rfl rfl ?_)
  refine cond_f (by simp) (LdS.of s1 1 rfl (off := 1) rfl (add_mk _ _ _) (LdS.of s1 0 rfl (off := 1) rfl (add_mk _ _ _) ?_))
  refine cond_f (by simp) (LdS.of s1 1 rfl (off := 2) rfl (add_mk _ _ _) (LdS.of s1 0 rfl (off := 2) rfl (add_mk _ _ _) ?_))
  refine cond_f (by simp) ?_
  refine ⟨fun i w => ∃ q : Nat, i = q ∧ q ≤ n.refs.length ∧ Sat (Row b4 [.int .i64 (n.tag : Int), .slice q1 n.refs.length d1, .slice q2 n.words.length d2] 101 :: Row b3 [.int .i64 (n.tag : Int), .slice p1 n.refs.length c1, .slice p2 n.words.length c2] 100 :: L) w, fun i _ => (n.refs.length - i).toNat, ⟨0, rfl, by omega, s1⟩, ?_⟩
  clear s0 s1
  rintro i w2 ⟨q, rfl, hq, s2⟩
  unfold S_law9_node_l1
  refine LdS.of s2 1 rfl (off := 1) rfl (add_mk _ _ _) ?_
  by_cases hql : q < n.refs.length
  · refine cond_t (by simp; omega) ?_
    have s3 := s2.drew
    have hw := s3.has (k + 2) (by simpa using hk)
    have hx : n.refs[q]? = some n.refs[q] := List.getElem?_eq_getElem hql
    refine LdS.of s3 1 rfl (off := 1) rfl (add_mk _ _ _) (rd_int h1 hw hx rfl ?_)
    refine LdS.of s3 0 rfl (off := 1) rfl (add_mk _ _ _) (rd_int g1 hw hx rfl ?_)
    refine cond_f (by simp) ?_
    rw [wrapI64 (by omega) (by omega)]
    exact ⟨⟨q + 1, by omega, by omega, s3⟩, by first | omega | (dsimp only; omega)⟩
  refine cond_f (by simp; omega) ?_
  refine ⟨fun i w => ∃ q : Nat, i = q ∧ q ≤ n.words.length ∧ Sat (Row b4 [.int .i64 (n.tag : Int), .slice q1 n.refs.length d1, .slice q2 n.words.length d2] 101 :: Row b3 [.int .i64 (n.tag : Int), .slice p1 n.refs.length c1, .slice p2 n.words.length c2] 100 :: L) w, fun i _ => (n.words.length - i).toNat, ⟨0, rfl, by omega, s2⟩, ?_⟩
  clear s2
  rintro i w3 ⟨q, rfl, hq, s2⟩
  unfold S_law9_node_l0
  refine LdS.of s2 1 rfl (off := 2) rfl (add_mk _ _ _) ?_
  by_cases hql : q < n.words.length
  · refine cond_t (by simp; omega) ?_
    have s3 := s2.drew
    have hw := s3.has (k + 2) (by simpa using hk)
    have hx : n.words[q]? = some n.words[q] := List.getElem?_eq_getElem hql
    refine LdS.of s3 1 rfl (off := 2) rfl (add_mk _ _ _) (rd_word h2 hw hx rfl ?_)
    refine LdS.of s3 0 rfl (off := 2) rfl (add_mk _ _ _) (rd_word g2 hw hx rfl ?_)
    refine cond_f (by simp) ?_
    rw [wrapI64 (by omega) (by omega)]
    exact ⟨⟨q + 1, by omega, by omega, s3⟩, by first | omega | (dsimp only; omega)⟩
  exact cond_f (by simp; omega) ⟨rfl, s2.drop.drop⟩

/-- 'H' is what the document's heap says, 'H2' a heap of the same graph. -/
theorem differ_c {H2 : Hp} {gp np : Option Addr} {gc nc : Nat} {gs : List (Gn × Gq)} (hR2 : graphR H2 = graphR H) (hN2 : graphN H2 = graphN H) (hm : H.WF) (hS : Sat (Ro W S :: L) w) (hM : Mir S H hs r om) (hl : hs.length ≤ 1048576) (hR : CRs S 1 (ints (graphR H2)) gp 16 gc) (hN : NRs S (graphN H2) gs np (order H2).length nc) :
    Calls Try.prog 22 #[.agg #[.slice gp 16 gc, .slice np (order H2).length nc], r.agg] w fun e w' => e = .returned (.int .i64 0) ∧ ∃ S', Ext S S' ∧ Sat (Ro W S' :: L) w' := by
  have hlen : (order H2).length = (order H).length := by have := congrArg List.length hN2; simpa [graphN] using this
  rw [hR2] at hR
  rw [hN2] at hN
  rw [hlen] at hN ⊢
  have hmost := hm.tab.most
  have hol := (order_met (H := H)).len hm
  have hgl : (graphR H).length = 16 := by simp [graphR, hm.rlen]
  have hgn : (graphN H).length = (order H).length := by simp [graphN]
  refine S_law9_Differ_ok gp 16 gc np (order H).length nc r.p r.l r.c r.a0 r.a1 r.a2 r.a3 r.a4 r.a5 r.a6 r.a7 r.a8 r.a9 r.a10 r.a11 r.a12 r.a13 r.a14 r.a15 w _ ?_
  unfold S_law9_Differ
  refine NewC.ofRow hS fun b0 w0 s0 => ?_
  refine NewC.ofRow s0 fun b1 w1 s1 => ?_
  refine ldRh (r := r) s1 0 rfl ?_
  refine (graph9_c (r := r) hm (Sat.pull s1 2 rfl) hM hl).mono ?_
  rintro e w2 ⟨rp, rc, mp, mc, S', gs2, rfl, hE, hR3, hN3, s2⟩
  have s2 : Sat (Ro W S' :: Row b1 r.cells 44 :: Row b0 [.slice gp 16 gc, .slice np (order H).length nc] 51 :: L) w2 := s2
  have hR := hR.mono hE
  have hN := hN.mono hE
  refine ⟨_, _, _, _, _, _, rfl, ?_⟩
  refine LdS.of s2 2 rfl (off := 0) rfl rfl (cond_f rfl ?_)
  refine LdS.of s2 2 rfl (off := 1) rfl (add_mk _ _ _) (cond_f (by simp) ?_)
  refine ⟨fun i w => ∃ q : Nat, i = q ∧ q ≤ 16 ∧ Sat (Ro W S' :: Row b1 r.cells 44 :: Row b0 [.slice gp 16 gc, .slice np (order H).length nc] 51 :: L) w, fun i _ => (16 - i).toNat, ⟨0, rfl, by omega, s2⟩, ?_⟩
  clear s0 s1 s2 hS
  rintro i w3 ⟨q, rfl, hq, s2⟩
  unfold S_law9_Differ_l1
  by_cases hql : q < 16
  · refine cond_t (by simp; omega) ?_
    have s3 := s2.drew
    have hw := s3.has 0 rfl
    have hx : (graphR H)[q]? = some ((graphR H)[q]'(by omega)) := List.getElem?_eq_getElem (by omega)
    refine LdS.of s3 2 rfl (off := 0) rfl rfl (rd_int hR hw hx rfl (rd_int hR3 hw hx rfl ?_))
    refine cond_f (by simp) ?_
    rw [wrapI64 (by omega) (by omega)]
    exact ⟨⟨q + 1, by omega, by omega, s3⟩, by first | omega | (dsimp only; omega)⟩
  refine cond_f (by simp; omega) ?_
  refine ⟨fun i w => ∃ q : Nat, i = q ∧ q ≤ (order H).length ∧ Sat (Ro W S' :: Row b1 r.cells 44 :: Row b0 [.slice gp 16 gc, .slice np (order H).length nc] 51 :: L) w, fun i _ => ((order H).length - i).toNat, ⟨0, rfl, by omega, s2⟩, ?_⟩
  clear s2
  rintro i w4 ⟨q, rfl, hq, s2⟩
  unfold S_law9_Differ_l0
  by_cases hql : q < (order H).length
  · refine cond_t (by simp; omega) ?_
    have s3 := s2.drew
    generalize w4.drew = w5 at s3
    have hw := s3.has 0 rfl
    have hx : (graphN H)[q]? = some ((graphN H)[q]'(by omega)) := List.getElem?_eq_getElem (by omega)
    generalize (graphN H)[q]'(by omega) = n at hx
    refine LdS.of s3 2 rfl (off := 1) rfl (add_mk _ _ _) ?_
    refine rd_node hN hw hx rfl fun a x hx1 hxr c1 c2 c3 => LdI.cell c1 (LdS.cell c2 (LdS.cell c3 ?_))
    refine rd_node hN3 hw hx rfl fun a y hy1 hyr d1 d2 d3 => LdI.cell d1 (LdS.cell d2 (LdS.cell d3 ?_))
    have e1 := hxr.refs; have e2 := hxr.words; have e3 := hyr.refs; have e4 := hyr.words
    rw [hx1] at e1 e2
    rw [hy1] at e3 e4
    refine (node_c s3 0 rfl e1 e2 e3 e4).mono ?_
    rintro e w6 ⟨rfl, s4⟩
    refine ⟨_, rfl, cond_f rfl ?_⟩
    rw [wrapI64 (by omega) (by omega)]
    exact ⟨⟨q + 1, by omega, by omega, s4⟩, by first | omega | (dsimp only; omega)⟩
  · exact cond_f (by simp; omega) ⟨rfl, S', hE, ((Sat.pull s2 1 rfl).drop.pull 1 rfl).drop⟩
end
end Go.Proofs.Ytdfdmboljidhnaa
