
/- 'Made' once more: a heap by deeds, with all that is known of it: its objects stand in the order in which they were made; it is the same for the same deeds. -/
import Derived.Test.YtdfdmboljidhnaaSs
set_option maxRecDepth 100000
namespace Go.Hm
open Go Go.Lw Go.Wd Go.Am Go.Tb Go.Proofs.Ytdfdmboljidhnaa
theorem Dd.same {d d' : Dd} {f : Nat → Option Value} (h : ∀ (j : Nat) v, d.cells[j]? = some v → f j = some v) (h' : ∀ (j : Nat) v, d'.cells[j]? = some v → f j = some v) : d = d' := by
  obtain ⟨d0, d1, d2, d3, d4, d5⟩ := d
  obtain ⟨e0, e1, e2, e3, e4, e5⟩ := d'
  have g : ∀ (j : Nat) v v', (Dd.cells ⟨d0, d1, d2, d3, d4, d5⟩)[j]? = some v → (Dd.cells ⟨e0, e1, e2, e3, e4, e5⟩)[j]? = some v' → v = v' := fun j v v' a b => by
    have := (h j v a).symm.trans (h' j v' b)
    exact Option.some.inj this
  have a0 := g 0 _ _ rfl rfl
  have a1 := g 1 _ _ rfl rfl
  have a2 := g 2 _ _ rfl rfl
  have a3 := g 3 _ _ rfl rfl
  have a4 := g 4 _ _ rfl rfl
  have a5 := g 5 _ _ rfl rfl
  simp only [Value.int.injEq, true_and] at a0 a1 a2 a3 a4 a5
  have a5 : d5 = e5 := by omega
  subst a0 a1 a2 a3 a4 a5
  rfl
/-- a heap by the deeds that came in. -/
inductive Pd (W : World) (p : Option Addr) : Nat → Hp → List Nat → Prop
  | nil : Pd W p 0 (Hp.new 16384 1024) []
  | step {q : Nat} {H : Hp} {hs : List Nat} {d : Dd} {a : Addr} : Pd W p q H hs → H.WF → p = some a → d.w < 18446744073709551616 → (∀ (j : Nat) v, d.cells[j]? = some v → W.cell? ((a.add (q * 6)).add j) = some v) → Pd W p (q + 1) (playH H hs d).1 (playH H hs d).2
theorem Pd.same {W : World} {p : Option Addr} {q : Nat} {H : Hp} {hs : List Nat} (h : Pd W p q H hs) : ∀ {H' : Hp} {hs' : List Nat}, Pd W p q H' hs' → H = H' ∧ hs = hs' := by
  induction h with
  | nil => intro H' hs' h'; cases h'; exact ⟨rfl, rfl⟩
  | step h1 h2 h3 h4 h5 ih =>
    intro H' hs' h'
    cases h' with
    | step g1 g2 g3 g4 g5 =>
      obtain ⟨rfl, rfl⟩ := ih g1
      rw [h3] at g3
      cases g3
      have := Dd.same h5 g5
      subst this
      exact ⟨rfl, rfl⟩
theorem row_rooted (H : Hp) (i x : Nat) : rowH (H.rooted i x) = rowH H := rfl
theorem row_made {H : Hp} (h : H.WF) (ho : H.m.op = false) (a b c : Nat) : rowH (H.made a b c) = rowH H ++ [nextH H.t] := by
  have hh := (h.am.shut ho).2
  have e : (H.made a b c).m.low ++ (H.made a b c).m.high = H.m.low ++ [Fresh a b c H.t.nextSlot] := by
    have e1 : (H.made a b c).m = ⟨H.m.n, H.m.low ++ [Fresh a b c H.t.nextSlot], H.m.high, H.m.hi, false⟩ := by
      show H.m.alloc _ = _
      unfold Am.alloc
      obtain ⟨⟨n, low, high, hi, op⟩, t, rs⟩ := H
      dsimp only at ho ⊢
      subst ho
      rfl
    rw [e1, hh, List.append_nil]
  have et : ∀ k, (H.made a b c).t.L[k]? = if k = H.t.nextSlot then some ⟨H.t.genAt k, H.m.top, true⟩ else H.t.L[k]? := make_get h.tab
  have eg : ∀ k, (H.made a b c).t.genAt k = H.t.genAt k := fun k => by
    unfold Tab.genAt
    rw [et]
    by_cases e : k = H.t.nextSlot
    · rw [if_pos e]; rfl
    · rw [if_neg e]
  unfold rowH
  rw [e, hh, List.append_nil]
  simp only [eg, List.map_append, List.map_cons, List.map_nil]
  rfl
/-- what is known of a heap by deeds. -/
structure Mg (H : Hp) (hs : List Nat) : Prop where
  pl : Pl 16384 1024 H hs
  cl : H.Closed
  tot : tot H.t ≤ 2 * hs.length
  row : rowH H = hs
theorem rw_setRef {H : Hp} (h : H.WF) (x : Nat) (i : Int) (y : Nat) : Rw H (Hp.setRef H x i y) := by
  unfold Hp.setRef; split
  · rename_i o ho; exact rw_set h ho rfl
  · exact .refl H
theorem rw_setWord {H : Hp} (h : H.WF) (x : Nat) (i : Int) (y : Nat) : Rw H (Hp.setWord H x i y) := by
  unfold Hp.setWord; split
  · rename_i o ho; exact rw_set h ho rfl
  · exact .refl H
theorem Mg.play {H : Hp} {hs : List Nat} (h : Mg H hs) (hm : H.WF) (d : Dd) : Mg (playH H hs d).1 (playH H hs d).2 := by
  refine ⟨h.pl.play hm.tab d, closed_play hm h.cl h.pl.cnt d, ?_, ?_⟩
  · have ht := h.tot
    unfold playH
    split
    · split
      · have := tot_make hm.tab H.m.top
        dsimp only
        rw [List.length_append]
        show Hm.tot (H.t.make H.m.top) ≤ _
        simp only [List.length_cons, List.length_nil]
        omega
      · exact ht
    · split
      · split
        · dsimp only; rw [setRef_t]; exact ht
        · exact ht
      · split
        · split
          · dsimp only; rw [setWord_t]; exact ht
          · exact ht
        · split
          · split
            · exact ht
            · exact ht
          · exact ht
  · have hr := h.row
    unfold playH
    split
    · split
      · dsimp only; rw [row_made hm h.pl.op, hr]
      · exact hr
    · split
      · split
        · dsimp only; rw [(rw_setRef hm _ _ _).row]; exact hr
        · exact hr
      · split
        · split
          · dsimp only; rw [(rw_setWord hm _ _ _).row]; exact hr
          · exact hr
        · split
          · split
            · dsimp only; rw [row_rooted]; exact hr
            · exact hr
          · exact hr
theorem Pd.gn {W : World} {p : Option Addr} {q : Nat} {H : Hp} {hs : List Nat} (h : Pd W p q H hs) : Mg H hs := by
  induction h with
  | nil => exact ⟨Pl.new _ _, closed_new _ _, by decide, rfl⟩
  | step _ h2 _ _ _ ih => exact ih.play h2 _
theorem Mg.gd {H : Hp} {hs : List Nat} (h : Mg H hs) : Gd (2 * hs.length) H := ⟨by rw [h.pl.objs]; exact h.pl.cnt.symm, h.tot⟩
theorem Mg.ci {H : Hp} {hs : List Nat} (h : Mg H hs) (hm : H.WF) : Ci (2 * hs.length) ⟨H, [], 0, 0, 0⟩ := ci_new hm h.gd h.pl.op h.cl 0 0
end Go.Hm
namespace Go.Proofs.Ytdfdmboljidhnaa
open Go Go.Lw Go.Wd Go.Am Go.Tb Go.Hm

set_option maxHeartbeats 4000000 in
theorem made11_c {W w : World} {S : Mem} {F : List HP} (hS : Sat (Ro W S :: F) w) (hE0 : Ext (Mem.of W) S) {p : Option Addr} {l c : Nat} {xs : List Value} (hx : ArgR W dks9 p l xs) (hll : l ≤ 300) :
    Calls Try.prog 21 #[.slice p l c] w fun e w' => ∃ (b : Nat) (S' : Mem) (H : Hp) (hs : List Nat) (r : Rh) (om : List (R9 × Gq)) (tp : Option Addr) (tc : Nat), e = .returned (.tuple #[.pointer (some ⟨b, 0, none⟩), r.agg, .slice tp hs.length tc, .bool true]) ∧
      Ext S S' ∧ Mir S' H hs r om ∧ CRs S' 1 (words hs) tp hs.length tc ∧ Pl 16384 1024 H hs ∧ hs.length ≤ 300 ∧ Pd W p l H hs ∧ Sat (HeapH H .nilIface b :: Ro W S' :: F) w' := by
  refine S_law10_Made_ok _ _ _ _ _ ?_
  unfold S_law10_Made
  refine NewC.ofRow hS fun b0 w0 h0 => ?_
  refine (fresh_c (n := 16384) (k := 1024) (by omega) (by omega) (by omega) (by omega) h0).mono ?_
  rintro e w1 ⟨b, rfl, h1⟩
  refine ⟨_, rfl, ?_⟩
  refine NewC.ofRow h1 fun b1 w2 h2 => ?_
  refine cond_f rfl ?_
  have h3 : Sat (HeapH (Hp.new 16384 1024) .nilIface b :: Ro W S :: Row b1 Rh.zero.cells 44 :: Row b0 Rh.zero.cells 44 :: F) w2 := (Sat.pull h2 3 rfl).pull 2 rfl
  clear h0 h1 h2
  refine ⟨fun tp tl tc i w => ∃ (q : Nat) (S1 : Mem) (H : Hp) (hs : List Nat) (r : Rh) (om : List (R9 × Gq)), i = q ∧ q ≤ l ∧ Ext S S1 ∧ Mir S1 H hs r om ∧ CRs S1 1 (words hs) tp hs.length tc ∧ tl = hs.length ∧ Pl 16384 1024 H hs ∧ hs.length ≤ q ∧ Pd W p q H hs ∧
      Sat (HeapH H .nilIface b :: Ro W S1 :: Row b1 r.cells 44 :: Row b0 Rh.zero.cells 44 :: F) w,
    fun _ _ _ i _ => (l - i).toNat, ⟨0, S, Hp.new 16384 1024, [], Rh.zero, [], rfl, by omega, Ext.refl _, mir_new _ _ _, crs_nil _ _ _, rfl, Pl.new _ _, by simp, .nil, h3⟩, ?_⟩
  clear h3
  rintro tp tl tc i w4 ⟨q, S1, H, hs, r, om, rfl, hq, hE, hM, hT, rfl, hP, hsq, hPd, h5⟩
  have hm := sat_wf h5
  have hcl := count_le hm.tab
  have hcn := hP.cnt
  have htn := hP.tn
  unfold S_law10_Made_l0
  have h6 := h5.drew
  generalize w4.drew = w5 at h6
  by_cases hql : q < l
  rotate_left
  · refine cond_f (by simp; omega) ?_
    refine ⟨fun w => ∃ (L : List HP) (i : Nat), L[i]? = some (Row b1 r.cells 44) ∧ Has S1 w ∧ Sat L w, ⟨_, 2, rfl, h6.has 1 rfl, h6⟩, ?_⟩
    refine qRh (r := r) (b := b1) (T := 44) (fun w ⟨L, i, hi, _, h⟩ => ⟨_, h.pull i hi⟩) ?_
    refine stRh (r := r) rfl h6 3 rfl fun w6 h7 => ?_
    refine ldRh h7 3 rfl ?_
    have eql : q = l := by omega
    exact ⟨b, S1, H, hs, r, om, tp, tc, rfl, hE, hM, hT, hP, by omega, by rw [← eql]; exact hPd, (((Sat.pull h7 2 rfl).drop.pull 2 rfl).drop)⟩
  refine cond_t (by simp; omega) ?_
  intro k0 hk0
  obtain ⟨a, d, rfl, hz, hy64, hcell⟩ := deed_rd hx hql
  have hPd2 : Pd W (some a) (q + 1) (playH H hs d).1 (playH H hs d).2 := .step hPd hm rfl hz hcell
  have rd : ∀ j v, d.cells[j]? = some v → ∀ w, Has S1 w → w.cell? ((a.add (q * 6)).add j) = some v := fun j v hj w hw => ((RdS.base (hcell j v hj)).mono (hE0.trans hE)) w hw
  have rd0 : ∀ w, Has S1 w → w.cell? (a.add (q * 6)) = some (.int .i64 d.d) := fun w hw => by simpa [Addr.add] using rd 0 _ rfl w hw
  have after : ∀ (S' : Mem) (r' : Rh) (om' : List (R9 × Gq)) (tp' : Option Addr) (tc' b2 : Nat) (w' : World), Ext S1 S' → Mir S' (playH H hs d).1 (playH H hs d).2 r' om' → CRs S' 1 (words (playH H hs d).2) tp' (playH H hs d).2.length tc' →
      Sat (Row b2 r'.cells 44 :: HeapH (playH H hs d).1 .nilIface b :: Ro W S' :: Row b1 r.cells 44 :: Row b0 Rh.zero.cells 44 :: F) w' →
      Ld_tidemarkref9_Heap w' ⟨b2, 0, none⟩ fun p l c n0 n1 n2 n3 n4 n5 n6 n7 n8 n9 n10 n11 n12 n13 n14 n15 => St_tidemarkref9_Heap w' ⟨b1, 0, none⟩ p l c n0 n1 n2 n3 n4 n5 n6 n7 n8 n9 n10 n11 n12 n13 n14 n15 fun w9 =>
        k0 tp' (playH H hs d).2.length tc' w9 := by
    intro S' r' om' tp' tc' b2 w' e1 hM' hT' h
    refine ldRh h 0 rfl (stRh (r := r') rfl h 3 rfl fun w2 h2 => ?_)
    refine hk0 _ _ _ _ ?_
    unfold S_law10_Made_j0
    rw [wrapI64 (by omega) (by omega)]
    have hgr : (playH H hs d).2.length ≤ q + 1 := by
      rcases (playH_count (d := d) hm.tab hcn).2.2 with e | e <;> rw [e]
      · omega
      · simp; omega
    exact ⟨⟨q + 1, S', (playH H hs d).1, (playH H hs d).2, r', om', by omega, by omega, hE.trans e1, hM', hT', rfl, hP.play hm.tab d, hgr, hPd2, Sat.drop h2⟩, by first | omega | (dsimp only; omega)⟩
  refine ⟨fun w => ∃ (L : List HP) (i : Nat), L[i]? = some (Row b1 r.cells 44) ∧ Has S1 w ∧ Sat L w, ⟨_, 2, rfl, h6.has 1 rfl, h6⟩, ?_⟩
  refine qRh (r := r) (b := b1) (T := 44) (fun w ⟨L, i, hi, _, h⟩ => ⟨_, h.pull i hi⟩) ?_
  refine ⟨by omega, by omega, ?_⟩
  rw [Int.toNat_natCast]
  refine ⟨d.d, d.x, d.y, d.i, d.j, (d.w : Int), fun w ⟨L, i, hi, hw, h⟩ => LdI.at (rd0 w hw) (LdI.at (rd 1 _ rfl w hw) (LdI.at (rd 2 _ rfl w hw) (LdI.at (rd 3 _ rfl w hw) (LdI.at (rd 4 _ rfl w hw) (LdI.at (rd 5 _ rfl w hw) rfl))))), ?_⟩
  refine ⟨?_, ?_⟩
  · refine (plain_play (r := r) h6 hM (by omega) hcn hT hz hy64).mono ?_
    rintro e w7 ⟨S', r', om', tp', tc', rfl, e1, hM', hT', h8⟩
    refine ⟨_, _, _, _, _, _, _, _, _, _, _, _, _, _, _, _, _, _, _, _, _, _, _, rfl, ?_⟩
    refine NewC.ofRow h8 fun b2 w8 h9 => ?_
    refine stRh (r := r') rfl h9 0 rfl fun w9 h10 => ?_
    exact cond_f rfl (after S' r' om' tp' tc' b2 w9 e1 hM' hT' h10)
  · refine NewC.ofRow h6 fun b2 w7 h8 => ⟨⟨_, 3, rfl, h8.has 2 rfl, h8⟩, ?_⟩
    have h9 : Sat (HeapH H .nilIface b :: Ro W S1 :: Row b2 Rh.zero.cells 44 :: Row b1 r.cells 44 :: Row b0 Rh.zero.cells 44 :: F) w7 := (Sat.pull h8 2 rfl).pull 2 rfl
    refine (plain_play (r := r) h9 hM (by omega) hcn hT hz hy64).mono ?_
    rintro e w8 ⟨S', r', om', tp', tc', rfl, e1, hM', hT', h10⟩
    refine ⟨_, _, _, _, _, _, _, _, _, _, _, _, _, _, _, _, _, _, _, _, _, _, _, rfl, ?_⟩
    refine stRh (r := r') rfl h10 2 rfl fun w9 h11 => ?_
    exact cond_f rfl (after S' r' om' tp' tc' b2 w9 e1 hM' hT' (Sat.pull h11 2 rfl))
end Go.Proofs.Ytdfdmboljidhnaa
