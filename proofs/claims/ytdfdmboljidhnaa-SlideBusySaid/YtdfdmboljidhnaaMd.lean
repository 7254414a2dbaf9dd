
/- 'Made': a heap by deeds, and the document's. -/
import Derived.Test.YtdfdmboljidhnaaRc
import Derived.Test.YtdfdmboljidhnaaMB
set_option maxRecDepth 100000
namespace Go.Proofs.Ytdfdmboljidhnaa
open Go Go.Lw Go.Wd Go.Am Go.Tb Go.Hm

set_option maxHeartbeats 4000000 in
theorem made10_c {W w : World} {S : Mem} {F : List HP} (hS : Sat (Ro W S :: F) w) (hE0 : Ext (Mem.of W) S) {p : Option Addr} {l c : Nat} {xs : List Value} (hx : ArgR W dks9 p l xs) (hll : l ≤ 300) :
    Calls Try.prog 21 #[.slice p l c] w fun e w' => ∃ (b : Nat) (S' : Mem) (H : Hp) (hs : List Nat) (r : Rh) (om : List (R9 × Gq)) (tp : Option Addr) (tc : Nat), e = .returned (.tuple #[.pointer (some ⟨b, 0, none⟩), r.agg, .slice tp hs.length tc, .bool true]) ∧
      Ext S S' ∧ Mir S' H hs r om ∧ CRs S' 1 (words hs) tp hs.length tc ∧ Pl 16384 1024 H hs ∧ hs.length ≤ 300 ∧ Sat (HeapH H .nilIface b :: Ro W S' :: F) w' := by
  refine S_law10_Made_ok _ _ _ _ _ ?_
  unfold S_law10_Made
  refine NewC.ofRow hS fun b0 w0 h0 => ?_
  refine (fresh_c (n := 16384) (k := 1024) (by omega) (by omega) (by omega) (by omega) h0).mono ?_
  rintro e w1 ⟨b, rfl, h1⟩
  refine ⟨_, rfl, ?_⟩
  refine NewC.ofRow h1 fun b1 w2 h2 => ?_
  refine cond_f rfl ?_
  have h3 : Sat (HeapH (Hp.new 16384 1024) .nilIface b :: Ro W S :: Row b1 Rh.zero.cells 44 :: Row b0 Rh.zero.cells 44 :: F) w2 := (Sat.pull h2 3 rfl).pull 2 rfl
  clear h0 h1 h2
  refine ⟨fun tp tl tc i w => ∃ (q : Nat) (S1 : Mem) (H : Hp) (hs : List Nat) (r : Rh) (om : List (R9 × Gq)), i = q ∧ q ≤ l ∧ Ext S S1 ∧ Mir S1 H hs r om ∧ CRs S1 1 (words hs) tp hs.length tc ∧ tl = hs.length ∧ Pl 16384 1024 H hs ∧ hs.length ≤ q ∧
      Sat (HeapH H .nilIface b :: Ro W S1 :: Row b1 r.cells 44 :: Row b0 Rh.zero.cells 44 :: F) w,
    fun _ _ _ i _ => (l - i).toNat, ⟨0, S, Hp.new 16384 1024, [], Rh.zero, [], rfl, by omega, Ext.refl _, mir_new _ _ _, crs_nil _ _ _, rfl, Pl.new _ _, by simp, h3⟩, ?_⟩
  clear h3
  rintro tp tl tc i w4 ⟨q, S1, H, hs, r, om, rfl, hq, hE, hM, hT, rfl, hP, hsq, h5⟩
  have hm := sat_wf h5
  have hcl := count_le hm.tab
  have hcn := hP.cnt
  have htn := hP.tn
  unfold S_law10_Made_l0
  have h6 := h5.drew
  generalize w4.drew = w5 at h6
  by_cases hql : q < l
  rotate_left
  · refine cond_f (by simp; omega) ?_
    refine ⟨fun w => ∃ (L : List HP) (i : Nat), L[i]? = some (Row b1 r.cells 44) ∧ Has S1 w ∧ Sat L w, ⟨_, 2, rfl, h6.has 1 rfl, h6⟩, ?_⟩
    refine qRh (r := r) (b := b1) (T := 44) (fun w ⟨L, i, hi, _, h⟩ => ⟨_, h.pull i hi⟩) ?_
    refine stRh (r := r) rfl h6 3 rfl fun w6 h7 => ?_
    refine ldRh h7 3 rfl ?_
    exact ⟨b, S1, H, hs, r, om, tp, tc, rfl, hE, hM, hT, hP, by omega, (((Sat.pull h7 2 rfl).drop.pull 2 rfl).drop)⟩
  refine cond_t (by simp; omega) ?_
  intro k0 hk0
  obtain ⟨a, d, rfl, hz, hy64, hcell⟩ := deed_rd hx hql
  have rd : ∀ j v, d.cells[j]? = some v → ∀ w, Has S1 w → w.cell? ((a.add (q * 6)).add j) = some v := fun j v hj w hw => ((RdS.base (hcell j v hj)).mono (hE0.trans hE)) w hw
  have rd0 : ∀ w, Has S1 w → w.cell? (a.add (q * 6)) = some (.int .i64 d.d) := fun w hw => by simpa [Addr.add] using rd 0 _ rfl w hw
  have after : ∀ (S' : Mem) (r' : Rh) (om' : List (R9 × Gq)) (tp' : Option Addr) (tc' b2 : Nat) (w' : World), Ext S1 S' → Mir S' (playH H hs d).1 (playH H hs d).2 r' om' → CRs S' 1 (words (playH H hs d).2) tp' (playH H hs d).2.length tc' →
      Sat (Row b2 r'.cells 44 :: HeapH (playH H hs d).1 .nilIface b :: Ro W S' :: Row b1 r.cells 44 :: Row b0 Rh.zero.cells 44 :: F) w' →
      Ld_tidemarkref9_Heap w' ⟨b2, 0, none⟩ fun p l c n0 n1 n2 n3 n4 n5 n6 n7 n8 n9 n10 n11 n12 n13 n14 n15 => St_tidemarkref9_Heap w' ⟨b1, 0, none⟩ p l c n0 n1 n2 n3 n4 n5 n6 n7 n8 n9 n10 n11 n12 n13 n14 n15 fun w9 =>
        k0 tp' (playH H hs d).2.length tc' w9 := by
    intro S' r' om' tp' tc' b2 w' e1 hM' hT' h
    refine ldRh h 0 rfl (stRh (r := r') rfl h 3 rfl fun w2 h2 => ?_)
    refine hk0 _ _ _ _ ?_
    unfold S_law10_Made_j0
    rw [wrapI64 (by omega) (by omega)]
    have hgr : (playH H hs d).2.length ≤ q + 1 := by
      rcases (playH_count (d := d) hm.tab hcn).2.2 with e | e <;> rw [e]
      · omega
      · simp; omega
    exact ⟨⟨q + 1, S', (playH H hs d).1, (playH H hs d).2, r', om', by omega, by omega, hE.trans e1, hM', hT', rfl, hP.play hm.tab d, hgr, Sat.drop h2⟩, by first | omega | (dsimp only; omega)⟩
  refine ⟨fun w => ∃ (L : List HP) (i : Nat), L[i]? = some (Row b1 r.cells 44) ∧ Has S1 w ∧ Sat L w, ⟨_, 2, rfl, h6.has 1 rfl, h6⟩, ?_⟩
  refine qRh (r := r) (b := b1) (T := 44) (fun w ⟨L, i, hi, _, h⟩ => ⟨_, h.pull i hi⟩) ?_
  refine ⟨by omega, by omega, ?_⟩
  rw [Int.toNat_natCast]
  refine ⟨d.d, d.x, d.y, d.i, d.j, (d.w : Int), fun w ⟨L, i, hi, hw, h⟩ => LdI.at (rd0 w hw) (LdI.at (rd 1 _ rfl w hw) (LdI.at (rd 2 _ rfl w hw) (LdI.at (rd 3 _ rfl w hw) (LdI.at (rd 4 _ rfl w hw) (LdI.at (rd 5 _ rfl w hw) rfl))))), ?_⟩
  refine ⟨?_, ?_⟩
  · refine (plain_play (r := r) h6 hM (by omega) hcn hT hz hy64).mono ?_
    rintro e w7 ⟨S', r', om', tp', tc', rfl, e1, hM', hT', h8⟩
    refine ⟨_, _, _, _, _, _, _, _, _, _, _, _, _, _, _, _, _, _, _, _, _, _, _, rfl, ?_⟩
    refine NewC.ofRow h8 fun b2 w8 h9 => ?_
    refine stRh (r := r') rfl h9 0 rfl fun w9 h10 => ?_
    exact cond_f rfl (after S' r' om' tp' tc' b2 w9 e1 hM' hT' h10)
  · refine NewC.ofRow h6 fun b2 w7 h8 => ⟨⟨_, 3, rfl, h8.has 2 rfl, h8⟩, ?_⟩
    have h9 : Sat (HeapH H .nilIface b :: Ro W S1 :: Row b2 Rh.zero.cells 44 :: Row b1 r.cells 44 :: Row b0 Rh.zero.cells 44 :: F) w7 := (Sat.pull h8 2 rfl).pull 2 rfl
    refine (plain_play (r := r) h9 hM (by omega) hcn hT hz hy64).mono ?_
    rintro e w8 ⟨S', r', om', tp', tc', rfl, e1, hM', hT', h10⟩
    refine ⟨_, _, _, _, _, _, _, _, _, _, _, _, _, _, _, _, _, _, _, _, _, _, _, rfl, ?_⟩
    refine stRh (r := r') rfl h10 2 rfl fun w9 h11 => ?_
    exact cond_f rfl (after S' r' om' tp' tc' b2 w9 e1 hM' hT' (Sat.pull h11 2 rfl))
end Go.Proofs.Ytdfdmboljidhnaa
