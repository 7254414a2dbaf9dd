
/- 'MarkBusy' answers true: while others make, link and set, in steps of whatever size, in the end all that is reached is marked, and what was made since. No conditions. -/
import Derived.Test.YtdlplljmgkfkgaaMw
set_option maxRecDepth 100000
namespace Go.Proofs.Ytdlplljmgkfkgaa
open Go Go.Lw Go.Wd Go.Am Go.Tb Go.Hm Go.ChangeShapes Go.WideShapes Go.ChangeAt Go.RowKit

set_option maxHeartbeats 4000000 in
theorem busy_c (W : World) {p p2 p1 : Option Addr} {l c l2 c2 l1 c1 : Nat} {xs xs2 : List Value} {zs : List Int} (hx : ArgR W dks9 p l xs) (hx2 : ArgR W dks9 p2 l2 xs2) (hz : ArgI W .i64 p1 l1 zs) :
    Calls Try.prog 6 #[.slice p l c, .slice p2 l2 c2, .slice p1 l1 c1] W (Ret (.bool true) (Go.RowKit.Below W.heap.size W)) := by
  have h0 : Sat [Ro W (Mem.of W)] W := Sat.ofBase W
  refine S_law10_MarkBusy_ok _ _ _ _ _ _ _ _ _ _ _ ?_
  unfold S_law10_MarkBusy
  refine (awake10_c h0).mono ?_
  rintro e w0 ⟨rfl, h1⟩
  refine ⟨_, rfl, cond_f rfl ?_⟩
  by_cases hl : l ≤ 300
  rotate_left
  · exact cond_t (by simp; omega) ⟨rfl, h1.roBelow 0 rfl (Ext.refl _)⟩
  refine cond_f (by simp; omega) ?_
  by_cases hl2 : l2 ≤ 300
  rotate_left
  · exact cond_t (by simp; omega) ⟨rfl, h1.roBelow 0 rfl (Ext.refl _)⟩
  refine cond_f (by simp; omega) ?_
  refine (made10_c h1 (Ext.refl _) hx hl).mono ?_
  rintro e w1 ⟨b, S, H0, hs0, r0, om0, tp, tc, rfl, hE, hM, hT, hP0, hs3, h2⟩
  refine ⟨_, _, _, _, _, _, _, _, _, _, _, _, _, _, _, _, _, _, _, _, _, _, _, _, rfl, ?_⟩
  refine NewC.ofRow h2 fun b0 w2 h3 => ?_
  refine stRh (r := r0) rfl h3 0 rfl fun w3 h4 => ?_
  refine cond_f rfl ?_
  refine ldRh (r := r0) h4 0 rfl ?_
  refine NewC.ofRow h4 fun b1 w4 h5 => ?_
  refine stRh (r := r0) rfl h5 0 rfl fun w5 h6 => ?_
  have h7 : Sat (HeapH H0 .nilIface b :: [Ro W S, Row b1 r0.cells 49, Row b0 r0.cells 49]) w5 := (Sat.pull h6 3 rfl).pull 3 rfl
  have hm0 := sat_wf h7
  refine (mnew_c h7).mono ?_
  rintro e w6 ⟨mb, rfl, h8⟩
  refine ⟨_, rfl, ?_⟩
  refine (mstart_c h8 hP0.op).mono ?_
  rintro e w7 ⟨rfl, h9⟩
  refine ⟨_, rfl, cond_f rfl ?_⟩
  clear h0 h1 h2 h3 h4 h5 h6 h7 h8
  obtain ⟨hbw, hbs, hbp⟩ := began_ok hm0
  have hB0 : Bz 16384 1024 hs0.length (began H0).1 (began H0).2 hs0 := by
    refine ⟨Inv.began hm0, ?_, hP0.began, fun j x hj hxj => ?_⟩
    · have : pot ((began H0).1, (began H0).2) = pot (began H0) := rfl
      rw [this, hbp, hP0.objs]; exact hs3
    · have := get_lt hxj; omega
  have hO0 := Only.began hm0
  refine ⟨fun tp tl tc i w => ∃ (q : Nat) (S1 : Mem) (H : Hp) (st hs : List Nat) (r : Rh) (om : List (R9 × Gq)), i = q ∧ q ≤ l2 ∧ Ext S S1 ∧ Mir S1 H hs r om ∧ CRs S1 1 (words hs) tp hs.length tc ∧ tl = hs.length ∧ Bz 16384 1024 hs0.length H st hs ∧ hs0.length ≤ hs.length ∧ (q = 0 → Only (H, st) ∧ Sk H0 H) ∧
      Sat [HeapH H (mkW mb) b, MkH b mb st true, Ro W S1, Row b1 r0.cells 49, Row b0 r.cells 49] w, fun _ _ _ i _ => (l2 - i).toNat,
    ⟨0, S, (began H0).1, (began H0).2, hs0, r0, om0, rfl, by omega, Ext.refl _, hM.sm (sk_sm hbs), hT, rfl, hB0, Nat.le_refl _, fun _ => ⟨hO0, hbs⟩, h9⟩, ?_⟩
  clear h9 hT
  rintro tp tl tc i w8 ⟨q, S1, H, st, hs, r, om, rfl, hq, hE1, hM1, hT, rfl, hB, hat, hz0, h5⟩
  have hm := hB.inv.wf
  dsimp only at hm
  have hcl := count_le hm.tab
  have hcn := hB.pl.cnt
  have htn := hB.pl.tn
  unfold S_law10_MarkBusy_l2
  by_cases hql : q < l2
  rotate_left
  · -- the end
    refine cond_f (by simp; omega) ?_
    intro k2 hk2
    have hbp := hB.pot
    have fin : ∀ (m : Nat) w, (units m (H, st)).2 = [] → Sat [HeapH (units m (H, st)).1 (mkW mb) b, MkH b mb (units m (H, st)).2 true, Ro W S1, Row b1 r0.cells 49, Row b0 r.cells 49] w → k2 true w := by
      intro m w hdone h3
      refine hk2 _ _ ?_
      unfold S_law10_MarkBusy_j3
      refine cond_f rfl ?_
      have hBm := bz_units hB m
      obtain ⟨_, hsk, _⟩ := units_ok (s := (H, st)) hm m
      have hon : q = 0 → Only (units m (H, st)) ∧ Sk H0 (units m (H, st)).1 := fun h => ⟨Only.units hB.inv (hz0 h).1 m, (hz0 h).2.trans hsk⟩
      dsimp only at hsk
      generalize units m (H, st) = s1 at h3 hBm hsk hon hdone
      refine ⟨fun j w => ∃ g : Nat, j = g ∧ g ≤ hs.length ∧ Sat [HeapH s1.1 (mkW mb) b, MkH b mb s1.2 true, Ro W S1, Row b1 r0.cells 49, Row b0 r.cells 49] w, fun j _ => (hs.length - j).toNat, ⟨0, rfl, by omega, h3⟩, ?_⟩
      clear h3 h5
      rintro j w4 ⟨g, rfl, hg, h4⟩
      unfold S_law10_MarkBusy_l1
      by_cases hgl : g < hs.length
      rotate_left
      · refine cond_f (by simp; omega) ?_
        have h5 := h4.drew
        generalize w4.drew = w5 at h5
        clear h4
        refine ⟨fun w => ∃ (L : List HP) (i : Nat), L[i]? = some (Row b0 r.cells 49) ∧ Sat L w, ⟨_, 4, rfl, h5⟩, ?_⟩
        refine qRh (r := r) (b := b0) (T := 49) (fun w ⟨L, i, hi, h⟩ => ⟨_, h.pull i hi⟩) ?_
        have h7 : Sat (HeapH s1.1 (mkW mb) b :: Ro W S1 :: [MkH b mb s1.2 true, Row b1 r0.cells 49, Row b0 r.cells 49]) w5 := (Sat.pull h5 2 rfl).p1
        refine (graph_c h7).mono ?_
        rintro e w7 ⟨gp, gc, np, nc, S2, gs, rfl, hE2, hR, hN, h8⟩
        refine ⟨_, _, _, _, _, _, rfl, ⟨_, 4, rfl, h8⟩, ?_⟩
        refine (differ_c (r := r) (sk_graphR hsk) (sk_graphN hsk) hm (Sat.p1 h8) (hM1.mono hE2) (by omega) hR hN).mono ?_
        rintro e w8 ⟨rfl, S3, hE3, h9⟩
        exact ⟨_, rfl, rfl, h9.roBelow 0 rfl (hE.trans (hE1.trans (hE2.trans hE3)))⟩
      refine cond_t (by simp; omega) ?_
      intro k3 hk3
      have goOn : ∀ w, Sat [HeapH s1.1 (mkW mb) b, MkH b mb s1.2 true, Ro W S1, Row b1 r0.cells 49, Row b0 r.cells 49] w → k3 w := by
        intro w h
        refine hk3 _ ?_
        unfold S_law10_MarkBusy_j2
        rw [wrapI64 (by omega) (by omega)]
        exact ⟨⟨g + 1, by omega, by omega, h⟩, by first | omega | (dsimp only; omega)⟩
      have hxg : hs[g]? = some hs[g] := List.getElem?_eq_getElem hgl
      generalize hs[g] = x at hxg
      have hxl : (H.look x).isSome = true := (hM1.live x).1 (List.mem_of_getElem? hxg)
      have hxu : x < 18446744073709551616 := by
        obtain ⟨o, ho⟩ := Option.isSome_iff_exists.1 hxl
        exact look_lt hm ho
      refine rd_word hT (h4.has 2 rfl) hxg rfl ?_
      refine (mmarked_c h4 hxu).mono ?_
      rintro e w5 ⟨rfl, h5⟩
      rw [if_pos (by rw [hsk.isSome]; exact hxl)]
      refine ⟨_, _, rfl, ?_⟩
      have h6 := h5.drew
      generalize w5.drew = w6 at h6
      clear h4 h5
      refine ⟨fun w => ∃ (L : List HP) (i j : Nat), L[i]? = some (Row b0 r.cells 49) ∧ L[j]? = some (Row b1 r0.cells 49) ∧ Has S1 w ∧ Sat L w, ⟨_, 4, 3, rfl, rfl, h6.has 2 rfl, h6⟩, ?_⟩
      refine cond_f rfl ?_
      obtain ⟨a, ha, hra⟩ := hT.reads g (.int .u64 (x : Int)) (by unfold words; rw [List.getElem?_map, hxg]; rfl)
      subst ha
      have ix : ∀ {K : Addr → Prop}, K (a.add (g * 1)) → IdxC (some a) hs.length (g : Int) 1 K := fun h => ⟨by omega, by omega, by rw [Int.toNat_natCast]; exact h⟩
      have rdx : ∀ w, Has S1 w → w.cell? (a.add (g * 1)) = some (.int .u64 (x : Int)) := fun w hw => by rw [Nat.mul_one]; exact hra w hw
      cases hmk : isM s1.1 x with
      | false =>
        refine cond_t rfl ?_
        refine qRh (r := r) (b := b0) (T := 49) (fun w ⟨L, i, j, hi, hj, _, h⟩ => ⟨_, h.pull i hi⟩) ?_
        refine ix ⟨x, fun w ⟨L, i, j, hi, hj, hw, h⟩ => LdI.at (rdx w hw) rfl, ?_⟩
        refine (reached9_c (r := r) hm h6 2 rfl hM1 (by omega) x).mono ?_
        rintro e w7 ⟨rfl, h7⟩
        refine ⟨_, rfl, ⟨_, 4, 3, rfl, rfl, h7.has 2 rfl, h7⟩, ?_⟩
        have hno : x ∉ order H := fun hh => by
          have := hBm.inv.all hdone (hsk.reach ((order_iff hm).1 hh))
          dsimp only at this
          rw [hmk] at this; cases this
        refine cond_f (by simp [hno]) ?_
        have hga : g < hs0.length := by
          rcases Nat.lt_or_ge g hs0.length with h | h
          · exact h
          · have := hBm.new g x h hxg; rw [hmk] at this; cases this
        refine cond_f (by simp; omega) ?_
        exact cond_f rfl (goOn _ h7)
      | true =>
        refine cond_f rfl (cond_t rfl ?_)
        by_cases hga : g < hs0.length
        rotate_left
        · exact cond_f (by simp; omega) (goOn _ h6)
        refine cond_t (by simp; omega) ?_
        by_cases hz2 : l2 = 0
        rotate_left
        · exact cond_f (by simp; omega) (goOn _ h6)
        refine cond_t (by simp; omega) ?_
        obtain ⟨hon1, hon2⟩ := hon (by omega)
        have hyes : x ∈ order H0 := (order_iff hm0).2 (hon2.symm.reach (hon1 x hmk))
        refine qRh (r := r0) (b := b1) (T := 49) (fun w ⟨L, i, j, hi, hj, _, h⟩ => ⟨_, h.pull j hj⟩) ?_
        refine ix ⟨x, fun w ⟨L, i, j, hi, hj, hw, h⟩ => LdI.at (rdx w hw) rfl, ?_⟩
        refine (reached9_c (r := r0) hm0 h6 2 rfl (hM.mono hE1) (by omega) x).mono ?_
        rintro e w7 ⟨rfl, h7⟩
        refine ⟨_, rfl, ?_⟩
        exact cond_f (by simp [hyes]) (goOn _ h7)
    refine ⟨fun dn i w => ∃ q' m : Nat, i = q' ∧ (dn = false → m = 3 * q' ∧ pot (units m (H, st)) + m ≤ 300) ∧ (dn = true → (units m (H, st)).2 = []) ∧
      Sat [HeapH (units m (H, st)).1 (mkW mb) b, MkH b mb (units m (H, st)).2 true, Ro W S1, Row b1 r0.cells 49, Row b0 r.cells 49] w, fun _ i _ => (1000 - i).toNat, ⟨0, 0, rfl, fun _ => ⟨rfl, hbp⟩, fun h => (by cases h), h5⟩, ?_⟩
    clear h5
    rintro dn i w9 ⟨q', m, rfl, hn, hd, h7⟩
    unfold S_law10_MarkBusy_l0
    cases dn with
    | true =>
      have a1 := hd rfl
      by_cases hq' : q' < 1000
      · exact cond_t (by simp; omega) (cond_f rfl (fin m _ a1 h7))
      · exact cond_f (by simp; omega) (fin m _ a1 h7)
    | false =>
      obtain ⟨hm3, hn⟩ := hn rfl
      refine cond_t (by simp; omega) (cond_t rfl ?_)
      have hIq := hB.inv.units m
      refine (mstep_c h7 (n := 3) (by omega) (by omega) (by have : pot ((units m (H, st)).1, (units m (H, st)).2) = pot (units m (H, st)) := rfl; omega) (inv_small hIq)).mono ?_
      rintro e w10 ⟨rfl, h8⟩
      have he : units 3 ((units m (H, st)).1, (units m (H, st)).2) = units (m + 3) (H, st) := by rw [units_add]
      rw [he] at h8 ⊢
      refine ⟨_, _, rfl, cond_f rfl ?_⟩
      obtain ⟨_, _, hp⟩ := units_ok (s := units m (H, st)) hIq.wf 3
      rw [show units 3 (units m (H, st)) = units (m + 3) (H, st) from he] at hp
      rw [wrapI64 (by omega) (by omega)]
      refine ⟨⟨q' + 1, m + 3, by omega, fun h => ?_, fun h => of_decide_eq_true h, h8⟩, by first | omega | (dsimp only; omega)⟩
      have := hp (of_decide_eq_false h)
      omega
  -- a deed
  refine cond_t (by simp; omega) ?_
  intro k0 hk0 k1 hk1
  obtain ⟨a, d, rfl, hzd, hy64, hcell⟩ := deed_rd hx2 hql
  have rd : ∀ j v, d.cells[j]? = some v → ∀ w, Has S1 w → w.cell? ((a.add (q * 6)).add j) = some v := fun j v hj w hw => ((RdS.base (hcell j v hj)).mono (hE.trans hE1)) w hw
  have rd0 : ∀ w, Has S1 w → w.cell? (a.add (q * 6)) = some (.int .i64 d.d) := fun w hw => by simpa [Addr.add] using rd 0 _ rfl w hw
  have go : ∀ n : Nat, 1 ≤ n → n ≤ 4 → k1 (n : Int) w8 := by
    intro n hn1 hn4
    refine hk1 _ _ ?_
    unfold S_law10_MarkBusy_j0
    have hbp := hB.pot
    refine (mstep_c h5 (n := n) (by omega) (by omega) (by omega) (inv_small hB.inv)).mono ?_
    rintro e w9 ⟨rfl, h6⟩
    have hBn := bz_units hB n
    obtain ⟨_, hsk, _⟩ := units_ok (s := (H, st)) hm n
    dsimp only at hsk
    have hM2 := hM1.sm (sk_sm hsk)
    generalize units n (H, st) = s1 at h6 hBn hsk hM2 ⊢
    refine ⟨_, _, rfl, ?_⟩
    have h7 := h6.drew
    generalize w9.drew = w10 at h7
    clear h5 h6
    have hlv : ∀ x, x ∈ hs → (s1.1.look x).isSome = true := fun x hh => (hM2.live x).1 hh
    obtain ⟨hB2, hgr⟩ := bz_play (mb := mb) (b := b) (d := d) hBn hat hlv hzd
    have hlen : hs0.length ≤ (playF (Wt.mark mb b) s1.1 s1.2 hs d).2.2.length := by
      rcases hgr with e | ⟨x, e⟩ <;> rw [e]
      · exact hat
      · simp; omega
    have hst : s1.2.length ≤ 1048576 := by have := hBn.pot; unfold pot at this; dsimp only at this; omega
    have hcn2 := hBn.pl.cnt
    have htn2 := hBn.pl.tn
    have play : ∀ {F : List HP} {w : World}, Sat (HeapH s1.1 (mkW mb) b :: MkH b mb s1.2 true :: Ro W S1 :: F) w → Calls Try.prog 24 #[.pointer (some ⟨b, 0, none⟩), r.agg, .slice tp hs.length tc, d.agg] w (PlayPost (Wt.mark mb b) (playF (Wt.mark mb b) s1.1 s1.2 hs d) W S1 F) :=
      fun h => play_c (T := Wt.mark mb b) (s := s1.2) h hst hM2 (by omega) hcn2 hT hzd hy64
    generalize playF (Wt.mark mb b) s1.1 s1.2 hs d = P at hB2 hlen play
    have after : ∀ (S' : Mem) (r' : Rh) (om' : List (R9 × Gq)) (tp' : Option Addr) (tc' b2 : Nat) (w' : World), Ext S1 S' → Mir S' P.1 P.2.2 r' om' → CRs S' 1 (words P.2.2) tp' P.2.2.length tc' →
        Sat (Row b2 r'.cells 49 :: [HeapH P.1 (mkW mb) b, MkH b mb P.2.1 true, Ro W S', Row b1 r0.cells 49, Row b0 r.cells 49]) w' →
        Ld_tidemarkref9_Heap w' ⟨b2, 0, none⟩ fun p l c n0 n1 n2 n3 n4 n5 n6 n7 n8 n9 n10 n11 n12 n13 n14 n15 => St_tidemarkref9_Heap w' ⟨b0, 0, none⟩ p l c n0 n1 n2 n3 n4 n5 n6 n7 n8 n9 n10 n11 n12 n13 n14 n15 fun w9 =>
          k0 tp' P.2.2.length tc' w9 := by
      intro S' r' om' tp' tc' b2 w' e1 hM' hT' h
      refine ldRh h 0 rfl (stRh (r := r') rfl h 5 rfl fun w2 h2 => ?_)
      refine hk0 _ _ _ _ ?_
      unfold S_law10_MarkBusy_j1
      rw [wrapI64 (by omega) (by omega)]
      exact ⟨⟨q + 1, S', P.1, P.2.1, P.2.2, r', om', by omega, by omega, hE1.trans e1, hM', hT', rfl, hB2, hlen, fun h => absurd h (by omega), Sat.drop h2⟩, by first | omega | (dsimp only; omega)⟩
    refine ⟨fun w => ∃ (L : List HP) (i : Nat), L[i]? = some (Row b0 r.cells 49) ∧ Has S1 w ∧ Sat L w, ⟨_, 4, rfl, h7.has 2 rfl, h7⟩, ?_⟩
    refine qRh (r := r) (b := b0) (T := 49) (fun w ⟨L, i, hi, _, h⟩ => ⟨_, h.pull i hi⟩) ?_
    refine ⟨by omega, by omega, ?_⟩
    rw [Int.toNat_natCast]
    refine ⟨d.d, d.x, d.y, d.i, d.j, (d.w : Int), fun w ⟨L, i, hi, hw, h⟩ => LdI.at (rd0 w hw) (LdI.at (rd 1 _ rfl w hw) (LdI.at (rd 2 _ rfl w hw) (LdI.at (rd 3 _ rfl w hw) (LdI.at (rd 4 _ rfl w hw) (LdI.at (rd 5 _ rfl w hw) rfl))))), ?_⟩
    refine ⟨?_, ?_⟩
    · refine (play h7).mono ?_
      rintro e w11 ⟨S', r', om', tp', tc', rfl, e1, hM', hT', _, h8⟩
      refine ⟨_, _, _, _, _, _, _, _, _, _, _, _, _, _, _, _, _, _, _, _, _, _, _, rfl, ?_⟩
      refine NewC.ofRow h8 fun b2 w12 h9 => ?_
      refine stRh (r := r') rfl h9 0 rfl fun w13 h10 => ?_
      exact cond_f rfl (cond_f rfl (after S' r' om' tp' tc' b2 w13 e1 hM' hT' h10))
    · refine NewC.ofRow h7 fun b2 w11 h8 => ⟨⟨_, 5, rfl, h8.has 3 rfl, h8⟩, ?_⟩
      have h9 : Sat (HeapH s1.1 (mkW mb) b :: MkH b mb s1.2 true :: Ro W S1 :: [Row b2 Rh.zero.cells 49, Row b1 r0.cells 49, Row b0 r.cells 49]) w11 := ((Sat.pull h8 3 rfl).pull 3 rfl).pull 3 rfl
      refine (play h9).mono ?_
      rintro e w12 ⟨S', r', om', tp', tc', rfl, e1, hM', hT', _, h10⟩
      refine ⟨_, _, _, _, _, _, _, _, _, _, _, _, _, _, _, _, _, _, _, _, _, _, _, rfl, ?_⟩
      refine stRh (r := r') rfl h10 3 rfl fun w13 h11 => ?_
      exact cond_f rfl (cond_f rfl (after S' r' om' tp' tc' b2 w13 e1 hM' hT' (Sat.pull h11 3 rfl)))
  by_cases hl1 : 0 < l1
  rotate_left
  · exact cond_f (by simp; omega) (go 1 (by omega) (by omega))
  refine cond_t (by simp; omega) ?_
  obtain ⟨a', rfl⟩ := hz.some hl1
  have hzl := hz.len
  have hmod : Int.tmod (q : Int) (l1 : Int) = ((q % l1 : Nat) : Int) := by rw [Int.tmod_eq_emod_of_nonneg (by omega)]; omega
  have hml : q % l1 < l1 := Nat.mod_lt _ hl1
  rw [hmod]
  generalize q % l1 = g at hml
  have hzq : zs[g]? = some zs[g] := List.getElem?_eq_getElem (by omega)
  have hrd := hz.reads a' rfl g (.int .i64 zs[g]) (by rw [List.getElem?_map, hzq]; rfl)
  refine ⟨by omega, by omega, by omega, ?_⟩
  rw [Int.toNat_natCast]
  refine LdI.at (((RdS.base (by rw [Nat.mul_one]; exact hrd)).mono (hE.trans hE1)) _ (h5.has 2 rfl)) ?_
  obtain ⟨x, hx7, hxe⟩ := bAnd_le zs[g] 3 (by omega)
  have hxe : bAnd .i64 zs[g] 3 = (x : Int) := hxe
  rw [hxe, show IntKind.wrap .i64 (1 + (x : Int)) = ((x + 1 : Nat) : Int) by rw [wrapI64 (by omega) (by omega)]; omega]
  exact go (x + 1) (by omega) (by omega)

set_option maxRecDepth 100000 in
theorem busy_lifted (os : Os) (started : os.Started) (H : Type) (enc : TypeId × Value → H) :
    ReturnsInHanded {} Try.checked os 6 .any (Rows.markBusySpec.pre6 enc Try.prog Try.f6 Rows.markBusyRow.domain false) (Rows.markBusySpec.post enc Try.prog Try.f6 false true false false) := by
  refine returnsInHanded_of_change (C := Try.checked) own started (by kernel_rfl) Try.func6
    (ChangeSpec.witness6 (enc := enc) (C := Try.checked) false ⟨#[], #[.slice none 0 0, .slice none 0 0, .slice none 0 0], []⟩ 8 (by kernel_rfl) (by kernel_rfl) (by kernel_rfl) (by kernel_rfl)) ?_
  intro W base args ds gs before hval hW hcnd _
  have hval : ∀ (j : Nat) t v, Try.f6.params[j]? = some t → args[j]? = some v → Value.okWide Try.prog W .any base t v := hval
  have hW' : DataW.Whole enc Try.prog Try.f6.params.toList Rows.markBusySpec.vars false W args.toList ds gs before := hW
  obtain ⟨p, q, hA, hV, _⟩ := hW'
  rw [Try.params6] at hA hval
  obtain ⟨v0, v1, v2, d0, d1, d2, p0, p1, p2, rfl, rfl, rfl, h0, h1, h2⟩ := trodAll_three hA
  obtain ⟨a0, l0, c0, rfl⟩ := okWide_slice Try.underlying44 (hval 0 44 v0 rfl rfl)
  obtain ⟨⟨xs0, hx0⟩, _⟩ := argRows (ks := dks9) Try.underlying44 Try.underlying57 (by kernel_rfl) (by kernel_rfl) (by kernel_rfl) h0
  obtain ⟨a1, l1, c1, rfl⟩ := okWide_slice Try.underlying44 (hval 1 44 v1 rfl rfl)
  obtain ⟨⟨xs1, hx1⟩, _⟩ := argRows (ks := dks9) Try.underlying44 Try.underlying57 (by kernel_rfl) (by kernel_rfl) (by kernel_rfl) h1
  obtain ⟨a2, l2, c2, rfl⟩ := okWide_slice Try.underlying45 (hval 2 45 v2 rfl rfl)
  obtain ⟨zs2, hz2⟩ := argInts Try.underlying45 Try.underlying3 (by kernel_rfl) h2
  refine (busy_c W hx0 hx1 hz2).mono fun e W' ⟨he, hs⟩ => ?_
  exact ⟨_, he, law_post (tb := 4) laidOut (by decide +kernel) (by kernel_rfl) Try.underlying4 rfl hW ⟨rfl, rfl, rfl⟩ hs⟩

theorem busy_holds : Rows.MarkBusySaid :=
  OpenClaim.holds_of_wide 6 Try.f6 rfl rfl rfl rfl rfl rfl rfl ⟨rfl, rfl, rfl, rfl, rfl⟩ rfl rfl rfl rfl rfl (by kernel_rfl) Try.func6 (by kernel_rfl)
    (of_decide_eq_true (by kernel_rfl)) (by unfold Func.isWrapper; first | (rw [if_pos (by decide +kernel)]; kernel_rfl) | (rw [if_neg (by decide +kernel)]; exact ⟨rfl, rfl⟩))
    (fun os started H enc _ => busy_lifted os started H enc)
