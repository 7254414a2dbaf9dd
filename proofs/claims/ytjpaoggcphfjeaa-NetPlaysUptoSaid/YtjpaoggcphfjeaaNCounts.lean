/- 'NetCounts' answers true: what was sent and copied is waiting, taken, or lost. For arguments of at most so much bulk. -/
import Derived.Test.YtjpaoggcphfjeaaNArg
import Derived.Test.YtjpaoggcphfjeaaNKnown
namespace Go.Proofs.Ytjpaoggcphfjeaa
open Go Go.Lw Go.Tb Go.Wd Go.Vd Go.ChangeShapes Go.WideShapes Go.ChangeAt Go.RowKit

theorem ldDeed {w : World} {a : Addr} {d : Dd} {m : Mg} {K : Int → Int → Int → Int → Int → Int → Int → Int → Int → Int → Int → Int → Int → Option Addr → Nat → Nat → Option Addr → Nat → Nat → Int → Int → ByteArray → Int → Int → Option Addr → Nat → Nat → Prop} (hc : ∀ j v, (ddCells d m)[j]? = some v → w.cell? (a.add j) = some v) (h : K d.do_ d.a d.b d.n m.kind m.from_ m.to m.view m.op m.commit m.base m.normal m.nonce m.lp m.ll m.lc m.ip m.il m.ic m.ec m.en m.et m.re m.rn m.dp m.dl m.dc) : Ld_tidemarklaw24_Deed w a K := by
  unfold Ld_tidemarklaw24_Deed
  exact LdI.at (by simpa [Addr.add] using hc 0 _ rfl) (LdI.at (hc 1 _ rfl) (LdI.at (hc 2 _ rfl) (LdI.at (hc 3 _ rfl) (LdI.at (hc 4 _ rfl) (LdI.at (hc 5 _ rfl) (LdI.at (hc 6 _ rfl) (LdI.at (hc 7 _ rfl) (LdI.at (hc 8 _ rfl) (LdI.at (hc 9 _ rfl) (LdI.at (hc 10 _ rfl) (LdI.at (hc 11 _ rfl) (LdI.at (hc 12 _ rfl) (LdS.at (hc 13 _ rfl) (LdS.at (hc 14 _ rfl) (LdI.at (hc 15 _ rfl) (LdI.at (hc 16 _ rfl) (LdStr.at (hc 17 _ rfl) (LdI.at (hc 18 _ rfl) (LdI.at (hc 19 _ rfl) (LdS.at (hc 20 _ rfl) (h)))))))))))))))))))))
theorem stDeed {L : List HP} {w : World} {b T : Nat} {c0 c1 c2 c3 c4 c5 c6 c7 c8 c9 c10 c11 c12 c13 c14 c15 c16 c17 c18 c19 c20 : Value} {d : Dd} {m : Mg} {K : World → Prop} (hs : Sat L w) (i : Nat) (hi : L[i]? = some (Row b [c0, c1, c2, c3, c4, c5, c6, c7, c8, c9, c10, c11, c12, c13, c14, c15, c16, c17, c18, c19, c20] T)) (h : ∀ w', Sat (L.set i (Row b (ddCells d m) T)) w' → K w') : St_tidemarklaw24_Deed w ⟨b, 0, none⟩ d.do_ d.a d.b d.n m.kind m.from_ m.to m.view m.op m.commit m.base m.normal m.nonce m.lp m.ll m.lc m.ip m.il m.ic m.ec m.en m.et m.re m.rn m.dp m.dl m.dc K := by
  unfold St_tidemarklaw24_Deed
  simp only [add_mk, Nat.zero_add]
  refine StC.of hs i hi (off := 0) rfl rfl fun w1 h1 => ?_
  simp only [List.set_cons_succ, List.set_cons_zero] at h1
  refine StC.of h1 i (get_set_self hi) (off := 1) rfl rfl fun w2 h2 => ?_
  rw [set_set_self] at h2
  simp only [List.set_cons_succ, List.set_cons_zero] at h2
  refine StC.of h2 i (get_set_self hi) (off := 2) rfl rfl fun w3 h3 => ?_
  rw [set_set_self] at h3
  simp only [List.set_cons_succ, List.set_cons_zero] at h3
  refine StC.of h3 i (get_set_self hi) (off := 3) rfl rfl fun w4 h4 => ?_
  rw [set_set_self] at h4
  simp only [List.set_cons_succ, List.set_cons_zero] at h4
  refine StC.of h4 i (get_set_self hi) (off := 4) rfl rfl fun w5 h5 => ?_
  rw [set_set_self] at h5
  simp only [List.set_cons_succ, List.set_cons_zero] at h5
  refine StC.of h5 i (get_set_self hi) (off := 5) rfl rfl fun w6 h6 => ?_
  rw [set_set_self] at h6
  simp only [List.set_cons_succ, List.set_cons_zero] at h6
  refine StC.of h6 i (get_set_self hi) (off := 6) rfl rfl fun w7 h7 => ?_
  rw [set_set_self] at h7
  simp only [List.set_cons_succ, List.set_cons_zero] at h7
  refine StC.of h7 i (get_set_self hi) (off := 7) rfl rfl fun w8 h8 => ?_
  rw [set_set_self] at h8
  simp only [List.set_cons_succ, List.set_cons_zero] at h8
  refine StC.of h8 i (get_set_self hi) (off := 8) rfl rfl fun w9 h9 => ?_
  rw [set_set_self] at h9
  simp only [List.set_cons_succ, List.set_cons_zero] at h9
  refine StC.of h9 i (get_set_self hi) (off := 9) rfl rfl fun w10 h10 => ?_
  rw [set_set_self] at h10
  simp only [List.set_cons_succ, List.set_cons_zero] at h10
  refine StC.of h10 i (get_set_self hi) (off := 10) rfl rfl fun w11 h11 => ?_
  rw [set_set_self] at h11
  simp only [List.set_cons_succ, List.set_cons_zero] at h11
  refine StC.of h11 i (get_set_self hi) (off := 11) rfl rfl fun w12 h12 => ?_
  rw [set_set_self] at h12
  simp only [List.set_cons_succ, List.set_cons_zero] at h12
  refine StC.of h12 i (get_set_self hi) (off := 12) rfl rfl fun w13 h13 => ?_
  rw [set_set_self] at h13
  simp only [List.set_cons_succ, List.set_cons_zero] at h13
  refine StC.of h13 i (get_set_self hi) (off := 13) rfl rfl fun w14 h14 => ?_
  rw [set_set_self] at h14
  simp only [List.set_cons_succ, List.set_cons_zero] at h14
  refine StC.of h14 i (get_set_self hi) (off := 14) rfl rfl fun w15 h15 => ?_
  rw [set_set_self] at h15
  simp only [List.set_cons_succ, List.set_cons_zero] at h15
  refine StC.of h15 i (get_set_self hi) (off := 15) rfl rfl fun w16 h16 => ?_
  rw [set_set_self] at h16
  simp only [List.set_cons_succ, List.set_cons_zero] at h16
  refine StC.of h16 i (get_set_self hi) (off := 16) rfl rfl fun w17 h17 => ?_
  rw [set_set_self] at h17
  simp only [List.set_cons_succ, List.set_cons_zero] at h17
  refine StC.of h17 i (get_set_self hi) (off := 17) rfl rfl fun w18 h18 => ?_
  rw [set_set_self] at h18
  simp only [List.set_cons_succ, List.set_cons_zero] at h18
  refine StC.of h18 i (get_set_self hi) (off := 18) rfl rfl fun w19 h19 => ?_
  rw [set_set_self] at h19
  simp only [List.set_cons_succ, List.set_cons_zero] at h19
  refine StC.of h19 i (get_set_self hi) (off := 19) rfl rfl fun w20 h20 => ?_
  rw [set_set_self] at h20
  simp only [List.set_cons_succ, List.set_cons_zero] at h20
  refine StC.of h20 i (get_set_self hi) (off := 20) rfl rfl fun w21 h21 => ?_
  rw [set_set_self] at h21
  simp only [List.set_cons_succ, List.set_cons_zero] at h21
  exact h _ h21
theorem fresh_d (T : MT) (s : T.σ) {n : Nat} (h1 : 1 ≤ n) (h2 : n ≤ 100000) {F : List HP} {w : World} (hs : Sat F w) :
    Calls Try.prog 9 #[.int .i64 (n : Int)] w fun e w' => ∃ b, e = .returned (.pointer (some ⟨b, 0, none⟩)) ∧ Sat (NetP T s (Nt.new n) b :: F) w' := by
  refine S_law24_fresh_ok _ _ _ ?_
  unfold S_law24_fresh
  refine (netnew_c T s h1 h2 hs).mono ?_
  rintro e w' ⟨b, rfl, hs'⟩
  exact ⟨_, _, rfl, cond_f rfl ⟨b, rfl, hs'⟩⟩
theorem Nt.erase_len {α : Type} {N : Nt α} {i : Nat} {y : Nat × α} (h : N.l[i]? = some y) : (N.erase i).l.length + 1 = N.l.length := by
  have := get_lt h
  unfold Nt.erase
  simp only
  rw [List.length_eraseIdx, if_pos this]
  omega

theorem counts_c (W : World) (z : Int) {p : Option Addr} {l c : Nat} {L : List Dd} (hL : DRs (Mem.of W) L p l) :
    Calls Try.prog 6 #[.int .i64 z, .slice p l c] W (Ret (.bool true) (Go.RowKit.Below W.heap.size W)) := by
  have hll := hL.len; have hlm := hL.lim
  have h0 : Sat [Ro W (Mem.of W)] W := Sat.ofBase W
  refine S_law24_NetCounts_ok _ _ _ _ _ _ ?_
  unfold S_law24_NetCounts
  refine (awake_c h0).mono ?_
  rintro e w1 ⟨rfl, h1⟩
  refine ⟨true, rfl, cond_f rfl ?_⟩
  refine (vast_c hL h1).mono ?_
  rintro e w2 ⟨ok, S0, e0, rfl, h2⟩
  refine ⟨ok, rfl, ?_⟩
  have hend : ∀ {S : Mem} {F : List HP} {w : World}, Ext (Mem.of W) S → Sat (Ro W S :: F) w → Go.RowKit.Below W.heap.size W w := fun e h => h.roBelow 0 rfl e
  cases ok
  rotate_left
  · exact cond_t rfl ⟨rfl, hend e0 h2⟩
  refine cond_f rfl ?_
  obtain ⟨k, hk, hke⟩ := bAnd_le z 31 (by omega)
  have hke : bAnd .i64 z 31 = (k : Int) := hke
  have hn : IntKind.wrap .i64 (1 + bAnd .i64 z 31) = ((k + 1 : Nat) : Int) := by rw [hke, wrapI64 (by omega) (by omega)]; omega
  rw [hn]
  refine (fresh_d (Deep W) S0 (n := k + 1) (by omega) (by omega) h2).mono ?_
  rintro e w3 ⟨b, rfl, h3⟩
  refine ⟨_, rfl, cond_f rfl ?_⟩
  refine ⟨fun i o x w => ∃ (q : Nat) (S : Mem) (N : Nt (Deep W).α) (io oo : Nat), x = q ∧ i = io ∧ o = oo ∧ q ≤ L.length ∧ Ext (Mem.of W) S ∧ N.most = k + 1 ∧ N.last ≤ q ∧ N.lost ≤ q ∧ io ≤ q ∧ N.l.length + oo + N.lost = io ∧ Sat [NetP (Deep W) S N b, Ro W S] w,
    fun _ _ x _ => (L.length - x).toNat, ⟨0, S0, Nt.new (k + 1), 0, 0, rfl, rfl, rfl, by omega, e0, rfl, Nat.le_refl _, Nat.le_refl _, Nat.le_refl _, rfl, h3⟩, ?_⟩
  clear h0 h1 h2 h3
  rintro i o x w4 ⟨q, S, N, io, oo, rfl, rfl, rfl, hq, hE, hm, hla, hlo, hio, hsum, h4⟩
  unfold S_law24_NetCounts_l0
  by_cases hql : q < L.length
  rotate_left
  · exact cond_f (by simp; omega) ⟨rfl, hend hE (h4.pull 1 rfl)⟩
  refine cond_t (by simp; omega) ?_
  intro k0 hk0
  have hx : L[q]? = some L[q] := List.getElem?_eq_getElem hql
  generalize L[q] = d at hx
  have goOn : ∀ (S' : Mem) (N' : Nt (Deep W).α) (io' oo' : Nat) (w' : World), Ext S S' → N'.most = k + 1 → N'.last ≤ q + 1 → N'.lost ≤ q + 1 → io' ≤ q + 1 → N'.l.length + oo' + N'.lost = io' → Sat [NetP (Deep W) S' N' b, Ro W S'] w' → k0 (io' : Int) (oo' : Int) w' := by
    intro S' N' io' oo' w' a1 a2 a3 a4 a5 a6 a7
    refine hk0 _ _ _ ?_
    unfold S_law24_NetCounts_j1
    rw [wrapI64 (by omega) (by omega)]
    exact ⟨⟨q + 1, S', N', io', oo', by omega, rfl, rfl, by omega, hE.trans a1, a2, a3, a4, a5, a6, a7⟩, by first | omega | (dsimp only; omega)⟩
  refine DRs.rd (hL.mono hE) (h4.has 1 rfl) hx fun a m hd hc => ?_
  refine ldDeed (d := d) (m := m) hc ?_
  refine NewC.ofRow h4 fun b0 w5 h5 => stDeed (d := d) (m := m) h5 0 rfl fun w6 h6 => ?_
  intro k1 hk1
  have h7 : Sat [NetP (Deep W) S N b, Ro W S, Row b0 (ddCells d m) 52] w6 := Sat.pull (Sat.pull h6 2 rfl) 2 rfl
  clear h5 h6
  have step : ∀ (S' : Mem) (N' : Nt (Deep W).α) (io' oo' : Nat) (w' : World) (F : List HP), Ext S S' → N'.most = k + 1 → N'.last ≤ q + 1 → N'.lost ≤ q + 1 → io' ≤ q + 1 → N'.l.length + oo' + N'.lost = io' → Sat (NetP (Deep W) S' N' b :: Ro W S' :: Row b0 (ddCells d m) 52 :: []) w' → k1 (io' : Int) (oo' : Int) w' := by
    intro S' N' io' oo' w' F a1 a2 a3 a4 a5 a6 a7
    refine hk1 _ _ _ ?_
    unfold S_law24_NetCounts_j0
    refine (count_c a7).mono ?_
    rintro e w'' ⟨rfl, rfl⟩
    refine ⟨_, rfl, ?_⟩
    refine (lost_c a7).mono ?_
    rintro e w'' ⟨rfl, rfl⟩
    refine ⟨_, rfl, ?_⟩
    have hwf := (net_open a7).1
    have hcnt := hwf.cnt
    rw [hn, wrapI64 (n := (N'.l.length : Int) + (oo' : Int)) (by omega) (by omega), wrapI64 (by omega) (by omega)]
    refine cond_f (by simp; omega) ?_
    refine (count_c a7).mono ?_
    rintro e w'' ⟨rfl, rfl⟩
    refine ⟨_, rfl, ?_⟩
    exact cond_f (by simp; omega) (goOn S' N' io' oo' _ a1 a2 a3 a4 a5 a6 ((a7.pull 2 rfl).drop))
  have hwf := (net_open h7).1
  simp only [add_mk, Nat.zero_add]
  refine LdI.of h7 2 rfl (off := 0) rfl rfl ?_
  by_cases hd3 : d.do_ ≤ 3
  · refine cond_t (by simpa using hd3) ?_
    refine ldMsg (m := m) (fun j v hj => by rw [add_mk]; exact h7.cell 2 rfl (off := 4 + j) (by unfold ddCells; rw [List.getElem?_append_right (by simp)]; simpa using hj)) ?_
    refine (send_c (T := Deep W) h7 hd (by omega) (by omega)).mono ?_
    intro e w8 h8
    have hio1 : IntKind.wrap .i64 ((io : Int) + 1) = ((io + 1 : Nat) : Int) := by rw [wrapI64 (by omega) (by omega)]; omega
    by_cases hc1 : N.off (min ((Deep W).fr d.m) ((Deep W).tt d.m)) (max ((Deep W).fr d.m) ((Deep W).tt d.m)) = true
    · rw [if_pos hc1] at h8
      obtain ⟨rfl, h8⟩ := h8
      refine ⟨_, _, rfl, ?_⟩
      rw [hio1]
      exact step S N.lose (io + 1) oo _ [] (Ext.refl S) hm (by dsimp only [Nt.lose]; omega) (by dsimp only [Nt.lose]; omega) (by omega) (by dsimp only [Nt.lose]; omega) h8
    · rw [if_neg hc1] at h8
      by_cases hf : N.most ≤ N.l.length
      · rw [if_pos hf] at h8
        obtain ⟨rfl, h8⟩ := h8
        refine ⟨_, _, rfl, ?_⟩
        rw [hio1]
        exact step S N.lose (io + 1) oo _ [] (Ext.refl S) hm (by dsimp only [Nt.lose]; omega) (by dsimp only [Nt.lose]; omega) (by omega) (by dsimp only [Nt.lose]; omega) h8
      · rw [if_neg hf] at h8
        obtain ⟨S', e1, rfl, h8⟩ := h8
        refine ⟨_, _, rfl, ?_⟩
        rw [hio1]
        exact step S' (N.add d.m) (io + 1) oo _ [] e1 hm (by dsimp only [Nt.add]; omega) (by dsimp only [Nt.add]; omega) (by omega) (by dsimp only [Nt.add]; rw [List.length_append, List.length_singleton]; omega) h8
  refine cond_f (by simpa using hd3) ?_
  refine LdI.of h7 2 rfl (off := 0) rfl rfl ?_
  obtain ⟨k', hk', hke'⟩ := bAnd_le d.n 65535 (by omega)
  have hke' : bAnd .i64 d.n 65535 = (k' : Int) := hke'
  have hpick : N.l ≠ [] → ∃ x, N.l[k' % N.l.length]? = some x := fun h =>
    ⟨_, List.getElem?_eq_getElem (Nat.mod_lt _ (List.length_pos_iff.2 h))⟩
  by_cases hd6 : d.do_ ≤ 6
  · refine cond_t (by simpa using hd6) ?_
    refine LdI.of h7 2 rfl (off := 3) rfl rfl ?_
    rw [hke']
    by_cases hne : N.l = []
    · refine (pick_no h7 hne).mono ?_
      rintro e w8 ⟨rfl, h8⟩
      refine ⟨_, _, rfl, cond_t rfl ?_⟩
      refine (count_c h8).mono ?_
      rintro e w9 ⟨rfl, rfl⟩
      refine ⟨_, rfl, cond_f (by rw [hne]; rfl) (cond_f rfl ?_)⟩
      exact goOn S N io oo _ (Ext.refl S) hm (by omega) (by omega) (by omega) hsum ((h8.pull 2 rfl).drop)
    · obtain ⟨x, hx'⟩ := hpick hne
      have hid := hwf.ids x (List.mem_of_getElem? hx')
      refine (pick_ok h7 hx').mono ?_
      rintro e w8 ⟨rfl, h8⟩
      refine ⟨_, _, rfl, cond_f rfl ?_⟩
      refine (take_c (T := Deep W) h8 (by omega) (id := (x.1 : Int)) (by omega)).mono ?_
      rintro e w9 (⟨hno, _⟩ | ⟨i, y, m', hy, _, _, rfl, h9⟩)
      · exact absurd rfl (hno x (List.mem_of_getElem? hx'))
      · refine ⟨_, _, _, _, _, _, _, _, _, _, _, _, _, _, _, _, _, _, _, _, _, _, _, _, rfl, ?_⟩
        refine NewC.ofRow h9 fun b1 w10 h10 => stMsg (m := m') h10 0 rfl fun w11 h11 => ?_
        refine cond_f rfl ?_
        have hoo : IntKind.wrap .i64 ((oo : Int) + 1) = ((oo + 1 : Nat) : Int) := by rw [wrapI64 (by omega) (by omega)]; omega
        have hel := Nt.erase_len hy
        rw [hoo]
        exact step S (N.erase i) io (oo + 1) _ [] (Ext.refl S) hm (by dsimp only [Nt.erase]; omega) (by dsimp only [Nt.erase]; omega) (by omega) (by have : (N.erase i).lost = N.lost := rfl; omega) h11.drop
  refine cond_f (by simpa using hd6) ?_
  refine LdI.of h7 2 rfl (off := 0) rfl rfl ?_
  by_cases hd7 : d.do_ = 7
  · refine cond_t (by simpa using hd7) ?_
    refine LdI.of h7 2 rfl (off := 3) rfl rfl ?_
    rw [hke']
    by_cases hne : N.l = []
    · refine (pick_no h7 hne).mono ?_
      rintro e w8 ⟨rfl, h8⟩
      refine ⟨_, _, rfl, ?_⟩
      refine (copy_c (T := Deep W) h8 (by omega) (id := 0) (by omega)).mono ?_
      rintro e w9 (⟨_, rfl, h9⟩ | ⟨i, y, hy, _⟩)
      · refine ⟨_, _, rfl, cond_f rfl ?_⟩
        exact step S N io oo _ [] (Ext.refl S) hm (by omega) (by omega) (by omega) hsum h9
      · rw [hne] at hy; simp at hy
    · obtain ⟨x, hx'⟩ := hpick hne
      have hid := hwf.ids x (List.mem_of_getElem? hx')
      refine (pick_ok h7 hx').mono ?_
      rintro e w8 ⟨rfl, h8⟩
      refine ⟨_, _, rfl, ?_⟩
      refine (copy_c (T := Deep W) h8 (by omega) (id := (x.1 : Int)) (by omega)).mono ?_
      rintro e w9 (⟨hno, _⟩ | ⟨i, y, hy, _, h9⟩)
      · exact absurd rfl (hno x (List.mem_of_getElem? hx'))
      · by_cases hf : N.most ≤ N.l.length
        · rw [if_pos hf] at h9
          obtain ⟨rfl, h9⟩ := h9
          refine ⟨_, _, rfl, cond_t rfl (cond_f rfl ?_)⟩
          exact step S N io oo _ [] (Ext.refl S) hm (by omega) (by omega) (by omega) hsum h9
        · rw [if_neg hf] at h9
          obtain ⟨S', e1, rfl, h9⟩ := h9
          refine ⟨_, _, rfl, cond_t rfl (cond_t rfl ?_)⟩
          have hio1 : IntKind.wrap .i64 ((io : Int) + 1) = ((io + 1 : Nat) : Int) := by rw [wrapI64 (by omega) (by omega)]; omega
          rw [hio1]
          exact step S' (N.add y.2) (io + 1) oo _ [] e1 hm (by dsimp only [Nt.add]; omega) (by dsimp only [Nt.add]; omega) (by omega) (by dsimp only [Nt.add]; rw [List.length_append, List.length_singleton]; omega) h9
  refine cond_f (by simpa using hd7) ?_
  refine LdI.of h7 2 rfl (off := 0) rfl rfl ?_
  by_cases hd8 : d.do_ = 8
  · refine cond_t (by simpa using hd8) ?_
    refine LdI.of h7 2 rfl (off := 3) rfl rfl ?_
    rw [hke']
    by_cases hne : N.l = []
    · refine (pick_no h7 hne).mono ?_
      rintro e w8 ⟨rfl, h8⟩
      refine ⟨_, _, rfl, cond_f rfl ?_⟩
      exact step S N io oo _ [] (Ext.refl S) hm (by omega) (by omega) (by omega) hsum h8
    · obtain ⟨x, hx'⟩ := hpick hne
      have hid := hwf.ids x (List.mem_of_getElem? hx')
      refine (pick_ok h7 hx').mono ?_
      rintro e w8 ⟨rfl, h8⟩
      refine ⟨_, _, rfl, cond_t rfl ?_⟩
      refine (drop_c (T := Deep W) h8 (by omega) (by omega) (id := (x.1 : Int)) (by omega)).mono ?_
      rintro e w9 (⟨hno, _⟩ | ⟨i, y, hy, _, rfl, h9⟩)
      · exact absurd rfl (hno x (List.mem_of_getElem? hx'))
      · refine ⟨_, rfl, cond_f rfl ?_⟩
        have hel := Nt.erase_len hy
        exact step S (N.erase i).lose io oo _ [] (Ext.refl S) hm (by dsimp only [Nt.erase, Nt.lose]; omega) (by dsimp only [Nt.erase, Nt.lose]; omega) (by omega)
          (by have h1 : (N.erase i).lose.lost = N.lost + 1 := rfl; have h2 : (N.erase i).lose.l = (N.erase i).l := rfl; rw [h1, h2]; omega) h9
  refine cond_f (by simpa using hd8) ?_
  refine LdI.of h7 2 rfl (off := 1) rfl rfl (LdI.of h7 2 rfl (off := 2) rfl rfl (LdI.of h7 2 rfl (off := 0) rfl rfl ?_))
  refine (cut_c h7 d.a d.b _).mono ?_
  rintro e w8 ⟨rfl, h8⟩
  refine ⟨rfl, ?_⟩
  exact step S (N.cut d.a d.b _) io oo _ [] (Ext.refl S) hm (by dsimp only [Nt.cut]; omega) (by dsimp only [Nt.cut]; omega) (by omega) hsum h8

theorem small_mem {H : Type} {ds : List (DataW H)} {x : DataW H} (h : Rows.uptoSmall H ds = true) (hm : x ∈ ds) : Rows.uptoBulk x ≤ 1048576 := by
  have h1 : Rows.uptoBulkAll ds ≤ 1048576 := of_decide_eq_true h
  have h2 := bulkAll_mem ds _ hm
  omega

set_option maxRecDepth 100000 in
theorem counts_lifted (os : Os) (started : os.Started) (H : Type) (enc : TypeId × Value → H) (F : Stop.Interp) :
    ReturnsInHanded {} Try.checked os 6 .any ((Rows.OpenSpec.upto Rows.netCountsSpec).pre6 enc Try.prog Try.f6 Rows.netCountsUptoRow.domain false) (((Rows.OpenSpec.upto Rows.netCountsSpec).at F).post enc Try.prog Try.f6 false true false false) := by
  refine returnsInHanded_of_cond (C := Try.checked) (s := Rows.OpenSpec.upto Rows.netCountsSpec) (k := Rows.uptoSmall) rfl own started (by kernel_rfl) Try.func6
    (OpenSpec.witness (enc := enc) (C := Try.checked) (s := Rows.OpenSpec.upto Rows.netCountsSpec) (k := Rows.uptoSmall) rfl false ⟨#[], #[.int .i64 0, .slice none 0 0], []⟩ 8 (by kernel_rfl) (by kernel_rfl) (by kernel_rfl)
      (x := ([.lit (.int .i64 0), .nil], [], [])) (by kernel_rfl) rfl (by kernel_rfl)) ?_
  intro W base args ds gs before hval hW hcnd hsm _
  have hval : ∀ (j : Nat) t v, Try.f6.params[j]? = some t → args[j]? = some v → Value.okWide Try.prog W .any base t v := hval
  have hW : DataW.Whole enc Try.prog Try.f6.params.toList Rows.netCountsSpec.vars false W args.toList ds gs before := hW
  have hW' := hW
  obtain ⟨p, q, hA, hV, _⟩ := hW'
  rw [Try.params6] at hA hval
  obtain ⟨v0, v1, d0, d1, p0, p1, rfl, rfl, rfl, h0, h1⟩ := trodAll_two hA
  obtain ⟨n, rfl, rfl, rfl, wn⟩ := open_int Try.underlying3 (hval 0 3 v0 rfl rfl) h0
  obtain ⟨a1, l1, c1, rfl⟩ := okWide_slice Try.underlying49 (hval 1 49 v1 rfl rfl)
  obtain ⟨fuel, hf⟩ := h1
  obtain ⟨p', c', L, e, hL, _⟩ := deeds_arg hf (small_mem hsm (by simp))
  cases e
  refine (counts_c W n hL).mono fun e W' ⟨he, hs⟩ => ?_
  exact ⟨_, he, law_post (s := Rows.netCountsSpec) (tb := 4) laidOut (by decide +kernel) (by kernel_rfl) Try.underlying4 rfl hW ⟨rfl, rfl, rfl⟩ hs⟩

theorem counts_holds : Rows.NetCountsUptoSaid :=
  OpenClaim.holds_of_cond 6 Try.f6 rfl rfl rfl rfl rfl rfl rfl ⟨rfl, rfl, rfl, rfl, rfl⟩ rfl rfl rfl rfl rfl (by kernel_rfl) Try.func6 (by kernel_rfl)
    (of_decide_eq_true (by kernel_rfl)) (by unfold Func.isWrapper; first | (rw [if_pos (by decide +kernel)]; kernel_rfl) | (rw [if_neg (by decide +kernel)]; exact ⟨rfl, rfl⟩))
    (fun os started H enc _ F => counts_lifted os started H enc F)
end Go.Proofs.Ytjpaoggcphfjeaa
