
/- ref9's Graph: the roots' numbers and the nodes; and 'Differ': a heap's graph is that of the document's. -/
import Derived.Test.YtdfdmboljidhnaaRc
set_option maxRecDepth 100000
namespace Go.Proofs.Ytdfdmboljidhnaa
open Go Go.Lw Go.Wd Go.Am Go.Tb Go.Hm
theorem eok_node9 : EOK Try.prog 95 101 3 56 := ⟨by kernel_rfl, ⟨_, _, rfl, rfl, rfl, rfl, rfl⟩, by omega⟩
theorem own_some {L : List HP} {w : World} {e i l c s : Nat} {p : Option Addr} {xs : List Value} (h : Sat L w) (hi : L[i]? = some (Own e s p l c xs)) (hl : 0 < l) : ∃ a, p = some a := by
  obtain ⟨_, hc⟩ := h.own i hi
  rcases hc with ⟨_, h0, _⟩ | ⟨g, rest, hp', _⟩
  · omega
  · exact ⟨_, hp'⟩
section
variable {H : Hp} {hs : List Nat} {r : Rh} {om : List (R9 × Gq)} {w W : World} {S : Mem} {L : List HP}
/-- what is held while ref9's graph is built. -/
def G9 (H : Hp) (r : Rh) (W : World) (S : Mem) (rp : Option Addr) (rs : List Int) (rc : Nat) (np : Option Addr) (gs : List (Gn × Gq)) (nc : Nat) (p : Option Addr) (c b0 : Nat) (L : List HP) : List HP :=
  Own 3 1 rp rs.length rc (ints rs) :: Own 101 3 np gs.length nc (gcells gs) :: Own 24 1 p (order H).length c (words (order H)) :: Row b0 r.cells 44 :: Ro W S :: L
set_option maxHeartbeats 4000000 in
theorem graph9_c (hm : H.WF) (hS : Sat (Ro W S :: L) w) (hM : Mir S H hs r om) (hl : hs.length ≤ 1048576) : Calls Try.prog 55 #[r.agg] w fun e w' =>
    ∃ gp gc np nc S' gs, e = .returned (.tuple #[.slice gp 16 gc, .slice np (order H).length nc]) ∧ Ext S S' ∧ CRs S' 1 (ints (graphR H)) gp 16 gc ∧ NRs S' (graphN H) gs np (order H).length nc ∧ Sat (Ro W S' :: L) w' := by
  have hmost := hm.tab.most
  have hol := (order_met (H := H)).len hm
  have hgl : (graphR H).length = 16 := by simp [graphR, hm.rlen]
  have hgn : (graphN H).length = (order H).length := by simp [graphN]
  refine S_ref9_Graph_ok r.p r.l r.c r.a0 r.a1 r.a2 r.a3 r.a4 r.a5 r.a6 r.a7 r.a8 r.a9 r.a10 r.a11 r.a12 r.a13 r.a14 r.a15 w _ ?_
  unfold S_ref9_Graph
  refine NewC.ofRow hS fun b0 w1 h1 => ?_
  refine ldRh (r := r) h1 0 rfl ?_
  refine (order9_c (r := r) hm h1 1 rfl hM hl).mono ?_
  rintro e w2 ⟨p, c, rfl, h2⟩
  refine ⟨_, _, _, rfl, ?_⟩
  have h3 := h2.ownNil 3 1
  refine ⟨fun rp rl rc i w => ∃ k : Nat, i = k ∧ k ≤ 16 ∧ rl = ((graphR H).take k).length ∧ Sat (Own 3 1 rp ((graphR H).take k).length rc (ints ((graphR H).take k)) :: Own 24 1 p (order H).length c (words (order H)) :: Row b0 r.cells 44 :: Ro W S :: L) w, fun _ _ _ i _ => (16 - i).toNat, ⟨0, rfl, by omega, rfl, h3⟩, ?_⟩
  clear h1 h2 h3 hS
  rintro rp rl rc i w3 ⟨k, rfl, hk, rfl, h4⟩
  unfold S_ref9_Graph_l2
  have htk : ((graphR H).take k).length = k := by rw [List.length_take]; omega
  by_cases hk16 : k < 16
  · refine cond_t (by simp; omega) (IdxF.of (by omega) (by omega) ?_)
    have hrk : r.rs[k]? = some (r.rs.getD k 0) := by rw [List.getD_eq_getElem?_getD, List.getElem?_eq_getElem (by rw [Rh.rs_len]; exact hk16)]; rfl
    have hcell : r.cells[1 + k]? = some (.int .u64 (r.rs.getD k 0 : Nat)) := by
      unfold Rh.cells
      rw [Nat.add_comm, List.getElem?_cons_succ]
      unfold words
      rw [List.getElem?_map, hrk]
      rfl
    refine LdI.of h4 2 rfl (off := 1 + k) hcell (by rw [add_mk, add_mk]; simp) ?_
    have hgk : (graphR H)[k]? = some (numI (order H) (r.rs.getD k 0)) := by
      unfold graphR
      rw [List.getElem?_map, ← hM.roots, hrk]; rfl
    generalize r.rs.getD k 0 = x at hgk
    refine (number9_c h4 (fun w h => h.reads 1 rfl) (own_some h4 (i := 1) rfl) (by omega) x).mono ?_
    rintro e w4 ⟨rfl, h5⟩
    refine ⟨_, rfl, ?_⟩
    refine NewC.ofRow h5 fun b1 w5 h6 => ?_
    refine RunS.own eok_i h6 1 rfl (news := [.int .i64 (numI (order H) x)]) (fun a ha j u hj => by cases ha; rw [add_mk]; exact h6.cell 0 rfl (by rw [Nat.zero_add]; exact hj)) rfl (by simp [Value.oneCell']) (by omega) (by simp only [maxLen]; omega) fun p' c' w6 h7 => ?_
    rw [wrapI64 (by omega) (by omega)]
    refine ⟨⟨k + 1, by omega, by omega, ?_, ?_⟩, by first | omega | (dsimp only; omega)⟩
    · rw [htk, List.length_take]; omega
    · rw [List.take_add_one, hgk, Option.toList_some, ints_snoc, List.length_append, List.length_singleton]
      exact Sat.drop h7
  refine cond_f (by simp; omega) ?_
  have hke : k = 16 := by omega
  subst hke
  have htk2 : (graphR H).take 16 = graphR H := List.take_of_length_le (by omega)
  rw [htk2] at h4 ⊢
  have h5 : Sat (G9 H r W S rp (graphR H) rc none [] 0 p c b0 L) w3 := (h4.ownNil 101 3).p1
  refine ⟨fun np nl nc i w => ∃ (k : Nat) (S' : Mem) (gs : List (Gn × Gq)), i = k ∧ k ≤ (order H).length ∧ nl = gs.length ∧ gs.length = k ∧ Ext S S' ∧ gs.map (·.1) = (graphN H).take k ∧ (∀ x ∈ gs, GnR S' x) ∧ Sat (G9 H r W S' rp (graphR H) rc np gs nc p c b0 L) w, fun _ _ _ i _ => ((order H).length - i).toNat,
    ⟨0, S, [], rfl, by omega, rfl, rfl, Ext.refl _, rfl, by simp, h5⟩, ?_⟩
  clear h4 h5
  rintro np nl nc i w4 ⟨k, S', gs, rfl, hk, rfl, hgk, hE, hsame, hparts, h6⟩
  unfold S_ref9_Graph_l1
  by_cases hlt : k < (order H).length
  rotate_left
  · refine cond_f (by simp; omega) ?_
    have hke : k = (order H).length := by omega
    rw [hke, List.take_of_length_le (by omega)] at hsame
    have h7 : Sat (Own 3 1 rp (graphR H).length rc (ints (graphR H)) :: Ro W S' :: Own 101 3 np gs.length nc (gcells gs) :: L) w4 := by
      have a1 := (h6.pull 2 rfl).drop
      have a2 := (a1.pull 2 rfl).drop
      exact (Sat.pull a2 2 rfl).p1
    obtain ⟨S1, hE1, hC1, h8⟩ := Sat.freezeCRs h7 (by omega) (ints_one _)
    obtain ⟨S2, hE2, hC2, h9⟩ := Sat.freezeCRs (Sat.p1 h8) (by omega) (gcells_one _)
    rw [hgl] at hC1 ⊢
    rw [hgk, hke] at hC2 ⊢
    exact ⟨rp, rc, np, nc, S2, gs, rfl, hE.trans (hE1.trans hE2), hC1.mono hE2, ⟨hsame, fun y hy => ((hparts y hy).mono hE1).mono hE2, hC2⟩, h9⟩
  refine cond_t (by simp; omega) ?_
  intro k0 hk0
  have hx : (order H)[k]? = some ((order H)[k]'hlt) := List.getElem?_eq_getElem hlt
  generalize (order H)[k]'hlt = x at hx
  obtain ⟨o, ho⟩ := order_look (List.mem_of_getElem? hx)
  have hro := (look_ok hm ho).refs; have hzo := (look_ok hm ho).size
  have hrob : rob H x = ⟨x, o.tag, o.w.take o.refs, o.w.drop o.refs⟩ := by unfold rob; rw [ho]
  have lr : (o.w.take o.refs).length = o.refs := by rw [List.length_take]; omega
  have lw : (o.w.drop o.refs).length = o.w.length - o.refs := List.length_drop
  have hM' := hM.mono hE
  have hxs : x ∈ hs := hM.ord (List.mem_of_getElem? hx)
  obtain ⟨q, hq, hqx⟩ := numI_some hxs
  have h7 := h6.drew
  generalize w4.drew = w5 at h7
  -- behind the reading
  have body : ∀ (b2 : Nat) (pr pw : Option Addr) (cr cw : Nat) w, CRs S' 1 (words (o.w.take o.refs)) pr o.refs cr → CRs S' 1 (words (o.w.drop o.refs)) pw (o.w.length - o.refs) cw →
      Sat (Row b2 [.int .u64 (x : Int), .int .i64 (o.tag : Int), .slice pr o.refs cr, .slice pw (o.w.length - o.refs) cw] 133 :: G9 H r W S' rp (graphR H) rc np gs nc p c b0 L) w → k0 ⟨b2, 0, none⟩ w := by
    clear h6 h7
    intro b2 pr pw cr cw w6 hyr hyw h8
    refine hk0 _ _ ?_
    unfold S_ref9_Graph_j0
    refine LdI.of h8 0 rfl (off := 1) rfl (add_mk _ _ _) ?_
    refine NewC.ofRow h8 fun b4 w7 h9 => ?_
    refine st3 h9 0 rfl fun w8 h10 => ?_
    refine LdS.of h10 0 rfl (off := 2) rfl (add_mk _ _ _) ?_
    refine LdS.of h10 1 rfl (off := 3) rfl (add_mk _ _ _) ?_
    have h11 := Sat.ownNil h10 24 1
    refine RunS.appRo eok_u64 h11 0 rfl 7 rfl hyw (by omega) (by omega) fun p2 c2 w9 h12 => ?_
    rw [Nat.zero_add] at h12 ⊢
    refine StC.of h12 1 rfl (off := 2) rfl (add_mk _ _ _) fun w10 h13 => ?_
    have h14 : Sat (Row b4 [.int .i64 (o.tag : Int), .slice none (([] : List Int)).length 0, .slice p2 (o.w.length - o.refs) c2] 101 :: Own 3 1 none (([] : List Int)).length 0 (ints []) :: Own 24 1 p2 (o.w.length - o.refs) c2 (words (o.w.drop o.refs)) ::
        Row b2 [.int .u64 (x : Int), .int .i64 (o.tag : Int), .slice pr o.refs cr, .slice pw (o.w.length - o.refs) cw] 133 :: G9 H r W S' rp (graphR H) rc np gs nc p c b0 L) w10 := (Sat.pull (Sat.ownNil h13 3 1) 2 rfl)
    clear h8 h9 h10 h11 h12 h13
    refine ⟨fun j w => ∃ (g : Nat) (p1 : Option Addr) (c1 : Nat), j = g ∧ g ≤ o.refs ∧ Sat (Row b4 [.int .i64 (o.tag : Int), .slice p1 (((o.w.take o.refs).map (numI (order H))).take g).length c1, .slice p2 (o.w.length - o.refs) c2] 101 :: Own 3 1 p1 (((o.w.take o.refs).map (numI (order H))).take g).length c1 (ints (((o.w.take o.refs).map (numI (order H))).take g)) ::
        Own 24 1 p2 (o.w.length - o.refs) c2 (words (o.w.drop o.refs)) :: Row b2 [.int .u64 (x : Int), .int .i64 (o.tag : Int), .slice pr o.refs cr, .slice pw (o.w.length - o.refs) cw] 133 :: G9 H r W S' rp (graphR H) rc np gs nc p c b0 L) w, fun j _ => (o.refs - j).toNat, ⟨0, none, 0, rfl, by omega, h14⟩, ?_⟩
    clear h14
    rintro j w11 ⟨g, p1, c1, rfl, hg, h15⟩
    unfold S_ref9_Graph_l0
    refine LdS.of h15 3 rfl (off := 2) rfl (add_mk _ _ _) ?_
    have hll : ((o.w.take o.refs).map (numI (order H))).length = o.refs := by simp; omega
    have htg : (((o.w.take o.refs).map (numI (order H))).take g).length = g := by rw [List.length_take]; omega
    by_cases hgr : g < o.refs
    · refine cond_t (by simp; omega) ?_
      have h16 := h15.drew
      generalize w11.drew = w12 at h16
      clear h15
      have hwg : (o.w.take o.refs)[g]? = some (o.w.getD g 0) := by rw [List.getElem?_take_of_lt hgr, List.getD_eq_getElem?_getD, List.getElem?_eq_getElem (by omega)]; rfl
      obtain ⟨a, ha, hra⟩ := hyr.reads g (.int .u64 (o.w.getD g 0 : Nat)) (by unfold words; rw [List.getElem?_map, hwg]; rfl)
      subst ha
      refine ⟨fun w => ∃ Lx, Sat (Row b4 [.int .i64 (o.tag : Int), .slice p1 (((o.w.take o.refs).map (numI (order H))).take g).length c1, .slice p2 (o.w.length - o.refs) c2] 101 :: Row b2 [.int .u64 (x : Int), .int .i64 (o.tag : Int), .slice (some a) o.refs cr, .slice pw (o.w.length - o.refs) cw] 133 :: Ro W S' :: Lx) w, ⟨_, ((Sat.pull h16 8 rfl).pull 4 rfl).pull 2 rfl⟩, ?_⟩
      refine ⟨_, _, _, fun w ⟨Lx, hw⟩ => LdS.of hw 0 rfl (off := 1) rfl (add_mk _ _ _) rfl, ?_⟩
      refine ⟨_, _, _, fun w ⟨Lx, hw⟩ => LdS.of hw 1 rfl (off := 2) rfl (add_mk _ _ _) rfl, ?_⟩
      refine ⟨by omega, by omega, ?_⟩
      rw [Int.toNat_natCast, Nat.mul_one]
      refine ⟨_, fun w ⟨Lx, hw⟩ => LdI.at (hra w (hw.has 2 rfl)) rfl, ?_⟩
      refine (number9_c h16 (fun w h => h.reads 6 rfl) (own_some h16 (i := 6) rfl) (by omega) (o.w.getD g 0)).mono ?_
      rintro e w13 ⟨rfl, h17⟩
      refine ⟨_, rfl, ⟨_, ((Sat.pull h17 8 rfl).pull 4 rfl).pull 2 rfl⟩, ?_⟩
      refine NewC.ofRow h17 fun b5 w14 h18 => ?_
      refine ⟨⟨_, ((Sat.pull h18 9 rfl).pull 5 rfl).pull 3 rfl⟩, ?_⟩
      refine RunS.own eok_i h18 2 rfl (news := [.int .i64 (numI (order H) (o.w.getD g 0))]) (fun a ha j u hj => by cases ha; rw [add_mk]; exact h18.cell 0 rfl (by rw [Nat.zero_add]; exact hj)) rfl (by simp [Value.oneCell']) (by omega) (by simp only [maxLen]; omega) fun p' c' w15 h19 => ?_
      refine StC.of h19 1 rfl (off := 1) rfl (add_mk _ _ _) fun w16 h20 => ?_
      rw [wrapI64 (by omega) (by omega)]
      refine ⟨⟨g + 1, p', c', by omega, by omega, ?_⟩, by first | omega | (dsimp only; omega)⟩
      have hgx : ((o.w.take o.refs).map (numI (order H)))[g]? = some (numI (order H) (o.w.getD g 0)) := by rw [List.getElem?_map, hwg]; rfl
      rw [List.take_add_one, hgx, Option.toList_some, ints_snoc, List.length_append, List.length_singleton]
      exact Sat.drop h20
    · refine cond_f (by simp; omega) ?_
      have hge : g = o.refs := by omega
      rw [List.take_of_length_le (by omega)] at h15
      refine LdI.of h15 0 rfl (off := 0) rfl rfl ?_
      refine LdS.of h15 0 rfl (off := 1) rfl (add_mk _ _ _) ?_
      refine LdS.of h15 0 rfl (off := 2) rfl (add_mk _ _ _) ?_
      refine NewC.ofRow h15 fun b6 w12 h16 => ?_
      refine RunS.own eok_node9 h16 6 rfl (m := 1) (news := [.int .i64 (o.tag : Int), .slice p1 ((o.w.take o.refs).map (numI (order H))).length c1, .slice p2 (o.w.length - o.refs) c2]) (fun a ha j u hj => by cases ha; rw [add_mk]; exact h16.cell 0 rfl (by rw [Nat.zero_add]; exact hj)) rfl (by simp [Value.oneCell']) (by omega) (by simp only [maxLen]; omega) fun p' c' w13 h17 => ?_
      rw [wrapI64 (by omega) (by omega)]
      have h18 : Sat (Own 3 1 p1 ((o.w.take o.refs).map (numI (order H))).length c1 (ints ((o.w.take o.refs).map (numI (order H)))) :: Ro W S' :: Own 24 1 p2 (o.w.length - o.refs) c2 (words (o.w.drop o.refs)) :: Own 3 1 rp (graphR H).length rc (ints (graphR H)) ::
          Own 101 3 p' (gs.length + 1) c' (gcells gs ++ [.int .i64 (o.tag : Int), .slice p1 ((o.w.take o.refs).map (numI (order H))).length c1, .slice p2 (o.w.length - o.refs) c2]) :: Own 24 1 p (order H).length c (words (order H)) :: Row b0 r.cells 44 :: L) w13 := by
        have a1 := (Sat.drop h17).drop
        have a2 := (Sat.pull a1 2 rfl).drop
        exact (Sat.pull a2 6 rfl).p1
      obtain ⟨S1, hE1, hC1, h19⟩ := Sat.freezeCRs h18 (by omega) (ints_one _)
      obtain ⟨S2, hE2, hC2, h20⟩ := Sat.freezeCRs (Sat.p1 h19) (by omega) (words_one _)
      refine ⟨⟨k + 1, S2, gs ++ [(⟨o.tag, (o.w.take o.refs).map (numI (order H)), o.w.drop o.refs⟩, ⟨p1, c1, p2, c2⟩)], by omega, by omega, by simp, by simp [hgk], hE.trans (hE1.trans hE2), ?_, fun y hy => ?_, ?_⟩, by first | omega | (dsimp only; omega)⟩
      · have hgx : (graphN H)[k]? = some ⟨o.tag, (o.w.take o.refs).map (numI (order H)), o.w.drop o.refs⟩ := by
          simp only [graphN, List.getElem?_map, hx, Option.map_some, nodeOf, ho]
        rw [List.map_append, hsame, List.take_add_one, hgx]; rfl
      · rcases List.mem_append.1 hy with hy | hy
        · exact ((hparts y hy).mono hE1).mono hE2
        · simp only [List.mem_singleton] at hy
          subst hy
          refine ⟨hC1.mono hE2, ?_⟩
          dsimp only
          rw [lw]
          exact hC2
      · have h21 : Sat (Own 3 1 rp (graphR H).length rc (ints (graphR H)) :: Own 101 3 p' (gs.length + 1) c' (gcells gs ++ [.int .i64 (o.tag : Int), .slice p1 ((o.w.take o.refs).map (numI (order H))).length c1, .slice p2 (o.w.length - o.refs) c2]) :: Own 24 1 p (order H).length c (words (order H)) :: Row b0 r.cells 44 :: Ro W S2 :: L) w13 := (((Sat.pull h20 4 rfl).pull 4 rfl).pull 4 rfl).pull 4 rfl
        unfold G9
        rw [gcells_snoc, List.length_append, List.length_singleton]
        unfold gcell
        dsimp only
        rw [lw]
        exact h21
  have ex : ∀ {w : World} {Lx : List HP}, Sat (G9 H r W S' rp (graphR H) rc np gs nc p c b0 Lx) w → ∃ Ly, Sat (Row b0 r.cells 44 :: Ro W S' :: Own 24 1 p (order H).length c (words (order H)) :: Ly) w := fun h => ⟨_, (((Sat.pull h 2 rfl).pull 4 rfl).pull 4 rfl)⟩
  refine ⟨fun w => ∃ Lx, Sat (Row b0 r.cells 44 :: Ro W S' :: Own 24 1 p (order H).length c (words (order H)) :: Lx) w, ex h7, ?_⟩
  refine ⟨_, _, _, fun w ⟨Lx, hw⟩ => LdS.of hw 0 rfl (off := 0) rfl rfl rfl, ?_⟩
  refine qRh (r := r) (b := b0) (T := 44) (fun w ⟨Lx, hw⟩ => ⟨_, hw⟩) ?_
  refine IdxC.ownAt h7 2 rfl hlt fun g hg => ?_
  refine ⟨(x : Int), fun w ⟨Lx, hw⟩ => LdI.at (hw.ownAt 2 rfl hg (by rw [Nat.mul_one]; unfold words; rw [List.getElem?_map, hx]; rfl)) rfl, ?_⟩
  have cells : ∀ {K : Addr → Prop}, (∀ a (pr pw : Option Addr) (cr cw : Nat), CRs S' 1 (words (o.w.take o.refs)) pr o.refs cr → CRs S' 1 (words (o.w.drop o.refs)) pw (o.w.length - o.refs) cw → (∀ w, Has S' w → w.cell? a = some (.int .u64 (x : Int)) ∧ w.cell? (a.add 1) = some (.int .i64 (o.tag : Int)) ∧
      w.cell? (a.add 2) = some (.slice pr o.refs cr) ∧ w.cell? (a.add 3) = some (.slice pw (o.w.length - o.refs) cw)) → K a) → IdxC r.p r.l (numI hs x) 4 K := by
    intro K hK
    refine rd_ob hM' (h7.has 4 rfl) hqx hq fun a z _ hz2 hz3 hc => ?_
    rw [hrob] at hc hz2
    have hyr := hz3.refs
    have hyw := hz3.words
    rw [hz2] at hyr hyw
    dsimp only at hyr hyw hc
    rw [lr] at hyr
    rw [lw] at hyw
    rw [lr, lw] at hc
    exact hK a _ _ _ _ hyr hyw hc
  refine ⟨?_, ?_⟩
  · refine (at9_c (r := r) h7 4 rfl hM' hl x).mono ?_
    rintro e w6 ⟨rfl, h8⟩
    refine ⟨_, rfl, ex h8, ?_⟩
    refine cells fun a pr pw cr cw hyr hyw hc => ?_
    refine ⟨_, _, _, _, _, _, _, _, fun w ⟨Lx, hw⟩ => LdI.at (hc w (hw.has 1 rfl)).1 (LdI.at (hc w (hw.has 1 rfl)).2.1 (LdS.cell (hc w (hw.has 1 rfl)).2.2.1 (LdS.cell (hc w (hw.has 1 rfl)).2.2.2 rfl))), ?_⟩
    refine NewC.ofRow h8 fun b2 w7 h9 => ?_
    refine ⟨?_, ?_⟩
    · obtain ⟨Ly, hy⟩ := ex (Sat.drop h9); exact ⟨Ly, hy⟩
    refine StC.of h9 0 rfl (off := 0) rfl rfl fun w8 h10 => ?_
    refine StC.of h10 0 rfl (off := 1) rfl (add_mk _ _ _) fun w9 h11 => ?_
    refine StC.of h11 0 rfl (off := 2) rfl (add_mk _ _ _) fun w10 h12 => ?_
    refine StC.of h12 0 rfl (off := 3) rfl (add_mk _ _ _) fun w11 h13 => ?_
    exact body b2 pr pw cr cw w11 hyr hyw h13
  · refine NewC.ofRow h7 fun b2 w6 h8 => ?_
    refine ⟨?_, ?_⟩
    · obtain ⟨Ly, hy⟩ := ex (Sat.drop h8); exact ⟨Ly, hy⟩
    refine (at9_c (r := r) h8 5 rfl hM' hl x).mono ?_
    rintro e w7 ⟨rfl, h9⟩
    refine ⟨_, rfl, ?_, ?_⟩
    · obtain ⟨Ly, hy⟩ := ex (Sat.drop h9); exact ⟨Ly, hy⟩
    refine cells fun a pr pw cr cw hyr hyw hc => ?_
    refine ⟨_, _, _, _, _, _, _, _, fun w ⟨Lx, hw⟩ => LdI.at (hc w (hw.has 1 rfl)).1 (LdI.at (hc w (hw.has 1 rfl)).2.1 (LdS.cell (hc w (hw.has 1 rfl)).2.2.1 (LdS.cell (hc w (hw.has 1 rfl)).2.2.2 rfl))), ?_⟩
    refine StC.of h9 0 rfl (off := 0) rfl rfl fun w8 h10 => ?_
    refine StC.of h10 0 rfl (off := 1) rfl (add_mk _ _ _) fun w9 h11 => ?_
    refine StC.of h11 0 rfl (off := 2) rfl (add_mk _ _ _) fun w10 h12 => ?_
    refine StC.of h12 0 rfl (off := 3) rfl (add_mk _ _ _) fun w11 h13 => ?_
    exact body b2 pr pw cr cw w11 hyr hyw h13
end
end Go.Proofs.Ytdfdmboljidhnaa
