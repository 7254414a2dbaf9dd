
/- What grown comes to: more entries in a node, and those above it made right. -/
import Derived.Test.YtpicofkhioalkaaGreatTk
set_option maxRecDepth 100000
namespace Go.Proofs.YtpicofkhioalkaaGreat
open Go Go.Lw Go.Wd Go.Am Go.Tb Go.Hm Go.Kd Go.Td
section
variable {v : Value} {b : Nat} {E : Eng v b} {s : E.σ} {F : List HP} {w : World}
def EndP (E : Eng v b) (s : E.σ) (U : List Nat) (t n : Nat) (ES : List Ent) (B : Nat) (F : List HP) (e : Ending) (w' : World) : Prop :=
 ∃ (s' : E.σ) (V : List Nat) (k : Nat), e = .returned (.tuple #[]) /\ (∃ D root, Done (E.ov s') t n D ES V root) /\ St E s U s' V k (26 * k) /\ k <= B /\ V.Nodup /\ Sat (E.S s' F) w'
def GInv (E : Eng v b) (s : E.σ) (U : List Nat) (t n D : Nat) (ES : List Ent) (B r : Nat) (F : List HP) (_i : Nat) (wp : Option Addr) (wl wc : Nat) (x : Int) (lp : Option Addr) (ll lc : Nat) (inner : Bool) (up : Addr) (w' : World) : Prop :=
 ∃ (bs : List Fr) (xn : Nat) (L : List Kid) (d k0 : Nat) (s1 : E.σ) (k ub : Nat) (ua : Int) (up1 : Option Addr) (ul uc' : Nat) (uj : Int), wl = bs.length /\ x = (xn : Int) /\ ll = L.length /\ inner = decide (0 < d) /\ up = ⟨ub, 0, none⟩ /\ GS (E.ov s1) t n D ES bs xn L d k0 /\
  L ≠ [] /\ L.length <= 13 /\ (bs ≠ [] -> 6 <= L.length) /\ (0 < d -> 2 <= L.length) /\ E.ok s1 k0 /\ St E s U s1 (t :: xn :: (hsOf L ++ whs bs)) k (26 * k) /\ k + bs.length <= B /\ (∀ e ∈ ES, e.x = 0 ∨ E.ok s1 e.x) /\
  Sat (Own 96 2 lp L.length lc (pairsV (L.map Kid.pr)) :: Way bs wp wc :: Row ub [.int .u64 ua, .slice up1 ul uc', .int .i64 uj] 152 :: E.S s1 (Row r (trc b t) 73 :: F)) w'
set_option maxHeartbeats 4000000 in
theorem grown_c {t n D xn d k0 : Nat} {ES : List Ent} {bs : List Fr} {L : List Kid} {wp lp : Option Addr} {wc lc : Nat} (h00 : Sat (Own 96 2 lp L.length lc (pairsV (L.map Kid.pr)) :: Way bs wp wc :: E.S s F) w) (hi : E.inv s)
  (hgs : GS (E.ov s) t n D ES bs xn L d k0) (hL : L ≠ []) (h13 : L.length <= 13) (h6 : bs ≠ [] -> 6 <= L.length) (h2 : 0 < d -> 2 <= L.length) (hk0 : E.ok s k0) (hok : ∀ z ∈ t :: xn :: (hsOf L ++ whs bs), E.ok s z) {B : Nat} (hBB : bs.length = B) {U : List Nat} (hU : t :: xn :: (hsOf L ++ whs bs) = U) (hB12 : B <= 12) (hD12 : D <= 12) (hnb : n <= 1073741824)
  (hes : ∀ e ∈ ES, e.x = 0 ∨ E.ok s e.x) (hrt : (E.H s).m.top + 26 * (B + 2) <= (E.H s).m.n) (hrc : (E.H s).t.count + B + 2 <= (E.H s).t.n) {inner : Bool} (hin : inner = decide (0 < d)) :
  Calls Tryz.prog 103 #[trv b t, .slice wp bs.length wc, .int .u64 (xn : Int), .slice lp L.length lc, .bool inner] w (EndP E s U t n ES (B + 2) F) := by
 subst hin
 refine S_tree_tree_grown_ok _ _ _ _ _ _ _ _ _ _ _ _ ?_
 unfold S_tree_tree_grown
 refine NewC.ofRow h00 fun r w0 h01 => ?_
 refine ⟨GInv E s U t n D ES B r F, fun _ wl _ _ _ _ _ _ _ _ => wl, ?_, ?_, trivial⟩
 ·refine NewC.ofRow h01 fun ub w1 h02 => ?_
  have h0 : Sat (Own 96 2 lp L.length lc (pairsV (L.map Kid.pr)) :: Way bs wp wc :: Row ub [.int .u64 0, .slice none 0 0, .int .i64 0] 152 :: E.S s (Row r (trc b t) 73 :: F)) w1 :=
   (((((Sat.pull h02 1 rfl).pull 5 rfl).pull 5 rfl).pull 3 rfl).pull 5 rfl).pull 5 rfl
  obtain ⟨k, hk⟩ : ∃ k, k = 0 := ⟨0, rfl⟩
  obtain ⟨s1, hs1⟩ : ∃ s1, s1 = s := ⟨s, rfl⟩
  have hst : St E s U s1 (t :: xn :: (hsOf L ++ whs bs)) k (26 * k) := by rw [hk, hs1, <- hU]; exact St.start hi hok
  have hbs : k + bs.length <= B := by omega
  rw [<- hs1] at hgs hk0 hes h0
  have hG : ∀ {w' : World}, Sat (Own 96 2 lp L.length lc (pairsV (L.map Kid.pr)) :: Way bs wp wc :: Row ub [.int .u64 0, .slice none 0 0, .int .i64 0] 152 :: E.S s1 (Row r (trc b t) 73 :: F)) w' ->
    Sat (E.S s1 (Own 96 2 lp L.length lc (pairsV (L.map Kid.pr)) :: Way bs wp wc :: Row ub [.int .u64 0, .slice none 0 0, .int .i64 0] 152 :: Row r (trc b t) 73 :: F)) w' := fun h => (Sat.pull h 4 rfl).pull 4 rfl
  have hL0 := List.length_pos_iff.2 hL
  have hlp : L.map Kid.pr ≠ [] -> ∃ a, lp = some a := fun _ => by obtain ⟨g, hg⟩ := h0.own_some 0 rfl hL0; exact ⟨_, hg⟩
  have hrd : RdP (Own 96 2 lp L.length lc (pairsV (L.map Kid.pr)) :: Way bs wp wc :: Row ub [.int .u64 0, .slice none 0 0, .int .i64 0] 152 :: Row r (trc b t) 73 :: F) lp (L.map Kid.pr) := RdP.own (k := 0) rfl (by simp) hlp
  obtain ⟨a1, a2, a3, a4, a5, a6, a7, a8⟩ := zip_of_nd hgs.nd
  obtain ⟨l0, ho0, hl0⟩ := hgs.node
  have hokx : E.ok s1 xn := hst.ok xn (by simp)
  have hokL : ∀ z ∈ hsOf L, E.ok s1 z := fun z hz => hst.ok z (by simp [hz])
  have hokB : ∀ z ∈ whs bs, E.ok s1 z := fun z hz => hst.ok z (by simp [hz])
  have heL : ∀ e ∈ esOf L, e.x = 0 ∨ E.ok s1 e.x := fun e he => hes e (by rw [<- hgs.es]; simp [he])
  have hpok := kids_ok hgs.kids hokL heL
  have hfk := firstK_mem hL hgs.kids
  have hlc : L.length <= lc := by
   obtain ⟨_, ⟨_, h2, h3, _⟩ | ⟨g, rest, _, h2, _⟩⟩ := h0.own 0 rfl
   ·omega
   ·exact h2
  by_cases hl12 : L.length <= 12
  ·refine cond_t (by simp; omega) ?_
   have g1 := hG h0
   refine LdP.of g1 5 rfl (off := 0) rfl rfl (LdI.of g1 5 rfl (off := 1) rfl (add_mk _ _ _) ?_)
   refine (write_c g1 hst.mv.inv t (x := xn) (l := L.map Kid.pr) ho0 (nodeW_len hl0) hokx (by simpa using hl12) hpok (by simp) hrd).mono ?_
   rintro e w2 ⟨s2, rfl, m2, o2, g2⟩
   have o2 : E.ov s2 = updO (E.ov s1) xn (nodeO (decide (0 < d)) (L.map Kid.pr)) := o2
   refine ⟨rfl, ?_⟩
   have g2d := g2.drew
   refine LdP.of g2d 5 rfl (off := 0) rfl rfl (LdI.of g2d 5 rfl (off := 1) rfl (add_mk _ _ _) ?_)
   refine IdxC.ownAt (k := 0) g2d 2 rfl hL0 fun g hg => ?_
   obtain ⟨c0, L', hLc⟩ := List.exists_cons_of_ne_nil hL
   have hf0 : (L.map Kid.pr)[0]? = some c0.pr := by rw [hLc]; rfl
   have hfc : c0.pr.1 = firstK L := by rw [hLc]; rfl
   refine LdI.at (n := (firstK L : Int)) (Sat.ownAt g2d 2 rfl hg (off := 0 * 2) (by rw [<- hfc]; exact pairsV_get0 hf0)) ?_
   have g3 : Sat (Way bs wp wc :: E.S s2 (Own 96 2 lp L.length lc (pairsV (L.map Kid.pr)) :: Row ub [.int .u64 0, .slice none 0 0, .int .i64 0] 152 :: Row r (trc b t) 73 :: F)) w2.drew := Sat.pull g2d 3 rfl
   have hz2 : Zip (E.ov s2) bs (d + 1) (k0, xn) := by rw [o2]; exact hgs.zip.upd a5
   have hw2 : OkW E s2 bs := okw_of hz2 (fun z hz => m2.ok z (hokB z hz)) (m2.ok k0 hk0) (m2.ok xn hokx)
   have hf2 : E.ok s2 (firstK L) := m2.ok _ (hokL _ hfk)
   have hb2 : bs.length <= 100 := by omega
   have hcall := tfirst_c g3 m2.inv t hf2 hb2 hw2
   refine Calls.mono hcall ?_
   rintro e w3 ⟨s3, rfl, m3, o3, g4⟩
   obtain ⟨root, hd⟩ := hgs.fin hL h6 h2 hl12
   refine ⟨rfl, s3, _, k, rfl, ⟨_, root, by rw [o3, o2]; exact hd⟩, ?_, by omega, hgs.nd, (outS (outS (outS g4).drop).drop).drop⟩
   have := hst.step (V' := t :: xn :: (hsOf L ++ whs bs)) (m2.trans m3) (fun z hz _ => ?_) (fun z hz => .inl hz) (fun z hz => m3.ok z (m2.ok z (hst.ok z hz)))
   ·simpa using this
   ·simp only [List.mem_cons, List.mem_append, not_or] at hz
    rw [o3, fixO_frame (fun hx => hz.2.2.2 (xs_whs hx)), o2, updO_ne _ _ hz.2.1]
  ·have hl13 : L.length = 13 := by omega
   refine cond_f (by simp; omega) ?_
   have e6 : IntKind.wrap .i64 (Int.tdiv ((L.length : Nat) : Int) 2) = ((6 : Nat) : Int) := by rw [hl13]; rfl
   have g1 := (hG h0).drew
   have hsp : L.take 6 ++ L.drop 6 = L := List.take_append_drop 6 L
   have ht6 : (L.take 6).length = 6 := by simp; omega
   have hd6 : (L.drop 6).length = 7 := by simp; omega
   have hm1 : (L.map Kid.pr).take 6 = (L.take 6).map Kid.pr := by rw [List.map_take]
   have hm2 : (L.map Kid.pr).drop 6 = (L.drop 6).map Kid.pr := by rw [List.map_drop]
   have hmem1 : ∀ c ∈ L.take 6, c ∈ L := fun c hc => List.mem_of_mem_take hc
   have hmem2 : ∀ c ∈ L.drop 6, c ∈ L := fun c hc => List.mem_of_mem_drop hc
   have hn1 : L.take 6 ≠ [] := by intro e; rw [e] at ht6; simp at ht6
   have hn2 : L.drop 6 ≠ [] := by intro e; rw [e] at hd6; simp at hd6
   have hfk1 : firstK (L.take 6) = firstK L := by
    cases L with
    | nil => exact absurd rfl hL
    | cons c L => rfl
   have hok1 : ∀ p ∈ (L.take 6).map Kid.pr, (p.1 = 0 ∨ E.ok s1 p.1) /\ (p.2 = 0 ∨ E.ok s1 p.2) := fun p hp => hpok p (by rw [<- hm1] at hp; exact List.mem_of_mem_take hp)
   have hok2 : ∀ p ∈ (L.drop 6).map Kid.pr, (p.1 = 0 ∨ E.ok s1 p.1) /\ (p.2 = 0 ∨ E.ok s1 p.2) := fun p hp => hpok p (by rw [<- hm2] at hp; exact List.mem_of_mem_drop hp)
   have hfk2 : firstK (L.drop 6) ∈ hsOf L := by
    obtain ⟨c, hc, hz⟩ := mem_hsOf.1 (firstK_mem hn2 fun c hc => hgs.kids c (hmem2 c hc))
    exact mem_hsOf.2 ⟨c, hmem2 c hc, hz⟩
   obtain ⟨c7, hc7⟩ : ∃ c7, L[6]? = some c7 := ⟨_, List.getElem?_eq_getElem (by omega)⟩
   have hk7 : c7.pr.1 = firstK (L.drop 6) := by
    have : L.drop 6 = c7 :: L.drop 7 := by
     rw [List.getElem?_eq_getElem (by omega)] at hc7
     simp only [Option.some.injEq] at hc7
     rw [List.drop_eq_getElem_cons (by omega), hc7]
    rw [this]; rfl
   have hg7 : (L.map Kid.pr)[6]? = some c7.pr := by rw [List.getElem?_map, hc7]; rfl
   obtain ⟨c0, L', hLc⟩ := List.exists_cons_of_ne_nil hL
   have hf0 : (L.map Kid.pr)[0]? = some c0.pr := by rw [hLc]; rfl
   have hfc : c0.pr.1 = firstK L := by rw [hLc]; rfl
   refine LdP.of g1 5 rfl (off := 0) rfl rfl (LdI.of g1 5 rfl (off := 1) rfl (add_mk _ _ _) ?_)
   refine ⟨by decide, ?_⟩
   refine SlC.of 6 L.length lc e6 rfl rfl (by omega) hlc (Nat.le_refl _) ?_
   have hroom1 : (E.H s1).m.top + 26 <= (E.H s1).m.n /\ (E.H s1).t.count < (E.H s1).t.n := by
    have q1 := hst.mv.top; have q2 := hst.mv.n; have q3 := hst.mv.cnt; have q4 := hst.mv.tn
    omega
   refine (node_c g1 hst.mv.inv t (inner := decide (0 < d)) (l := (L.drop 6).map Kid.pr) (by simp; omega) hok2 hroom1.1 hroom1.2 (by simp) (by rw [<- hm2]; exact hrd.sub (by omega) (by simp; omega))).mono ?_
   rintro e w2 ⟨s2, y, rfl, m2, hy0, hyn, hyk, o2, g2⟩
   refine ⟨_, rfl, ?_⟩
   have g2d := g2.drew
   refine LdP.of g2d 5 rfl (off := 0) rfl rfl (LdI.of g2d 5 rfl (off := 1) rfl (add_mk _ _ _) ?_)
   refine ⟨by decide, ?_⟩
   refine SlC.of 0 6 lc rfl e6 rfl (by omega) (by omega) (Nat.le_refl _) ?_
   rw [slAddr_zero]
   have hxy : xn ≠ y := fun e => by rw [e] at ho0; rw [hyn] at ho0; cases ho0
   have hyV : y ∉ t :: xn :: (hsOf L ++ whs bs) := fun hh => by
    have := ok_some hst.mv.inv (hst.ok y hh); rw [hyn] at this; cases this
   refine (write_c g2d m2.inv t (x := xn) (l := (L.take 6).map Kid.pr) (by rw [o2, updO_ne _ _ hxy]; exact ho0) (nodeW_len hl0) (m2.ok _ hokx) (by simp; omega) (fun p hp => ⟨m2.some (hok1 p hp).1, m2.some (hok1 p hp).2⟩) (by simp; omega) (by rw [<- hm1]; exact hrd.take 6)).mono ?_
   rintro e w3 ⟨s3, rfl, m3, o3, g3⟩
   have o3 : E.ov s3 = updO (updO (E.ov s1) y (nodeO (decide (0 < d)) ((L.drop 6).map Kid.pr))) xn (nodeO (decide (0 < d)) ((L.take 6).map Kid.pr)) := by rw [o3, o2]; rfl
   have m13 := m2.trans m3
   refine ⟨rfl, ?_⟩
   have hfr3 : ∀ z, z ∉ t :: xn :: (hsOf L ++ whs bs) -> (E.ov s1 z).isSome = true -> E.ov s3 z = E.ov s1 z := fun z hz hs => by
    simp only [List.mem_cons, List.mem_append, not_or] at hz
    have hzy : z ≠ y := fun e => by rw [e, hyn] at hs; cases hs
    rw [o3, updO_ne _ _ hz.2.1, updO_ne _ _ hzy]
   rw [<- hsp] at hgs
   by_cases hb0 : bs = []
   ·subst hb0
    refine cond_t rfl ?_
    refine ⟨fun w' => Sat (Own 96 2 lp L.length lc (pairsV (L.map Kid.pr)) :: Way [] wp wc :: Row ub [.int .u64 0, .slice none 0 0, .int .i64 0] 152 :: Row r (trc b t) 73 :: F) w', g3.drew.drop.drop, ?_⟩
    refine ⟨_, _, fun w' h => trv_ld h 3 rfl, _, _, fun w' h => trv_ld h 3 rfl, ?_⟩
    refine IdxC.ownAt (k := 0) g3 2 rfl hL0 fun g hg => ?_
    refine ⟨(firstK L : Int), fun w' h => LdI.at (Sat.ownAt h 0 rfl hg (off := 0 * 2) (by rw [<- hfc]; exact pairsV_get0 hf0)) rfl, ?_⟩
    refine ⟨by decide, ?_⟩
    rw [e6]
    refine IdxC.ownAt (k := 6) g3 2 rfl (by omega) fun g' hg' => ?_
    refine ⟨(firstK (L.drop 6) : Int), fun w' h => LdI.at (Sat.ownAt h 0 rfl hg' (off := 6 * 2) (by rw [<- hk7]; exact pairsV_get0 hg7)) rfl, ?_⟩
    refine ⟨_, _, fun w' h => trv_ld h 3 rfl, _, _, fun w' h => trv_ld h 3 rfl, ?_⟩
    refine NewC.ofRow g3.drew fun b4 w4 g4 => ⟨g4.drop.drop.drop, ?_⟩
    have hroom3 : (E.H s3).m.top + 26 <= (E.H s3).m.n /\ (E.H s3).t.count < (E.H s3).t.n := by
     have q1 := hst.mv.top; have q2 := hst.mv.n; have q3 := hst.mv.cnt; have q4 := hst.mv.tn
     have p1 := m13.top; have p2 := m13.n; have p3 := m13.cnt; have p4 := m13.tn
     simp only [List.length_nil] at hbs
     omega
    have hk4 : ∀ p ∈ [(firstK L, xn), (firstK (L.drop 6), y)], (p.1 = 0 ∨ E.ok s3 p.1) /\ (p.2 = 0 ∨ E.ok s3 p.2) := by
     intro p hp
     simp only [List.mem_cons, List.not_mem_nil, or_false] at hp
     rcases hp with rfl | rfl
     ·exact ⟨.inr (m13.ok _ (hokL _ hfk)), .inr (m13.ok _ hokx)⟩
     ·exact ⟨.inr (m13.ok _ (hokL _ hfk2)), .inr (m3.ok _ hyk)⟩
    refine (node_c (inS g4) m3.inv t (inner := true) (l := [(firstK L, xn), (firstK (L.drop 6), y)]) (by simp) hk4 hroom3.1 hroom3.2 rfl (RdP.row 0 rfl)).mono ?_
    rintro e w5 ⟨s4, z, rfl, m4, hz0, hzn, hzk, o4, g5⟩
    refine ⟨_, rfl, g5.drop.drop.drop, ?_⟩
    have hzV : z ∉ y :: t :: xn :: (hsOf (L.take 6 ++ L.drop 6) ++ whs []) := fun hh => by
     have hl : (E.ov s3 z).isSome = true := by
      rcases List.mem_cons.1 hh with rfl | hh
      ·exact ok_some m3.inv (m3.ok _ hyk)
      ·rw [hsp] at hh
       exact ok_some m3.inv (m13.ok z (hst.ok z hh))
     rw [hzn] at hl; cases hl
    have hz2 := hzV
    simp only [List.mem_cons, List.mem_append, not_or] at hz2
    have hty : t ≠ y := fun e => hyV (by rw [<- e]; simp)
    have hto : E.ov s4 t = some (treeO (topx [] xn) n D) := by rw [o4, updO_ne _ _ (fun e => hz2.2.1 e.symm), o3, updO_ne _ _ a1, updO_ne _ _ hty]; exact hgs.tree
    refine (tcount_c g5 hto hnb).mono ?_
    rintro e w6 ⟨rfl, g6⟩
    refine ⟨_, rfl, g6.drop.drop.drop, ?_⟩
    refine (tdepth_c g6 hto (by omega)).mono ?_
    rintro e w7 ⟨rfl, g7⟩
    refine ⟨_, rfl, g7.drop.drop.drop, ?_⟩
    have e1 : IntKind.wrap .i64 ((D : Int) + 1) = ((D + 1 : Nat) : Int) := by rw [wrapI64 (by omega) (by omega)]; omega
    rw [e1]
    have htk : E.ok s4 t := m4.ok _ (m13.ok _ (hst.ok t (by simp)))
    refine (tset_c g7 m4.inv (top := z) (n := n) (d := D + 1) hto htk (.inr hzk) (by omega) (by omega)).mono ?_
    rintro e w8 ⟨s5, rfl, m5, o5, g8⟩
    have g8d := g8.drop.drop.drop
    refine ⟨rfl, g8d, ?_⟩
    rw [<- hsp] at hyV
    obtain ⟨root, hd⟩ := hgs.top (by omega) (by omega) hyV hzV
    rw [hsp] at hyV
    have hov5 : E.ov s5 = updO (updO (updO (updO (E.ov s1) y (nodeO (decide (0 < d)) ((L.drop 6).map Kid.pr))) xn (nodeO (decide (0 < d)) ((L.take 6).map Kid.pr))) z (nodeO true [(firstK (L.take 6), xn), (firstK (L.drop 6), y)])) t (treeO z n (D + 1)) := by
     rw [o5, o4, o3, hfk1]
    rw [hsp] at hd
    have hmm := m13.trans (m4.trans m5)
    refine ⟨s5, _, k + 2, rfl, ⟨_, root, by rw [hov5]; exact hd⟩, ?_, by simp only [List.length_nil] at hbs; omega, ?_, (outS (outS (outS (outS (outS g8).drop).drop).drop).drop).drop⟩
    ·have := hst.step (V' := z :: y :: t :: xn :: (hsOf L ++ whs [])) hmm (fun q hq hqs => ?_) (fun q hq => ?_) (fun q hq => ?_)
     ·have e : 26 * k + (26 + 0 + (26 + 0)) = 26 * (k + 2) := by omega
      rw [e] at this
      exact this
     ·have h3 := hfr3 q hq hqs
      have hq3 : (E.ov s3 q).isSome = true := by rw [h3]; exact hqs
      have hqz : q ≠ z := fun e => by rw [e, hzn] at hq3; cases hq3
      have hqt : q ≠ t := fun e => hq (by rw [e]; simp)
      rw [o5, updO_ne _ _ hqt, o4, updO_ne _ _ hqz, h3]
     ·rcases List.mem_cons.1 hq with rfl | hq
      ·right
       cases hh : E.ov s1 q with
       | none => rfl
       | some o => have := m13.alive q (by rw [hh]; rfl); rw [hzn] at this; cases this
      ·rcases List.mem_cons.1 hq with rfl | hq
       ·exact .inr hyn
       ·exact .inl hq
     ·rcases List.mem_cons.1 hq with rfl | hq
      ·exact m5.ok _ hzk
      ·rcases List.mem_cons.1 hq with rfl | hq
       ·exact m5.ok _ (m4.ok _ (m3.ok _ hyk))
       ·exact hmm.ok _ (hst.ok q hq)
    ·rw [hsp] at hzV
     exact List.nodup_cons.2 ⟨hzV, List.nodup_cons.2 ⟨hyV, by have := hgs.nd; rw [hsp] at this; exact this⟩⟩
   ·obtain ⟨f, r', rfl⟩ := List.exists_cons_of_ne_nil hb0
    refine cond_f (by simp; omega) ?_
    have hsh := hgs.up (y := y) (by omega) (by omega) (by rw [hsp]; exact hyV)
    rw [hsp] at hsh
    obtain ⟨hgs', hperm⟩ := hsh
    obtain ⟨z1, z2, z3, z4⟩ := hgs.zip
    obtain ⟨q, qr, hqr, hcap, hstp, g4⟩ := way_top (Sat.pull g3 3 rfl)
    have hbl : (f :: r').length <= 12 := by omega
    have ei : IntKind.wrap .i64 ((((f :: r').length : Nat) : Int) - 1) = ((r'.length : Nat) : Int) := by
     rw [wrapI64 (by omega) (by omega)]
     simp only [List.length_cons]
     omega
    rw [ei]
    refine IdxC.ownAt g4 2 rfl (by simp) fun g hg => ?_
    refine LdI.at (n := (f.x : Int)) (Sat.ownAt g4 2 rfl hg (off := r'.length * 3 + 0) (hstp rfl)) ?_
    refine LdS.at (p := q.1) (l := f.l.length) (c := q.2) (Sat.ownAt g4 2 rfl hg (off := r'.length * 3 + 1) (hstp rfl)) ?_
    refine LdI.at (n := (f.A.length : Nat)) (Sat.ownAt g4 2 rfl hg (off := r'.length * 3 + 2) (hstp rfl)) ?_
    refine StC.of g4 6 rfl (off := 0) rfl rfl fun w4 g5 => StC.of g5 6 rfl (off := 1) rfl (add_mk _ _ _) fun w5 g6 => StC.of g6 6 rfl (off := 2) rfl (add_mk _ _ _) fun w6 g7 => ?_
    have hwc : (f :: r').length <= wc := by
     obtain ⟨_, ⟨_, q2, q3, _⟩ | ⟨_, _, _, q2, _⟩⟩ := g7.own 2 rfl
     ·simp at q2
     ·exact q2
    refine SlC.of 0 r'.length wc rfl rfl rfl (by omega) (by simp at hwc; omega) (Nat.le_refl _) ?_
    rw [slAddr_zero, Nat.sub_zero, Nat.sub_zero]
    have g7 : Sat (Own 96 2 q.1 f.l.length q.2 (pairsV f.l) :: LsH r' qr :: Own 152 3 wp (f :: r').length wc (stepsV (f :: r') (q :: qr)) :: HeapH (E.H s3) v b :: E.rest s3 :: Own 96 2 lp L.length lc (pairsV (L.map Kid.pr)) ::
     Row ub [.int .u64 (f.x : Int), .slice q.1 f.l.length q.2, .int .i64 (f.A.length : Nat)] 152 :: Row r (trc b t) 73 :: F) w6.drew := g7.drew
    refine LdS.of g7 6 rfl (off := 1) rfl (add_mk _ _ _) (LdI.of g7 6 rfl (off := 2) rfl (add_mk _ _ _) ?_)
    refine IdxC.ownAt (k := 0) g7 5 rfl hL0 fun ga hga => ?_
    refine LdI.at (n := (firstK L : Int)) (Sat.ownAt g7 5 rfl hga (off := 0 * 2) (by rw [<- hfc]; exact pairsV_get0 hf0)) ?_
    have hfl : f.A.length < f.l.length := by rw [Fr.l_len]; omega
    refine IdxC.ownAt g7 0 rfl hfl fun g2 hg2 => ?_
    refine StC.ownAt g7 0 rfl hg2 (off := f.A.length * 2) (v0 := .int .u64 (f.p.1 : Int)) (pairsV_get0 f.get) rfl fun w7 g8 => ?_
    simp only [List.set_cons_zero] at g8
    rw [pairsV_set0 (firstK L) f.get, f.set_l (firstK L)] at g8
    refine ⟨fun w' => ∃ T, Sat (Own 96 2 lp L.length lc (pairsV (L.map Kid.pr)) :: Row ub [.int .u64 (f.x : Int), .slice q.1 f.l.length q.2, .int .i64 (f.A.length : Nat)] 152 :: T) w', ⟨_, (Sat.pull g8.drew 6 rfl).pull 6 rfl⟩, ?_⟩
    refine ⟨_, _, _, fun w' ⟨T, h⟩ => LdS.of h 1 rfl (off := 1) rfl (add_mk _ _ _) rfl, ?_⟩
    refine ⟨_, fun w' ⟨T, h⟩ => LdI.of h 1 rfl (off := 2) rfl (add_mk _ _ _) rfl, ?_⟩
    refine ⟨by decide, ?_⟩
    rw [e6]
    refine IdxC.ownAt (k := 6) g8 5 rfl (by omega) fun g' hg' => ?_
    refine ⟨(firstK (L.drop 6) : Int), fun w' ⟨T, h⟩ => LdI.at (Sat.ownAt h 0 rfl hg' (off := 6 * 2) (by rw [<- hk7]; exact pairsV_get0 hg7)) rfl, ?_⟩
    refine NewC.ofRow g8.drew fun b5 w8 g9 => ⟨⟨_, (Sat.pull g9 7 rfl).pull 7 rfl⟩, ?_⟩
    have hwl := f.with_len (firstK L)
    have hl12' : f.l.length <= 12 := by rw [Fr.l_len]; exact z2.2.2.2.2
    rw [<- hwl] at g9 ⊢
    refine (insert_c (q := (firstK (L.drop 6), y)) (i := f.A.length + 1) (Sat.p1 g9) (by omega) (by omega) (by omega) rfl (by rw [wrapI64 (by omega) (by omega)]; omega)).mono ?_
    rintro e w9 ⟨np, nc, rfl, g10⟩
    refine ⟨_, _, _, rfl, ⟨_, (Sat.pull g10 6 rfl).pull 6 rfl⟩, ?_⟩
    refine LdI.of g10 6 rfl (off := 0) rfl rfl ?_
    have hlist : (f.with (firstK L)).l.take (f.A.length + 1) ++ (firstK (L.drop 6), y) :: (f.with (firstK L)).l.drop (f.A.length + 1) = (f.A ++ mkKid xn (L.take 6) :: mkKid y (L.drop 6) :: f.B).map Kid.pr := by
     have q1 := mkKid_pr (x := xn) hn1 fun c hc => hgs.kids c (by rw [hsp]; exact hmem1 c hc)
     have q2 := mkKid_pr (x := y) hn2 fun c hc => hgs.kids c (by rw [hsp]; exact hmem2 c hc)
     have q3 : f.p.2 = xn := by rw [z1]
     have q4 : (f.with (firstK L)).l = (f.A.map Kid.pr ++ [(firstK L, xn)]) ++ f.B.map Kid.pr := by simp [Fr.l, Fr.with, q3]
     have q5 : (f.A.map Kid.pr ++ [(firstK L, xn)]).length = f.A.length + 1 := by simp
     rw [q4, <- q5, List.take_left, List.drop_left, List.map_append, List.map_cons, List.map_cons, q1, q2, hfk1]
     simp
    have hlen' : (f.with (firstK L)).l.length + 1 = (f.A ++ mkKid xn (L.take 6) :: mkKid y (L.drop 6) :: f.B).length := by rw [hwl, Fr.l_len]; simp; omega
    rw [hlist, hlen'] at g10
    rw [hlen']
    have hLn : (f.A ++ mkKid xn (L.take 6) :: mkKid y (L.drop 6) :: f.B).length = f.A.length + 1 + f.B.length + 1 := by simp; omega
    have hmn := z2.2.2.2.1
    have m13' : E.Mv s1 s3 1 26 := by simpa using m13
    have hkey : E.ok s1 f.key := by
     unfold Fr.key
     cases hA : f.A with
     | nil => simp only; rw [z1]; exact hk0
     | cons a A => exact hokB _ (by simp only [whs, List.mem_cons, List.mem_append]; exact .inr (.inl (.inl (mem_hsOf.2 ⟨a, by rw [hA]; simp, ((z2.2.1 a (by rw [hA]; simp)).keyOK (by omega)).2.2.1⟩))))
    have hinv : GInv E s U t n D ES B r F 0 wp r'.length wc (f.x : Int) np (f.A ++ mkKid xn (L.take 6) :: mkKid y (L.drop 6) :: f.B).length nc true ⟨ub, 0, none⟩ w9 := by
     refine ⟨r', f.x, f.A ++ mkKid xn (L.take 6) :: mkKid y (L.drop 6) :: f.B, d + 1, f.key, s3, k + 1, ub, (f.x : Int), q.1, (f.with (firstK L)).l.length, q.2, (f.A.length : Nat), rfl, rfl, rfl, by simp, rfl, by rw [o3]; exact hgs', by simp, by omega, fun hr => ?_, fun _ => by omega, m13.ok _ hkey, ?_, by simp only [List.length_cons] at hbs; omega, fun e he => m13.some (hes e he), ?_⟩
     ·have : mnOf r' = 6 := by
       cases r' with
       | nil => exact absurd rfl hr
       | cons _ _ => rfl
      omega
     ·have := hst.step (V' := t :: f.x :: (hsOf (f.A ++ mkKid xn (L.take 6) :: mkKid y (L.drop 6) :: f.B) ++ whs r')) m13' hfr3 (fun z hz => ?_) (fun z hz => ?_)
      ·have e : 26 * k + 26 = 26 * (k + 1) := by omega
       rw [e] at this
       exact this
      ·rcases List.mem_cons.1 (hperm.mem_iff.1 hz) with rfl | hz
       ·exact .inr hyn
       ·exact .inl hz
      ·rcases List.mem_cons.1 (hperm.mem_iff.1 hz) with rfl | hz
       ·exact m3.ok _ hyk
       ·exact m13.ok _ (hst.ok z hz)
     ·exact ((Sat.pull (Sat.drop (Sat.pull (way_pop hqr (Sat.pull (Sat.pull g10 1 rfl) 2 rfl)) 4 rfl)) 4 rfl).pull 1 rfl).pull 2 rfl
    exact hinv
 ·clear hgs hL h13 h6 h2 hk0 hok hes h00 h01 hU hBB
  clear L bs xn d k0 wp wc lp lc
  rintro wp wl wc x lp ll lc inner up w1 ⟨bs, xn, L, d, k0, s1, k, ub, ua, up1, ul, uc', uj, rfl, rfl, rfl, rfl, rfl, hgs, hL, h13, h6, h2, hk0, hst, hbs, hes, h0⟩
  unfold S_tree_tree_grown_g0
  have hG : ∀ {w' : World}, Sat (Own 96 2 lp L.length lc (pairsV (L.map Kid.pr)) :: Way bs wp wc :: Row ub [.int .u64 ua, .slice up1 ul uc', .int .i64 uj] 152 :: E.S s1 (Row r (trc b t) 73 :: F)) w' ->
    Sat (E.S s1 (Own 96 2 lp L.length lc (pairsV (L.map Kid.pr)) :: Way bs wp wc :: Row ub [.int .u64 ua, .slice up1 ul uc', .int .i64 uj] 152 :: Row r (trc b t) 73 :: F)) w' := fun h => (Sat.pull h 4 rfl).pull 4 rfl
  have hL0 := List.length_pos_iff.2 hL
  have hlp : L.map Kid.pr ≠ [] -> ∃ a, lp = some a := fun _ => by obtain ⟨g, hg⟩ := h0.own_some 0 rfl hL0; exact ⟨_, hg⟩
  have hrd : RdP (Own 96 2 lp L.length lc (pairsV (L.map Kid.pr)) :: Way bs wp wc :: Row ub [.int .u64 ua, .slice up1 ul uc', .int .i64 uj] 152 :: Row r (trc b t) 73 :: F) lp (L.map Kid.pr) := RdP.own (k := 0) rfl (by simp) hlp
  obtain ⟨a1, a2, a3, a4, a5, a6, a7, a8⟩ := zip_of_nd hgs.nd
  obtain ⟨l0, ho0, hl0⟩ := hgs.node
  have hokx : E.ok s1 xn := hst.ok xn (by simp)
  have hokL : ∀ z ∈ hsOf L, E.ok s1 z := fun z hz => hst.ok z (by simp [hz])
  have hokB : ∀ z ∈ whs bs, E.ok s1 z := fun z hz => hst.ok z (by simp [hz])
  have heL : ∀ e ∈ esOf L, e.x = 0 ∨ E.ok s1 e.x := fun e he => hes e (by rw [<- hgs.es]; simp [he])
  have hpok := kids_ok hgs.kids hokL heL
  have hfk := firstK_mem hL hgs.kids
  have hlc : L.length <= lc := by
   obtain ⟨_, ⟨_, h2, h3, _⟩ | ⟨g, rest, _, h2, _⟩⟩ := h0.own 0 rfl
   ·omega
   ·exact h2
  by_cases hl12 : L.length <= 12
  ·refine cond_t (by simp; omega) ?_
   have g1 := hG h0
   refine LdP.of g1 5 rfl (off := 0) rfl rfl (LdI.of g1 5 rfl (off := 1) rfl (add_mk _ _ _) ?_)
   refine (write_c g1 hst.mv.inv t (x := xn) (l := L.map Kid.pr) ho0 (nodeW_len hl0) hokx (by simpa using hl12) hpok (by simp) hrd).mono ?_
   rintro e w2 ⟨s2, rfl, m2, o2, g2⟩
   have o2 : E.ov s2 = updO (E.ov s1) xn (nodeO (decide (0 < d)) (L.map Kid.pr)) := o2
   refine ⟨rfl, ?_⟩
   have g2d := g2.drew
   refine LdP.of g2d 5 rfl (off := 0) rfl rfl (LdI.of g2d 5 rfl (off := 1) rfl (add_mk _ _ _) ?_)
   refine IdxC.ownAt (k := 0) g2d 2 rfl hL0 fun g hg => ?_
   obtain ⟨c0, L', hLc⟩ := List.exists_cons_of_ne_nil hL
   have hf0 : (L.map Kid.pr)[0]? = some c0.pr := by rw [hLc]; rfl
   have hfc : c0.pr.1 = firstK L := by rw [hLc]; rfl
   refine LdI.at (n := (firstK L : Int)) (Sat.ownAt g2d 2 rfl hg (off := 0 * 2) (by rw [<- hfc]; exact pairsV_get0 hf0)) ?_
   have g3 : Sat (Way bs wp wc :: E.S s2 (Own 96 2 lp L.length lc (pairsV (L.map Kid.pr)) :: Row ub [.int .u64 ua, .slice up1 ul uc', .int .i64 uj] 152 :: Row r (trc b t) 73 :: F)) w2.drew := Sat.pull g2d 3 rfl
   have hz2 : Zip (E.ov s2) bs (d + 1) (k0, xn) := by rw [o2]; exact hgs.zip.upd a5
   have hw2 : OkW E s2 bs := okw_of hz2 (fun z hz => m2.ok z (hokB z hz)) (m2.ok k0 hk0) (m2.ok xn hokx)
   have hf2 : E.ok s2 (firstK L) := m2.ok _ (hokL _ hfk)
   have hb2 : bs.length <= 100 := by omega
   have hcall := tfirst_c g3 m2.inv t hf2 hb2 hw2
   refine Calls.mono hcall ?_
   rintro e w3 ⟨s3, rfl, m3, o3, g4⟩
   obtain ⟨root, hd⟩ := hgs.fin hL h6 h2 hl12
   refine ⟨rfl, s3, _, k, rfl, ⟨_, root, by rw [o3, o2]; exact hd⟩, ?_, by omega, hgs.nd, (outS (outS (outS g4).drop).drop).drop⟩
   have := hst.step (V' := t :: xn :: (hsOf L ++ whs bs)) (m2.trans m3) (fun z hz _ => ?_) (fun z hz => .inl hz) (fun z hz => m3.ok z (m2.ok z (hst.ok z hz)))
   ·simpa using this
   ·simp only [List.mem_cons, List.mem_append, not_or] at hz
    rw [o3, fixO_frame (fun hx => hz.2.2.2 (xs_whs hx)), o2, updO_ne _ _ hz.2.1]
  ·have hl13 : L.length = 13 := by omega
   refine cond_f (by simp; omega) ?_
   have e6 : IntKind.wrap .i64 (Int.tdiv ((L.length : Nat) : Int) 2) = ((6 : Nat) : Int) := by rw [hl13]; rfl
   have g1 := (hG h0).drew
   have hsp : L.take 6 ++ L.drop 6 = L := List.take_append_drop 6 L
   have ht6 : (L.take 6).length = 6 := by simp; omega
   have hd6 : (L.drop 6).length = 7 := by simp; omega
   have hm1 : (L.map Kid.pr).take 6 = (L.take 6).map Kid.pr := by rw [List.map_take]
   have hm2 : (L.map Kid.pr).drop 6 = (L.drop 6).map Kid.pr := by rw [List.map_drop]
   have hmem1 : ∀ c ∈ L.take 6, c ∈ L := fun c hc => List.mem_of_mem_take hc
   have hmem2 : ∀ c ∈ L.drop 6, c ∈ L := fun c hc => List.mem_of_mem_drop hc
   have hn1 : L.take 6 ≠ [] := by intro e; rw [e] at ht6; simp at ht6
   have hn2 : L.drop 6 ≠ [] := by intro e; rw [e] at hd6; simp at hd6
   have hfk1 : firstK (L.take 6) = firstK L := by
    cases L with
    | nil => exact absurd rfl hL
    | cons c L => rfl
   have hok1 : ∀ p ∈ (L.take 6).map Kid.pr, (p.1 = 0 ∨ E.ok s1 p.1) /\ (p.2 = 0 ∨ E.ok s1 p.2) := fun p hp => hpok p (by rw [<- hm1] at hp; exact List.mem_of_mem_take hp)
   have hok2 : ∀ p ∈ (L.drop 6).map Kid.pr, (p.1 = 0 ∨ E.ok s1 p.1) /\ (p.2 = 0 ∨ E.ok s1 p.2) := fun p hp => hpok p (by rw [<- hm2] at hp; exact List.mem_of_mem_drop hp)
   have hfk2 : firstK (L.drop 6) ∈ hsOf L := by
    obtain ⟨c, hc, hz⟩ := mem_hsOf.1 (firstK_mem hn2 fun c hc => hgs.kids c (hmem2 c hc))
    exact mem_hsOf.2 ⟨c, hmem2 c hc, hz⟩
   obtain ⟨c7, hc7⟩ : ∃ c7, L[6]? = some c7 := ⟨_, List.getElem?_eq_getElem (by omega)⟩
   have hk7 : c7.pr.1 = firstK (L.drop 6) := by
    have : L.drop 6 = c7 :: L.drop 7 := by
     rw [List.getElem?_eq_getElem (by omega)] at hc7
     simp only [Option.some.injEq] at hc7
     rw [List.drop_eq_getElem_cons (by omega), hc7]
    rw [this]; rfl
   have hg7 : (L.map Kid.pr)[6]? = some c7.pr := by rw [List.getElem?_map, hc7]; rfl
   obtain ⟨c0, L', hLc⟩ := List.exists_cons_of_ne_nil hL
   have hf0 : (L.map Kid.pr)[0]? = some c0.pr := by rw [hLc]; rfl
   have hfc : c0.pr.1 = firstK L := by rw [hLc]; rfl
   refine LdP.of g1 5 rfl (off := 0) rfl rfl (LdI.of g1 5 rfl (off := 1) rfl (add_mk _ _ _) ?_)
   refine ⟨by decide, ?_⟩
   refine SlC.of 6 L.length lc e6 rfl rfl (by omega) hlc (Nat.le_refl _) ?_
   have hroom1 : (E.H s1).m.top + 26 <= (E.H s1).m.n /\ (E.H s1).t.count < (E.H s1).t.n := by
    have q1 := hst.mv.top; have q2 := hst.mv.n; have q3 := hst.mv.cnt; have q4 := hst.mv.tn
    omega
   refine (node_c g1 hst.mv.inv t (inner := decide (0 < d)) (l := (L.drop 6).map Kid.pr) (by simp; omega) hok2 hroom1.1 hroom1.2 (by simp) (by rw [<- hm2]; exact hrd.sub (by omega) (by simp; omega))).mono ?_
   rintro e w2 ⟨s2, y, rfl, m2, hy0, hyn, hyk, o2, g2⟩
   refine ⟨_, rfl, ?_⟩
   have g2d := g2.drew
   refine LdP.of g2d 5 rfl (off := 0) rfl rfl (LdI.of g2d 5 rfl (off := 1) rfl (add_mk _ _ _) ?_)
   refine ⟨by decide, ?_⟩
   refine SlC.of 0 6 lc rfl e6 rfl (by omega) (by omega) (Nat.le_refl _) ?_
   rw [slAddr_zero]
   have hxy : xn ≠ y := fun e => by rw [e] at ho0; rw [hyn] at ho0; cases ho0
   have hyV : y ∉ t :: xn :: (hsOf L ++ whs bs) := fun hh => by
    have := ok_some hst.mv.inv (hst.ok y hh); rw [hyn] at this; cases this
   refine (write_c g2d m2.inv t (x := xn) (l := (L.take 6).map Kid.pr) (by rw [o2, updO_ne _ _ hxy]; exact ho0) (nodeW_len hl0) (m2.ok _ hokx) (by simp; omega) (fun p hp => ⟨m2.some (hok1 p hp).1, m2.some (hok1 p hp).2⟩) (by simp; omega) (by rw [<- hm1]; exact hrd.take 6)).mono ?_
   rintro e w3 ⟨s3, rfl, m3, o3, g3⟩
   have o3 : E.ov s3 = updO (updO (E.ov s1) y (nodeO (decide (0 < d)) ((L.drop 6).map Kid.pr))) xn (nodeO (decide (0 < d)) ((L.take 6).map Kid.pr)) := by rw [o3, o2]; rfl
   have m13 := m2.trans m3
   refine ⟨rfl, ?_⟩
   have hfr3 : ∀ z, z ∉ t :: xn :: (hsOf L ++ whs bs) -> (E.ov s1 z).isSome = true -> E.ov s3 z = E.ov s1 z := fun z hz hs => by
    simp only [List.mem_cons, List.mem_append, not_or] at hz
    have hzy : z ≠ y := fun e => by rw [e, hyn] at hs; cases hs
    rw [o3, updO_ne _ _ hz.2.1, updO_ne _ _ hzy]
   rw [<- hsp] at hgs
   by_cases hb0 : bs = []
   ·subst hb0
    refine cond_t rfl ?_
    refine ⟨fun w' => Sat (Own 96 2 lp L.length lc (pairsV (L.map Kid.pr)) :: Way [] wp wc :: Row ub [.int .u64 ua, .slice up1 ul uc', .int .i64 uj] 152 :: Row r (trc b t) 73 :: F) w', g3.drew.drop.drop, ?_⟩
    refine ⟨_, _, fun w' h => trv_ld h 3 rfl, _, _, fun w' h => trv_ld h 3 rfl, ?_⟩
    refine IdxC.ownAt (k := 0) g3 2 rfl hL0 fun g hg => ?_
    refine ⟨(firstK L : Int), fun w' h => LdI.at (Sat.ownAt h 0 rfl hg (off := 0 * 2) (by rw [<- hfc]; exact pairsV_get0 hf0)) rfl, ?_⟩
    refine ⟨by decide, ?_⟩
    rw [e6]
    refine IdxC.ownAt (k := 6) g3 2 rfl (by omega) fun g' hg' => ?_
    refine ⟨(firstK (L.drop 6) : Int), fun w' h => LdI.at (Sat.ownAt h 0 rfl hg' (off := 6 * 2) (by rw [<- hk7]; exact pairsV_get0 hg7)) rfl, ?_⟩
    refine ⟨_, _, fun w' h => trv_ld h 3 rfl, _, _, fun w' h => trv_ld h 3 rfl, ?_⟩
    refine NewC.ofRow g3.drew fun b4 w4 g4 => ⟨g4.drop.drop.drop, ?_⟩
    have hroom3 : (E.H s3).m.top + 26 <= (E.H s3).m.n /\ (E.H s3).t.count < (E.H s3).t.n := by
     have q1 := hst.mv.top; have q2 := hst.mv.n; have q3 := hst.mv.cnt; have q4 := hst.mv.tn
     have p1 := m13.top; have p2 := m13.n; have p3 := m13.cnt; have p4 := m13.tn
     simp only [List.length_nil] at hbs
     omega
    have hk4 : ∀ p ∈ [(firstK L, xn), (firstK (L.drop 6), y)], (p.1 = 0 ∨ E.ok s3 p.1) /\ (p.2 = 0 ∨ E.ok s3 p.2) := by
     intro p hp
     simp only [List.mem_cons, List.not_mem_nil, or_false] at hp
     rcases hp with rfl | rfl
     ·exact ⟨.inr (m13.ok _ (hokL _ hfk)), .inr (m13.ok _ hokx)⟩
     ·exact ⟨.inr (m13.ok _ (hokL _ hfk2)), .inr (m3.ok _ hyk)⟩
    refine (node_c (inS g4) m3.inv t (inner := true) (l := [(firstK L, xn), (firstK (L.drop 6), y)]) (by simp) hk4 hroom3.1 hroom3.2 rfl (RdP.row 0 rfl)).mono ?_
    rintro e w5 ⟨s4, z, rfl, m4, hz0, hzn, hzk, o4, g5⟩
    refine ⟨_, rfl, g5.drop.drop.drop, ?_⟩
    have hzV : z ∉ y :: t :: xn :: (hsOf (L.take 6 ++ L.drop 6) ++ whs []) := fun hh => by
     have hl : (E.ov s3 z).isSome = true := by
      rcases List.mem_cons.1 hh with rfl | hh
      ·exact ok_some m3.inv (m3.ok _ hyk)
      ·rw [hsp] at hh
       exact ok_some m3.inv (m13.ok z (hst.ok z hh))
     rw [hzn] at hl; cases hl
    have hz2 := hzV
    simp only [List.mem_cons, List.mem_append, not_or] at hz2
    have hty : t ≠ y := fun e => hyV (by rw [<- e]; simp)
    have hto : E.ov s4 t = some (treeO (topx [] xn) n D) := by rw [o4, updO_ne _ _ (fun e => hz2.2.1 e.symm), o3, updO_ne _ _ a1, updO_ne _ _ hty]; exact hgs.tree
    refine (tcount_c g5 hto hnb).mono ?_
    rintro e w6 ⟨rfl, g6⟩
    refine ⟨_, rfl, g6.drop.drop.drop, ?_⟩
    refine (tdepth_c g6 hto (by omega)).mono ?_
    rintro e w7 ⟨rfl, g7⟩
    refine ⟨_, rfl, g7.drop.drop.drop, ?_⟩
    have e1 : IntKind.wrap .i64 ((D : Int) + 1) = ((D + 1 : Nat) : Int) := by rw [wrapI64 (by omega) (by omega)]; omega
    rw [e1]
    have htk : E.ok s4 t := m4.ok _ (m13.ok _ (hst.ok t (by simp)))
    refine (tset_c g7 m4.inv (top := z) (n := n) (d := D + 1) hto htk (.inr hzk) (by omega) (by omega)).mono ?_
    rintro e w8 ⟨s5, rfl, m5, o5, g8⟩
    have g8d := g8.drop.drop.drop
    refine ⟨rfl, g8d, ?_⟩
    rw [<- hsp] at hyV
    obtain ⟨root, hd⟩ := hgs.top (by omega) (by omega) hyV hzV
    rw [hsp] at hyV
    have hov5 : E.ov s5 = updO (updO (updO (updO (E.ov s1) y (nodeO (decide (0 < d)) ((L.drop 6).map Kid.pr))) xn (nodeO (decide (0 < d)) ((L.take 6).map Kid.pr))) z (nodeO true [(firstK (L.take 6), xn), (firstK (L.drop 6), y)])) t (treeO z n (D + 1)) := by
     rw [o5, o4, o3, hfk1]
    rw [hsp] at hd
    have hmm := m13.trans (m4.trans m5)
    refine ⟨s5, _, k + 2, rfl, ⟨_, root, by rw [hov5]; exact hd⟩, ?_, by simp only [List.length_nil] at hbs; omega, ?_, (outS (outS (outS (outS (outS g8).drop).drop).drop).drop).drop⟩
    ·have := hst.step (V' := z :: y :: t :: xn :: (hsOf L ++ whs [])) hmm (fun q hq hqs => ?_) (fun q hq => ?_) (fun q hq => ?_)
     ·have e : 26 * k + (26 + 0 + (26 + 0)) = 26 * (k + 2) := by omega
      rw [e] at this
      exact this
     ·have h3 := hfr3 q hq hqs
      have hq3 : (E.ov s3 q).isSome = true := by rw [h3]; exact hqs
      have hqz : q ≠ z := fun e => by rw [e, hzn] at hq3; cases hq3
      have hqt : q ≠ t := fun e => hq (by rw [e]; simp)
      rw [o5, updO_ne _ _ hqt, o4, updO_ne _ _ hqz, h3]
     ·rcases List.mem_cons.1 hq with rfl | hq
      ·right
       cases hh : E.ov s1 q with
       | none => rfl
       | some o => have := m13.alive q (by rw [hh]; rfl); rw [hzn] at this; cases this
      ·rcases List.mem_cons.1 hq with rfl | hq
       ·exact .inr hyn
       ·exact .inl hq
     ·rcases List.mem_cons.1 hq with rfl | hq
      ·exact m5.ok _ hzk
      ·rcases List.mem_cons.1 hq with rfl | hq
       ·exact m5.ok _ (m4.ok _ (m3.ok _ hyk))
       ·exact hmm.ok _ (hst.ok q hq)
    ·rw [hsp] at hzV
     exact List.nodup_cons.2 ⟨hzV, List.nodup_cons.2 ⟨hyV, by have := hgs.nd; rw [hsp] at this; exact this⟩⟩
   ·obtain ⟨f, r', rfl⟩ := List.exists_cons_of_ne_nil hb0
    refine cond_f (by simp; omega) ?_
    have hsh := hgs.up (y := y) (by omega) (by omega) (by rw [hsp]; exact hyV)
    rw [hsp] at hsh
    obtain ⟨hgs', hperm⟩ := hsh
    obtain ⟨z1, z2, z3, z4⟩ := hgs.zip
    obtain ⟨q, qr, hqr, hcap, hstp, g4⟩ := way_top (Sat.pull g3 3 rfl)
    have hbl : (f :: r').length <= 12 := by omega
    have ei : IntKind.wrap .i64 ((((f :: r').length : Nat) : Int) - 1) = ((r'.length : Nat) : Int) := by
     rw [wrapI64 (by omega) (by omega)]
     simp only [List.length_cons]
     omega
    rw [ei]
    refine IdxC.ownAt g4 2 rfl (by simp) fun g hg => ?_
    refine LdI.at (n := (f.x : Int)) (Sat.ownAt g4 2 rfl hg (off := r'.length * 3 + 0) (hstp rfl)) ?_
    refine LdS.at (p := q.1) (l := f.l.length) (c := q.2) (Sat.ownAt g4 2 rfl hg (off := r'.length * 3 + 1) (hstp rfl)) ?_
    refine LdI.at (n := (f.A.length : Nat)) (Sat.ownAt g4 2 rfl hg (off := r'.length * 3 + 2) (hstp rfl)) ?_
    refine StC.of g4 6 rfl (off := 0) rfl rfl fun w4 g5 => StC.of g5 6 rfl (off := 1) rfl (add_mk _ _ _) fun w5 g6 => StC.of g6 6 rfl (off := 2) rfl (add_mk _ _ _) fun w6 g7 => ?_
    have hwc : (f :: r').length <= wc := by
     obtain ⟨_, ⟨_, q2, q3, _⟩ | ⟨_, _, _, q2, _⟩⟩ := g7.own 2 rfl
     ·simp at q2
     ·exact q2
    refine SlC.of 0 r'.length wc rfl rfl rfl (by omega) (by simp at hwc; omega) (Nat.le_refl _) ?_
    rw [slAddr_zero, Nat.sub_zero, Nat.sub_zero]
    have g7 : Sat (Own 96 2 q.1 f.l.length q.2 (pairsV f.l) :: LsH r' qr :: Own 152 3 wp (f :: r').length wc (stepsV (f :: r') (q :: qr)) :: HeapH (E.H s3) v b :: E.rest s3 :: Own 96 2 lp L.length lc (pairsV (L.map Kid.pr)) ::
     Row ub [.int .u64 (f.x : Int), .slice q.1 f.l.length q.2, .int .i64 (f.A.length : Nat)] 152 :: Row r (trc b t) 73 :: F) w6.drew := g7.drew
    refine LdS.of g7 6 rfl (off := 1) rfl (add_mk _ _ _) (LdI.of g7 6 rfl (off := 2) rfl (add_mk _ _ _) ?_)
    refine IdxC.ownAt (k := 0) g7 5 rfl hL0 fun ga hga => ?_
    refine LdI.at (n := (firstK L : Int)) (Sat.ownAt g7 5 rfl hga (off := 0 * 2) (by rw [<- hfc]; exact pairsV_get0 hf0)) ?_
    have hfl : f.A.length < f.l.length := by rw [Fr.l_len]; omega
    refine IdxC.ownAt g7 0 rfl hfl fun g2 hg2 => ?_
    refine StC.ownAt g7 0 rfl hg2 (off := f.A.length * 2) (v0 := .int .u64 (f.p.1 : Int)) (pairsV_get0 f.get) rfl fun w7 g8 => ?_
    simp only [List.set_cons_zero] at g8
    rw [pairsV_set0 (firstK L) f.get, f.set_l (firstK L)] at g8
    refine ⟨fun w' => ∃ T, Sat (Own 96 2 lp L.length lc (pairsV (L.map Kid.pr)) :: Row ub [.int .u64 (f.x : Int), .slice q.1 f.l.length q.2, .int .i64 (f.A.length : Nat)] 152 :: T) w', ⟨_, (Sat.pull g8.drew 6 rfl).pull 6 rfl⟩, ?_⟩
    refine ⟨_, _, _, fun w' ⟨T, h⟩ => LdS.of h 1 rfl (off := 1) rfl (add_mk _ _ _) rfl, ?_⟩
    refine ⟨_, fun w' ⟨T, h⟩ => LdI.of h 1 rfl (off := 2) rfl (add_mk _ _ _) rfl, ?_⟩
    refine ⟨by decide, ?_⟩
    rw [e6]
    refine IdxC.ownAt (k := 6) g8 5 rfl (by omega) fun g' hg' => ?_
    refine ⟨(firstK (L.drop 6) : Int), fun w' ⟨T, h⟩ => LdI.at (Sat.ownAt h 0 rfl hg' (off := 6 * 2) (by rw [<- hk7]; exact pairsV_get0 hg7)) rfl, ?_⟩
    refine NewC.ofRow g8.drew fun b5 w8 g9 => ⟨⟨_, (Sat.pull g9 7 rfl).pull 7 rfl⟩, ?_⟩
    have hwl := f.with_len (firstK L)
    have hl12' : f.l.length <= 12 := by rw [Fr.l_len]; exact z2.2.2.2.2
    rw [<- hwl] at g9 ⊢
    refine (insert_c (q := (firstK (L.drop 6), y)) (i := f.A.length + 1) (Sat.p1 g9) (by omega) (by omega) (by omega) rfl (by rw [wrapI64 (by omega) (by omega)]; omega)).mono ?_
    rintro e w9 ⟨np, nc, rfl, g10⟩
    refine ⟨_, _, _, rfl, ⟨_, (Sat.pull g10 6 rfl).pull 6 rfl⟩, ?_⟩
    refine LdI.of g10 6 rfl (off := 0) rfl rfl ?_
    have hlist : (f.with (firstK L)).l.take (f.A.length + 1) ++ (firstK (L.drop 6), y) :: (f.with (firstK L)).l.drop (f.A.length + 1) = (f.A ++ mkKid xn (L.take 6) :: mkKid y (L.drop 6) :: f.B).map Kid.pr := by
     have q1 := mkKid_pr (x := xn) hn1 fun c hc => hgs.kids c (by rw [hsp]; exact hmem1 c hc)
     have q2 := mkKid_pr (x := y) hn2 fun c hc => hgs.kids c (by rw [hsp]; exact hmem2 c hc)
     have q3 : f.p.2 = xn := by rw [z1]
     have q4 : (f.with (firstK L)).l = (f.A.map Kid.pr ++ [(firstK L, xn)]) ++ f.B.map Kid.pr := by simp [Fr.l, Fr.with, q3]
     have q5 : (f.A.map Kid.pr ++ [(firstK L, xn)]).length = f.A.length + 1 := by simp
     rw [q4, <- q5, List.take_left, List.drop_left, List.map_append, List.map_cons, List.map_cons, q1, q2, hfk1]
     simp
    have hlen' : (f.with (firstK L)).l.length + 1 = (f.A ++ mkKid xn (L.take 6) :: mkKid y (L.drop 6) :: f.B).length := by rw [hwl, Fr.l_len]; simp; omega
    rw [hlist, hlen'] at g10
    rw [hlen']
    have hLn : (f.A ++ mkKid xn (L.take 6) :: mkKid y (L.drop 6) :: f.B).length = f.A.length + 1 + f.B.length + 1 := by simp; omega
    have hmn := z2.2.2.2.1
    have m13' : E.Mv s1 s3 1 26 := by simpa using m13
    have hkey : E.ok s1 f.key := by
     unfold Fr.key
     cases hA : f.A with
     | nil => simp only; rw [z1]; exact hk0
     | cons a A => exact hokB _ (by simp only [whs, List.mem_cons, List.mem_append]; exact .inr (.inl (.inl (mem_hsOf.2 ⟨a, by rw [hA]; simp, ((z2.2.1 a (by rw [hA]; simp)).keyOK (by omega)).2.2.1⟩))))
    have hinv : GInv E s U t n D ES B r F 0 wp r'.length wc (f.x : Int) np (f.A ++ mkKid xn (L.take 6) :: mkKid y (L.drop 6) :: f.B).length nc true ⟨ub, 0, none⟩ w9 := by
     refine ⟨r', f.x, f.A ++ mkKid xn (L.take 6) :: mkKid y (L.drop 6) :: f.B, d + 1, f.key, s3, k + 1, ub, (f.x : Int), q.1, (f.with (firstK L)).l.length, q.2, (f.A.length : Nat), rfl, rfl, rfl, by simp, rfl, by rw [o3]; exact hgs', by simp, by omega, fun hr => ?_, fun _ => by omega, m13.ok _ hkey, ?_, by simp only [List.length_cons] at hbs; omega, fun e he => m13.some (hes e he), ?_⟩
     ·have : mnOf r' = 6 := by
       cases r' with
       | nil => exact absurd rfl hr
       | cons _ _ => rfl
      omega
     ·have := hst.step (V' := t :: f.x :: (hsOf (f.A ++ mkKid xn (L.take 6) :: mkKid y (L.drop 6) :: f.B) ++ whs r')) m13' hfr3 (fun z hz => ?_) (fun z hz => ?_)
      ·have e : 26 * k + 26 = 26 * (k + 1) := by omega
       rw [e] at this
       exact this
      ·rcases List.mem_cons.1 (hperm.mem_iff.1 hz) with rfl | hz
       ·exact .inr hyn
       ·exact .inl hz
      ·rcases List.mem_cons.1 (hperm.mem_iff.1 hz) with rfl | hz
       ·exact m3.ok _ hyk
       ·exact m13.ok _ (hst.ok z hz)
     ·exact ((Sat.pull (Sat.drop (Sat.pull (way_pop hqr (Sat.pull (Sat.pull g10 1 rfl) 2 rfl)) 4 rfl)) 4 rfl).pull 1 rfl).pull 2 rfl
    exact ⟨hinv, by simp⟩
end
end Go.Proofs.YtpicofkhioalkaaGreat
