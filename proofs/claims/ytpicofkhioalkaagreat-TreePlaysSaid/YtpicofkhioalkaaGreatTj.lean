
/- What shrunk comes to: fewer entries in a node, and those around and above it made right. -/
import Derived.Test.YtpicofkhioalkaaGreatTh
set_option maxRecDepth 100000
namespace Go.Proofs.YtpicofkhioalkaaGreat
open Go Go.Lw Go.Wd Go.Am Go.Tb Go.Hm Go.Kd Go.Td
section
variable {v : Value} {b : Nat} {E : Eng v b} {s : E.σ} {F : List HP} {w : World}
theorem EndT.after {s1 : E.σ} {U V : List Nat} {t : Nat} {ES : List Ent} {e : Ending} (h : St E s U s1 V 0 0) (g : EndT E s1 V t ES F e w) : EndT E s U t ES F e w := by
 obtain ⟨s', V', h1, h2, h3, h4⟩ := g
 exact ⟨s', V', h1, h2, h.trans h3 fun z hz => hz, h4⟩
theorem EndT.drop {A : HP} {U : List Nat} {t : Nat} {ES : List Ent} {e : Ending} (g : EndT E s U t ES (A :: F) e w) : EndT E s U t ES F e w := by
 obtain ⟨s', V', h1, h2, h3, h4⟩ := g
 exact ⟨s', V', h1, h2, h3, (outS h4).drop⟩
def SInv (E : Eng v b) (s : E.σ) (U : List Nat) (t n D : Nat) (ES : List Ent) (r : Nat) (F : List HP) (_i : Nat) (wp : Option Addr) (wl wc : Nat) (x : Int) (lp : Option Addr) (ll lc : Nat) (inner : Bool) (up : Addr) (w' : World) : Prop :=
 ∃ (bs : List Fr) (xn : Nat) (L : List Kid) (d k0 : Nat) (s1 : E.σ) (ub : Nat) (ua : Int) (up1 : Option Addr) (ul uc' : Nat) (uj : Int), wl = bs.length /\ x = (xn : Int) /\ ll = L.length /\ inner = decide (0 < d) /\ up = ⟨ub, 0, none⟩ /\ GS (E.ov s1) t n D ES bs xn L d k0 /\
  L.length <= 12 /\ (bs ≠ [] -> 5 <= L.length) /\ (0 < d -> 1 <= L.length) /\ E.ok s1 k0 /\ St E s U s1 (t :: xn :: (hsOf L ++ whs bs)) 0 0 /\ (∀ e ∈ ES, e.x = 0 ∨ E.ok s1 e.x) /\ bs.length <= 12 /\
  Sat (Own 96 2 lp L.length lc (pairsV (L.map Kid.pr)) :: Way bs wp wc :: Row ub [.int .u64 ua, .slice up1 ul uc', .int .i64 uj] 152 :: E.S s1 (Row r (trc b t) 73 :: F)) w'
set_option maxHeartbeats 8000000 in
theorem shrunk_c {t n D xn d k0 : Nat} {ES : List Ent} {bs : List Fr} {L : List Kid} {wp lp : Option Addr} {wc lc : Nat} (h00 : Sat (Own 96 2 lp L.length lc (pairsV (L.map Kid.pr)) :: Way bs wp wc :: E.S s F) w) (hi : E.inv s)
  (hgs : GS (E.ov s) t n D ES bs xn L d k0) (hl12 : L.length <= 12) (h5 : bs ≠ [] -> 5 <= L.length) (h1 : 0 < d -> 1 <= L.length) (hk0 : E.ok s k0) (hok : ∀ z ∈ t :: xn :: (hsOf L ++ whs bs), E.ok s z) {U : List Nat} (hU : t :: xn :: (hsOf L ++ whs bs) = U) (hB12 : bs.length <= 12) (hD12 : D <= 12)
  (hn : n = ES.length) (hn3 : n <= 1000000) (hsr : Srt ES) (hes : ∀ e ∈ ES, e.x = 0 ∨ E.ok s e.x) {inner : Bool} (hin : inner = decide (0 < d)) :
  Calls Tryz.prog 95 #[trv b t, .slice wp bs.length wc, .int .u64 (xn : Int), .slice lp L.length lc, .bool inner] w (EndT E s U t ES F) := by
 subst hin
 refine S_tree_tree_shrunk_ok _ _ _ _ _ _ _ _ _ _ _ _ ?_
 unfold S_tree_tree_shrunk
 refine NewC.ofRow h00 fun r w0 h01 => ?_
 refine ⟨SInv E s U t n D ES r F, fun _ wl _ _ _ _ _ _ _ _ => wl, ?_, ?_, trivial⟩
 ·refine NewC.ofRow h01 fun ub w1 h02 => ?_
  have h0 : Sat (Own 96 2 lp L.length lc (pairsV (L.map Kid.pr)) :: Way bs wp wc :: Row ub [.int .u64 0, .slice none 0 0, .int .i64 0] 152 :: E.S s (Row r (trc b t) 73 :: F)) w1 :=
   (((((Sat.pull h02 1 rfl).pull 5 rfl).pull 5 rfl).pull 3 rfl).pull 5 rfl).pull 5 rfl
  obtain ⟨s1, hs1⟩ : ∃ s1, s1 = s := ⟨s, rfl⟩
  have hst : St E s U s1 (t :: xn :: (hsOf L ++ whs bs)) 0 0 := by rw [hs1, <- hU]; exact St.start hi hok
  rw [<- hs1] at hgs hk0 hes h0
  clear hU hok h00 h01 h02
  have hG : ∀ {w' : World}, Sat (Own 96 2 lp L.length lc (pairsV (L.map Kid.pr)) :: Way bs wp wc :: Row ub [.int .u64 0, .slice none 0 0, .int .i64 0] 152 :: E.S s1 (Row r (trc b t) 73 :: F)) w' ->
    Sat (E.S s1 (Own 96 2 lp L.length lc (pairsV (L.map Kid.pr)) :: Way bs wp wc :: Row ub [.int .u64 0, .slice none 0 0, .int .i64 0] 152 :: Row r (trc b t) 73 :: F)) w' := fun h => (Sat.pull h 4 rfl).pull 4 rfl
  have hlp : L.map Kid.pr ≠ [] -> ∃ a, lp = some a := fun h => by obtain ⟨g, hg⟩ := h0.own_some 0 rfl (List.length_pos_iff.2 fun e => h (by rw [e]; rfl)); exact ⟨_, hg⟩
  have hrd : RdP (Own 96 2 lp L.length lc (pairsV (L.map Kid.pr)) :: Way bs wp wc :: Row ub [.int .u64 0, .slice none 0 0, .int .i64 0] 152 :: Row r (trc b t) 73 :: F) lp (L.map Kid.pr) := RdP.own (k := 0) rfl (by simp) hlp
  obtain ⟨a1, a2, a3, a4, a5, a6, a7, a8⟩ := zip_of_nd hgs.nd
  obtain ⟨l0, ho0, hl0⟩ := hgs.node
  have hokx : E.ok s1 xn := hst.ok xn (by simp)
  have hokL : ∀ z ∈ hsOf L, E.ok s1 z := fun z hz => hst.ok z (by simp [hz])
  have hokB : ∀ z ∈ whs bs, E.ok s1 z := fun z hz => hst.ok z (by simp [hz])
  have heL : ∀ e ∈ esOf L, e.x = 0 ∨ E.ok s1 e.x := fun e he => hes e (by rw [<- hgs.es]; simp [he])
  have hpok := kids_ok hgs.kids hokL heL
  by_cases hb0 : bs = []
  ·subst hb0
   refine cond_t rfl ?_
   have g1 := hG h0
   refine LdP.of g1 5 rfl (off := 0) rfl rfl (LdI.of g1 5 rfl (off := 1) rfl (add_mk _ _ _) ?_)
   refine (topped_c g1 hst.mv.inv hgs hl12 h1 (St.start hst.mv.inv hst.ok) hD12 hn hn3 hsr hes hrd rfl).mono ?_
   intro e w2 h2
   have h3 := (EndT.after hst h2).drop.drop.drop.drop
   obtain ⟨s', V', rfl, q⟩ := h3
   exact ⟨rfl, s', V', rfl, q⟩
  ·obtain ⟨f, r', rfl⟩ := List.exists_cons_of_ne_nil hb0
   refine cond_f (by simp; omega) ?_
   obtain ⟨z1, ⟨f1, f2, f3, f4, f5⟩, z3, z4⟩ := hgs.zip
   by_cases hl6 : 6 <= L.length
   ·refine cond_t (by simp; omega) ?_
    have hL : L ≠ [] := fun e => by rw [e] at hl6; simp at hl6
    have hL0 := List.length_pos_iff.2 hL
    have hfk := firstK_mem hL hgs.kids
    have g1 := hG h0
    refine LdP.of g1 5 rfl (off := 0) rfl rfl (LdI.of g1 5 rfl (off := 1) rfl (add_mk _ _ _) ?_)
    refine (write_c g1 hst.mv.inv t (x := xn) (l := L.map Kid.pr) ho0 (nodeW_len hl0) hokx (by simpa using hl12) hpok (by simp) hrd).mono ?_
    rintro e w2 ⟨s2, rfl, m2, o2, g2⟩
    have o2 : E.ov s2 = updO (E.ov s1) xn (nodeO (decide (0 < d)) (L.map Kid.pr)) := o2
    refine ⟨rfl, ?_⟩
    have g2d := g2.drew
    refine LdP.of g2d 5 rfl (off := 0) rfl rfl (LdI.of g2d 5 rfl (off := 1) rfl (add_mk _ _ _) ?_)
    refine IdxC.ownAt (k := 0) g2d 2 rfl hL0 fun g hg => ?_
    obtain ⟨c0, L', hLc⟩ := List.exists_cons_of_ne_nil hL
    have hf0 : (L.map Kid.pr)[0]? = some c0.pr := by rw [hLc]; rfl
    have hfc : c0.pr.1 = firstK L := by rw [hLc]; rfl
    refine LdI.at (n := (firstK L : Int)) (Sat.ownAt g2d 2 rfl hg (off := 0 * 2) (by rw [<- hfc]; exact pairsV_get0 hf0)) ?_
    have g3 : Sat (Way (f :: r') wp wc :: E.S s2 (Own 96 2 lp L.length lc (pairsV (L.map Kid.pr)) :: Row ub [.int .u64 0, .slice none 0 0, .int .i64 0] 152 :: Row r (trc b t) 73 :: F)) w2.drew := Sat.pull g2d 3 rfl
    have hz2 : Zip (E.ov s2) (f :: r') (d + 1) (k0, xn) := by rw [o2]; exact hgs.zip.upd a5
    have hw2 : OkW E s2 (f :: r') := okw_of hz2 (fun z hz => m2.ok z (hokB z hz)) (m2.ok k0 hk0) (m2.ok xn hokx)
    have hf2 : E.ok s2 (firstK L) := m2.ok _ (hokL _ hfk)
    have hb2 : (f :: r').length <= 100 := by omega
    refine (tfirst_c g3 m2.inv t hf2 hb2 hw2).mono ?_
    rintro e w3 ⟨s3, rfl, m3, o3, g4⟩
    obtain ⟨root, hd⟩ := hgs.fin hL (fun _ => hl6) (fun _ => by omega) hl12
    have hd : Done (E.ov s3) t n (d + (f :: r').length) ES (t :: xn :: (hsOf L ++ whs (f :: r'))) root := by rw [o3, o2]; exact hd
    refine ⟨rfl, s3, _, rfl, tree_of_done hd hn hgs.nd hsr, ?_, (outS (outS (outS g4).drop).drop).drop⟩
    have := hst.step (V' := t :: xn :: (hsOf L ++ whs (f :: r'))) (m2.trans m3) (fun z hz _ => ?_) (fun z hz => .inl hz) (fun z hz => m3.ok z (m2.ok z (hst.ok z hz)))
    ·simpa using this
    ·simp only [List.mem_cons, List.mem_append, not_or] at hz
     rw [o3, fixO_frame (fun hx => hz.2.2.2 (xs_whs hx)), o2, updO_ne _ _ hz.2.1]
   ·refine cond_f (by simp; omega) ?_
    have h5 := h5 hb0
    have hL : L ≠ [] := fun e => by rw [e] at h5; simp at h5
    have hfll : f.l.length = f.A.length + 1 + f.B.length := f.l_len
    have hmn2 : 2 <= mnOf r' := by cases r' <;> simp [mnOf]
    obtain ⟨q, qr, hqr, hcap, hstp, g4⟩ := way_top (Sat.pull h0 1 rfl)
    have hbl : (f :: r').length <= 12 := hB12
    have ei : IntKind.wrap .i64 ((((f :: r').length : Nat) : Int) - 1) = ((r'.length : Nat) : Int) := by
     rw [wrapI64 (by omega) (by omega)]
     simp only [List.length_cons]
     omega
    rw [ei]
    refine IdxC.ownAt g4 2 rfl (by simp) fun g hg => ?_
    refine LdI.at (n := (f.x : Int)) (Sat.ownAt g4 2 rfl hg (off := r'.length * 3 + 0) (hstp rfl)) ?_
    refine LdS.at (p := q.1) (l := f.l.length) (c := q.2) (Sat.ownAt g4 2 rfl hg (off := r'.length * 3 + 1) (hstp rfl)) ?_
    refine LdI.at (n := (f.A.length : Nat)) (Sat.ownAt g4 2 rfl hg (off := r'.length * 3 + 2) (hstp rfl)) ?_
    refine StC.of g4 4 rfl (off := 0) rfl rfl fun w4 g5 => StC.of g5 4 rfl (off := 1) rfl (add_mk _ _ _) fun w5 g6 => StC.of g6 4 rfl (off := 2) rfl (add_mk _ _ _) fun w6 g7 => ?_
    have hwc : (f :: r').length <= wc := by
     obtain ⟨_, ⟨_, q2, q3, _⟩ | ⟨_, _, _, q2, _⟩⟩ := g7.own 2 rfl
     ·simp at q2
     ·exact q2
    refine SlC.of 0 r'.length wc rfl rfl rfl (by omega) (by simp at hwc; omega) (Nat.le_refl _) ?_
    rw [slAddr_zero, Nat.sub_zero, Nat.sub_zero]
    have g7 : Sat (Own 96 2 q.1 f.l.length q.2 (pairsV f.l) :: LsH r' qr :: Own 152 3 wp (f :: r').length wc (stepsV (f :: r') (q :: qr)) :: Own 96 2 lp L.length lc (pairsV (L.map Kid.pr)) ::
     Row ub [.int .u64 (f.x : Int), .slice q.1 f.l.length q.2, .int .i64 (f.A.length : Nat)] 152 :: HeapH (E.H s1) v b :: E.rest s1 :: Row r (trc b t) 73 :: F) w6 := g7
    refine LdS.of g7 4 rfl (off := 1) rfl (add_mk _ _ _) ?_
    refine cond_f (by simp; omega) ?_
    refine LdI.of g7 4 rfl (off := 2) rfl (add_mk _ _ _) ?_
    intro k1 hk1
    refine LdI.of g7 4 rfl (off := 2) rfl (add_mk _ _ _) ?_
    have g8 : Sat (E.S s1 (Own 96 2 q.1 f.l.length q.2 (pairsV f.l) :: Own 96 2 lp L.length lc (pairsV (L.map Kid.pr)) :: Way r' wp wc ::
     Row ub [.int .u64 (f.x : Int), .slice q.1 f.l.length q.2, .int .i64 (f.A.length : Nat)] 152 :: Row r (trc b t) 73 :: F)) w6 :=
     ((((((way_pop hqr (Sat.pull (Sat.pull g7 1 rfl) 2 rfl)).pull 3 rfl).pull 1 rfl).pull 3 rfl).pull 3 rfl).pull 5 rfl).pull 5 rfl
    have key : ∀ (y1 y2 : Nat) (A B M : List Kid) (ap : Option Addr) (ac : Nat) (w' : World), Sib (E.ov s1) t n D ES r' f.x f.key y1 y2 A B M d (t :: xn :: (hsOf L ++ whs (f :: r'))) f.l ->
      iMax 0 (IntKind.wrap .i64 (((f.A.length : Nat) : Int) - 1)) = ((A.length : Nat) : Int) -> 11 <= M.length -> M.length <= 17 ->
      Sat (Own 96 2 ap M.length ac (pairsV (M.map Kid.pr)) :: E.S s1 (Own 96 2 q.1 f.l.length q.2 (pairsV f.l) :: Way r' wp wc ::
       Row ub [.int .u64 (f.x : Int), .slice q.1 f.l.length q.2, .int .i64 (f.A.length : Nat)] 152 :: Row r (trc b t) 73 :: F)) w' -> k1 ap M.length ac w' := by
     intro y1 y2 A B M ap ac w9 hsib hmx hM6 hM17 h9
     refine hk1 _ _ _ _ ?_
     unfold S_tree_tree_shrunk_j0
     have g := (inS h9).drew
     obtain ⟨ka, kb, hlf⟩ := hsib.lf_eq
     have hg1 : f.l[A.length]? = some (ka, y1) := by rw [hlf]; simp
     have hg2 : f.l[A.length + 1]? = some (kb, y2) := by
      rw [hlf]
      have e : A.map Kid.pr ++ (ka, y1) :: (kb, y2) :: B.map Kid.pr = (A.map Kid.pr ++ [(ka, y1)]) ++ (kb, y2) :: B.map Kid.pr := by simp
      have e2 : (A.map Kid.pr ++ [(ka, y1)]).length = A.length + 1 := by simp
      rw [e, <- e2, List.getElem?_append_right (Nat.le_refl _), Nat.sub_self]; rfl
     have hlfl : f.l.length = A.length + 2 + B.length := by rw [hlf]; simp; omega
     have hM0 : M ≠ [] := fun e => by rw [e] at hM6; simp at hM6
     have hM00 := List.length_pos_iff.2 hM0
     have hin : ∀ z, z ∈ t :: f.x :: y1 :: y2 :: (hsOf A ++ hsOf M ++ hsOf B ++ whs r') -> E.ok s1 z := fun z hz => hst.ok z (hsib.perm.mem_iff.1 hz)
     have hok1 : E.ok s1 y1 := hin _ (by simp)
     have hok2 : E.ok s1 y2 := hin _ (by simp)
     have hokf : E.ok s1 f.x := hin _ (by simp)
     have hokM : ∀ z ∈ hsOf M, E.ok s1 z := fun z hz => hin z (by simp [hz])
     have hpM := kids_ok hsib.kM hokM (fun e he => hes e (by rw [<- hsib.es]; simp [he]))
     have hkey : E.ok s1 f.key := by
      unfold Fr.key
      cases hA : f.A with
      | nil => simp only; rw [z1]; exact hk0
      | cons a A => exact hokB _ (by simp only [whs, List.mem_cons, List.mem_append]; exact .inr (.inl (.inl (mem_hsOf.2 ⟨a, by rw [hA]; simp, ((f2 a (by rw [hA]; simp)).keyOK (by omega)).2.2.1⟩))))
     obtain ⟨ln1, no1, nl1⟩ := hsib.node1
     obtain ⟨ln2, no2, nl2⟩ := hsib.node2
     have hap : M.map Kid.pr ≠ [] -> ∃ a, ap = some a := fun _ => by obtain ⟨g', hg'⟩ := g.own_some 2 rfl hM00; exact ⟨_, hg'⟩
     have hrM : RdP (Own 96 2 ap M.length ac (pairsV (M.map Kid.pr)) :: Own 96 2 q.1 f.l.length q.2 (pairsV f.l) :: Way r' wp wc ::
       Row ub [.int .u64 (f.x : Int), .slice q.1 f.l.length q.2, .int .i64 (f.A.length : Nat)] 152 :: Row r (trc b t) 73 :: F) ap (M.map Kid.pr) := RdP.own (k := 0) rfl (by simp) hap
     have hac : M.length <= ac := by
      obtain ⟨_, ⟨_, q2, q3, _⟩ | ⟨_, _, _, q2, _⟩⟩ := g.own 2 rfl
      ·omega
      ·exact q2
     obtain ⟨c0, M', hMc⟩ := List.exists_cons_of_ne_nil hM0
     have hf0 : (M.map Kid.pr)[0]? = some c0.pr := by rw [hMc]; rfl
     have hfc : c0.pr.1 = firstK M := by rw [hMc]; rfl
     have hfkM := firstK_mem hM0 hsib.kM
     have hAl : A.length < f.l.length := by omega
     by_cases hM12 : M.length <= 12
     ·refine cond_t (by simp; omega) ?_
      refine LdP.of g 6 rfl (off := 0) rfl rfl (LdI.of g 6 rfl (off := 1) rfl (add_mk _ _ _) (LdS.of g 5 rfl (off := 1) rfl (add_mk _ _ _) ?_))
      rw [hmx]
      refine IdxC.ownAt (k := A.length) g 3 rfl hAl fun g' hg' => ?_
      refine LdI.at (n := (y1 : Int)) (Sat.ownAt g 3 rfl hg' (off := A.length * 2 + 1) (pairsV_get1 hg1)) ?_
      refine (write_c g hst.mv.inv t (x := y1) (l := M.map Kid.pr) no1 (nodeW_len nl1) hok1 (by simpa using hM12) hpM (by simp) hrM).mono ?_
      rintro e w2 ⟨s2, rfl, m2, o2, g2⟩
      have o2 : E.ov s2 = updO (E.ov s1) y1 (nodeO (decide (0 < d)) (M.map Kid.pr)) := o2
      refine ⟨rfl, ?_⟩
      have g2d := g2.drew
      refine LdS.of g2d 5 rfl (off := 1) rfl (add_mk _ _ _) ?_
      refine IdxC.ownAt (k := 0) g2d 2 rfl hM00 fun ga hga => ?_
      refine LdI.at (n := (firstK M : Int)) (Sat.ownAt g2d 2 rfl hga (off := 0 * 2) (by rw [<- hfc]; exact pairsV_get0 hf0)) ?_
      refine IdxC.ownAt (k := A.length) g2d 3 rfl hAl fun gb hgb => ?_
      refine StC.ownAt g2d 3 rfl hgb (off := A.length * 2) (v0 := .int .u64 (ka : Int)) (pairsV_get0 hg1) rfl fun w3 g3 => ?_
      simp only [List.set_cons_succ, List.set_cons_zero] at g3
      rw [pairsV_set0 (firstK M) hg1] at g3
      have hsl : f.l.set A.length (firstK M, (ka, y1).2) = (A.map Kid.pr ++ [(firstK M, y1)]) ++ (kb, y2) :: B.map Kid.pr := by
       rw [hlf]
       have e : A.length = (A.map Kid.pr).length := by simp
       rw [e, List.set_append_right _ _ (Nat.le_refl _), Nat.sub_self]
       simp
      rw [hsl] at g3
      generalize hlf2 : (A.map Kid.pr ++ [(firstK M, y1)]) ++ (kb, y2) :: B.map Kid.pr = lf2 at g3
      have hlf2l : lf2.length = f.l.length := by rw [<- hlf2, hlfl]; simp; omega
      refine LdS.of g3 5 rfl (off := 1) rfl (add_mk _ _ _) ?_
      refine (clone_c (l := lf2) g3 (RdP.own (k := 3) rfl hlf2l.symm fun _ => ⟨_, hgb⟩) (by omega) hlf2l.symm).mono ?_
      rintro e w4 ⟨p4, c4, rfl, g4⟩
      refine ⟨_, _, _, rfl, ?_⟩
      refine (delete_c (l := lf2) (i := A.length + 1) g4 (by omega) (by omega) rfl (by rw [wrapI64 (by omega) (by omega)]; omega) (by rw [wrapI64 (by omega) (by omega)]; omega)).mono ?_
      rintro e w5 ⟨p5, rfl, g5⟩
      refine ⟨_, _, _, rfl, ?_⟩
      refine LdI.of g5 6 rfl (off := 0) rfl rfl ?_
      obtain ⟨hgs', hsub⟩ := hsib.merge (by omega) hM12
      rw [<- o2] at hgs'
      have hmk := mkKid_pr (x := y1) hM0 hsib.kM
      have hlist : lf2.take (A.length + 1) ++ lf2.drop (A.length + 1 + 1) = (A ++ mkKid y1 M :: B).map Kid.pr := by
       have e2 : (A.map Kid.pr ++ [(firstK M, y1)]).length = A.length + 1 := by simp
       rw [<- hlf2, <- e2, List.take_left, <- List.drop_drop, List.drop_left, List.map_append, List.map_cons, hmk]
       simp
      have hlen' : lf2.length - 1 = (A ++ mkKid y1 M :: B).length := by rw [hlf2l, hlfl]; simp; omega
      rw [hlist, hlen'] at g5
      rw [hlen']
      have hinv : SInv E s U t n D ES r F 0 wp r'.length wc (f.x : Int) p5 (A ++ mkKid y1 M :: B).length c4 true ⟨ub, 0, none⟩ w5 := by
       refine ⟨r', f.x, A ++ mkKid y1 M :: B, d + 1, f.key, s2, ub, (f.x : Int), q.1, f.l.length, q.2, (f.A.length : Nat), rfl, rfl, rfl, by simp, rfl, hgs', by omega, fun hr => ?_, fun _ => by omega, m2.ok _ hkey, ?_, fun e he => m2.some (hes e he), by simp only [List.length_cons] at hbl; omega, ?_⟩
       ·have : mnOf r' = 6 := by
         cases r' with
         | nil => exact absurd rfl hr
         | cons _ _ => rfl
        omega
       ·have := hst.step (V' := t :: f.x :: (hsOf (A ++ mkKid y1 M :: B) ++ whs r')) m2 (fun z hz _ => ?_) (fun z hz => .inl (hsub z hz)) (fun z hz => m2.ok z (hst.ok z (hsub z hz)))
        ·simpa using this
        ·rw [o2, updO_ne _ _ (fun e => hz (by rw [e]; exact hsib.perm.mem_iff.1 (by simp)))]
       ·exact (((Sat.drop (Sat.pull (Sat.drop (Sat.pull g5 3 rfl)) 3 rfl)).pull 4 rfl).pull 4 rfl).pull 2 rfl
      exact hinv
     ·refine cond_f (by simp; omega) ?_
      have eh : IntKind.wrap .i64 (Int.tdiv ((M.length : Nat) : Int) 2) = ((M.length / 2 : Nat) : Int) := by
       have : Int.tdiv ((M.length : Nat) : Int) 2 = ((M.length / 2 : Nat) : Int) := tdiv_nat M.length 2
       rw [this, wrapI64 (by omega) (by omega)]
      generalize hh : M.length / 2 = hf at eh
      have hh1 : 6 <= hf /\ hf <= 8 /\ hf < M.length := by omega
      have hsp : M.take hf ++ M.drop hf = M := List.take_append_drop hf M
      have ht1 : (M.take hf).length = hf := by simp; omega
      have ht2 : (M.drop hf).length = M.length - hf := by simp
      have hm1 : (M.map Kid.pr).take hf = (M.take hf).map Kid.pr := by rw [List.map_take]
      have hm2 : (M.map Kid.pr).drop hf = (M.drop hf).map Kid.pr := by rw [List.map_drop]
      have hpM1 : ∀ p ∈ (M.take hf).map Kid.pr, (p.1 = 0 ∨ E.ok s1 p.1) /\ (p.2 = 0 ∨ E.ok s1 p.2) := fun p hp => hpM p (by rw [<- hm1] at hp; exact List.mem_of_mem_take hp)
      have hpM2 : ∀ p ∈ (M.drop hf).map Kid.pr, (p.1 = 0 ∨ E.ok s1 p.1) /\ (p.2 = 0 ∨ E.ok s1 p.2) := fun p hp => hpM p (by rw [<- hm2] at hp; exact List.mem_of_mem_drop hp)
      have hn1 : M.take hf ≠ [] := by intro e; rw [e] at ht1; simp at ht1; omega
      have hn2 : M.drop hf ≠ [] := by intro e; rw [e] at ht2; simp at ht2; omega
      have hfk1 : firstK (M.take hf) = firstK M := by
       rw [hMc]
       obtain ⟨h', rfl⟩ : ∃ h', hf = h' + 1 := ⟨hf - 1, by omega⟩
       rfl
      obtain ⟨ch, hch⟩ : ∃ ch, M[hf]? = some ch := ⟨_, List.getElem?_eq_getElem hh1.2.2⟩
      have hkh : ch.pr.1 = firstK (M.drop hf) := by
       have : M.drop hf = ch :: M.drop (hf + 1) := by
        rw [List.getElem?_eq_getElem hh1.2.2] at hch
        simp only [Option.some.injEq] at hch
        rw [List.drop_eq_getElem_cons hh1.2.2, hch]
       rw [this]; rfl
      have hgh : (M.map Kid.pr)[hf]? = some ch.pr := by rw [List.getElem?_map, hch]; rfl
      refine LdP.of g 6 rfl (off := 0) rfl rfl (LdI.of g 6 rfl (off := 1) rfl (add_mk _ _ _) (LdS.of g 5 rfl (off := 1) rfl (add_mk _ _ _) ?_))
      rw [hmx, eh]
      refine IdxC.ownAt (k := A.length) g 3 rfl hAl fun g' hg' => ?_
      refine LdI.at (n := (y1 : Int)) (Sat.ownAt g 3 rfl hg' (off := A.length * 2 + 1) (pairsV_get1 hg1)) ?_
      refine ⟨by decide, ?_⟩
      refine SlC.of 0 hf ac rfl rfl rfl (by omega) (by omega) (Nat.le_refl _) ?_
      rw [slAddr_zero, Nat.sub_zero, Nat.sub_zero]
      refine (write_c g hst.mv.inv t (x := y1) (l := (M.take hf).map Kid.pr) no1 (nodeW_len nl1) hok1 (by rw [List.length_map]; omega) hpM1 (by rw [List.length_map]; exact ht1.symm) (by rw [<- hm1]; exact hrM.take hf)).mono ?_
      rintro e w2 ⟨s2, rfl, m2, o2, g2⟩
      have o2 : E.ov s2 = updO (E.ov s1) y1 (nodeO (decide (0 < d)) ((M.take hf).map Kid.pr)) := o2
      refine ⟨rfl, ?_⟩
      have g2d := g2.drew
      obtain ⟨b1, b2, b3, b4, b5, b6, b7⟩ := hsib.ne
      have ea : IntKind.wrap .i64 (((A.length : Nat) : Int) + 1) = ((A.length + 1 : Nat) : Int) := by rw [wrapI64 (by omega) (by omega)]; omega
      rw [ea]
      refine LdP.of g2d 6 rfl (off := 0) rfl rfl (LdI.of g2d 6 rfl (off := 1) rfl (add_mk _ _ _) (LdS.of g2d 5 rfl (off := 1) rfl (add_mk _ _ _) ?_))
      refine IdxC.ownAt (k := A.length + 1) g2d 3 rfl (by omega) fun gb hgb => ?_
      refine LdI.at (n := (y2 : Int)) (Sat.ownAt g2d 3 rfl hgb (off := (A.length + 1) * 2 + 1) (pairsV_get1 hg2)) ?_
      refine ⟨by decide, ?_⟩
      refine SlC.of hf M.length ac rfl rfl rfl (by omega) hac (Nat.le_refl _) ?_
      refine (write_c g2d m2.inv t (x := y2) (l := (M.drop hf).map Kid.pr) (by rw [o2, updO_ne _ _ (fun e => b6 e.symm)]; exact no2) (nodeW_len nl2) (m2.ok _ hok2) (by rw [List.length_map]; omega) (fun p hp => ⟨m2.some (hpM2 p hp).1, m2.some (hpM2 p hp).2⟩) (by rw [List.length_map]; exact ht2.symm) (by rw [<- hm2]; exact hrM.sub (by omega) (by simp; omega))).mono ?_
      rintro e w3 ⟨s3, rfl, m3, o3, g3⟩
      have o3 : E.ov s3 = updO (updO (E.ov s1) y1 (nodeO (decide (0 < d)) ((M.take hf).map Kid.pr))) y2 (nodeO (decide (0 < d)) ((M.drop hf).map Kid.pr)) := by rw [o3, o2]; rfl
      refine ⟨rfl, ?_⟩
      have g3d := g3.drew
      refine ⟨fun w' => ∃ T, Sat (Own 96 2 ap M.length ac (pairsV (M.map Kid.pr)) :: Row ub [.int .u64 (f.x : Int), .slice q.1 f.l.length q.2, .int .i64 (f.A.length : Nat)] 152 :: T) w', ⟨_, (Sat.pull g3d 5 rfl).pull 3 rfl⟩, ?_⟩
      refine ⟨_, _, _, fun w' ⟨T, h⟩ => LdS.of h 1 rfl (off := 1) rfl (add_mk _ _ _) rfl, ?_⟩
      refine ⟨_, _, _, fun w' ⟨T, h⟩ => LdS.of h 1 rfl (off := 1) rfl (add_mk _ _ _) rfl, ?_⟩
      refine IdxC.ownAt (k := 0) g3d 2 rfl hM00 fun ga hga => ?_
      refine ⟨(firstK M : Int), fun w' ⟨T, h⟩ => LdI.at (Sat.ownAt h 0 rfl hga (off := 0 * 2) (by rw [<- hfc]; exact pairsV_get0 hf0)) rfl, ?_⟩
      refine ⟨by decide, ?_⟩
      refine IdxC.ownAt (k := hf) g3d 2 rfl hh1.2.2 fun gc hgc => ?_
      refine ⟨(firstK (M.drop hf) : Int), fun w' ⟨T, h⟩ => LdI.at (Sat.ownAt h 0 rfl hgc (off := hf * 2) (by rw [<- hkh]; exact pairsV_get0 hgh)) rfl, ?_⟩
      refine IdxC.ownAt (k := A.length) g3d 3 rfl hAl fun gd hgd => ?_
      refine StC.ownAt g3d 3 rfl hgd (off := A.length * 2) (v0 := .int .u64 (ka : Int)) (pairsV_get0 hg1) rfl fun w4 g4 => ?_
      simp only [List.set_cons_succ, List.set_cons_zero] at g4
      rw [pairsV_set0 (firstK M) hg1] at g4
      have hsl : f.l.set A.length (firstK M, (ka, y1).2) = (A.map Kid.pr ++ [(firstK M, y1)]) ++ (kb, y2) :: B.map Kid.pr := by
       rw [hlf]
       have e : A.length = (A.map Kid.pr).length := by simp
       rw [e, List.set_append_right _ _ (Nat.le_refl _), Nat.sub_self]
       simp
      rw [hsl] at g4
      have el2 : (A.map Kid.pr ++ [(firstK M, y1)]).length = A.length + 1 := by simp
      have hg2' : ((A.map Kid.pr ++ [(firstK M, y1)]) ++ (kb, y2) :: B.map Kid.pr)[A.length + 1]? = some (kb, y2) := by
       rw [<- el2, List.getElem?_append_right (Nat.le_refl _), Nat.sub_self]; rfl
      refine ⟨⟨_, (Sat.pull g4 5 rfl).pull 3 rfl⟩, ?_⟩
      refine IdxC.ownAt (k := A.length + 1) g4 3 rfl (by omega) fun ge hge => ?_
      refine StC.ownAt g4 3 rfl hge (off := (A.length + 1) * 2) (v0 := .int .u64 (kb : Int)) (pairsV_get0 hg2') rfl fun w5 g5 => ?_
      simp only [List.set_cons_succ, List.set_cons_zero] at g5
      rw [pairsV_set0 (firstK (M.drop hf)) hg2'] at g5
      rw [<- hsp] at hsib
      obtain ⟨hgs', hperm⟩ := hsib.split (by omega) (by omega)
      rw [<- o3] at hgs'
      have hk1' := mkKid_pr (x := y1) hn1 (fun c hc => hsib.kM c (List.mem_append_left _ hc))
      have hk2' := mkKid_pr (x := y2) hn2 (fun c hc => hsib.kM c (List.mem_append_right _ hc))
      have hsl2 : ((A.map Kid.pr ++ [(firstK M, y1)]) ++ (kb, y2) :: B.map Kid.pr).set (A.length + 1) (firstK (M.drop hf), (kb, y2).2) = (A ++ mkKid y1 (M.take hf) :: mkKid y2 (M.drop hf) :: B).map Kid.pr := by
       rw [<- el2, List.set_append_right _ _ (Nat.le_refl _), Nat.sub_self, List.map_append, List.map_cons, List.map_cons, hk1', hk2', hfk1]
       simp
      rw [hsl2] at g5
      generalize hLf : A ++ mkKid y1 (M.take hf) :: mkKid y2 (M.drop hf) :: B = Lf at g5 hgs' hperm
      have hLfl : Lf.length = f.l.length := by rw [<- hLf, hlfl]; simp; omega
      have hLf0 : Lf ≠ [] := fun e => by rw [e] at hLfl; simp at hLfl; omega
      obtain ⟨lx, nox, nlx⟩ := hgs'.node
      have m13 := m2.trans m3
      have hokV3 : ∀ z, z ∈ t :: f.x :: (hsOf Lf ++ whs r') -> E.ok s3 z := fun z hz => m13.ok z (hst.ok z (hperm.mem_iff.1 hz))
      refine LdP.of g5 6 rfl (off := 0) rfl rfl (LdI.of g5 6 rfl (off := 1) rfl (add_mk _ _ _) (LdI.of g5 5 rfl (off := 0) rfl rfl (LdS.of g5 5 rfl (off := 1) rfl (add_mk _ _ _) ?_)))
      refine (write_c g5 m3.inv t (x := f.x) (l := Lf.map Kid.pr) nox (nodeW_len nlx) (hokV3 _ (by simp)) (by rw [List.length_map]; omega) (kids_ok hgs'.kids (fun z hz => hokV3 z (by simp [hz])) (fun e he => m13.some (hes e (by rw [<- hgs'.es]; simp [he])))) (by rw [List.length_map]; exact hLfl.symm) (RdP.own (k := 1) rfl (by rw [List.length_map]; exact hLfl.symm) fun _ => ⟨_, hge⟩)).mono ?_
      rintro e w6' ⟨s4, rfl, m4, o4, g6'⟩
      have o4 : E.ov s4 = updO (E.ov s3) f.x (nodeO (decide (0 < d + 1)) (Lf.map Kid.pr)) := o4
      refine ⟨rfl, ?_⟩
      have g6d := g6'.drew
      refine LdP.of g6d 6 rfl (off := 0) rfl rfl (LdI.of g6d 6 rfl (off := 1) rfl (add_mk _ _ _) (LdS.of g6d 5 rfl (off := 1) rfl (add_mk _ _ _) ?_))
      refine IdxC.ownAt (k := 0) g6d 3 rfl (by omega) fun gf hgf => ?_
      obtain ⟨cl, Lf', hLc⟩ := List.exists_cons_of_ne_nil hLf0
      have hfl0 : (Lf.map Kid.pr)[0]? = some cl.pr := by rw [hLc]; rfl
      have hflc : cl.pr.1 = firstK Lf := by rw [hLc]; rfl
      refine LdI.at (n := (firstK Lf : Int)) (Sat.ownAt g6d 3 rfl hgf (off := 0 * 2) (by rw [<- hflc]; exact pairsV_get0 hfl0)) ?_
      obtain ⟨n1, n2, n3, n4, n5, n6, n7, n8⟩ := zip_of_nd hgs'.nd
      have hz4 : Zip (E.ov s4) r' (d + 1 + 1) (f.key, f.x) := by rw [o4]; exact hgs'.zip.upd n5
      have m14 := m13.trans m4
      have hw4 : OkW E s4 r' := okw_of hz4 (fun z hz => m4.ok z (hokV3 z (by simp [hz]))) (m14.ok _ hkey) (m4.ok _ (hokV3 _ (by simp)))
      have hf4 : E.ok s4 (firstK Lf) := m4.ok _ (hokV3 _ (by have := firstK_mem hLf0 hgs'.kids; simp [this]))
      have hb4 : r'.length <= 100 := by simp only [List.length_cons] at hbl; omega
      refine (tfirst_c (Sat.pull g6d 4 rfl) m4.inv t hf4 hb4 hw4).mono ?_
      rintro e w7' ⟨s5, rfl, m5, o5, g7'⟩
      have hmn' := f4
      obtain ⟨root, hd⟩ := hgs'.fin hLf0 (fun hr => by
       have : mnOf r' = 6 := by
        cases r' with
        | nil => exact absurd rfl hr
        | cons _ _ => rfl
       omega) (fun _ => by omega) (by omega)
      have hd : Done (E.ov s5) t n (d + 1 + r'.length) ES (t :: f.x :: (hsOf Lf ++ whs r')) root := by rw [o5, o4]; exact hd
      refine ⟨rfl, s5, _, rfl, tree_of_done hd hn hgs'.nd hsr, ?_, (outS (outS (outS (outS g7').drop).drop).drop).drop⟩
      have := hst.step (V' := t :: f.x :: (hsOf Lf ++ whs r')) (m14.trans m5) (fun z hz _ => ?_) (fun z hz => .inl (hperm.mem_iff.1 hz)) (fun z hz => m5.ok z (m4.ok z (hokV3 z hz)))
      ·simpa using this
      ·have hz' : z ∉ t :: f.x :: y1 :: y2 :: (hsOf A ++ hsOf (M.take hf ++ M.drop hf) ++ hsOf B ++ whs r') := fun h => hz (hsib.perm.mem_iff.1 h)
       simp only [List.mem_cons, List.mem_append, not_or] at hz'
       rw [o5, fixO_frame (fun hx => hz'.2.2.2.2.2 (xs_whs hx)), o4, updO_ne _ _ hz'.2.1, o3, updO_ne _ _ hz'.2.2.2.1, updO_ne _ _ hz'.2.2.1]
    obtain ⟨gl, rfl⟩ := h0.own_some 0 rfl (by omega)
    by_cases hA : f.A = []
    ·refine cond_f (by rw [hA]; simp) ?_
     obtain ⟨c, B', hB⟩ : ∃ c B', f.B = c :: B' := List.exists_cons_of_ne_nil fun e => by rw [hA, e] at f4; simp at f4; omega
     obtain ⟨Lc, c1, c2, c3, c4, c5, c6⟩ := f3 c (by rw [hB]; simp)
     have hsib := Sib.ofB hgs hA hB c1 c2 c3 c5 c6
     have hgB : f.l[1]? = some c.pr := by simp [Fr.l, hA, hB]
     have g8d := g8.drew
     refine ⟨fun w' => ∃ T, Sat (Row ub [.int .u64 (f.x : Int), .slice q.1 f.l.length q.2, .int .i64 (f.A.length : Nat)] 152 :: Row r (trc b t) 73 :: Own 96 2 q.1 f.l.length q.2 (pairsV f.l) :: T) w', ⟨_, ((Sat.pull g8d 2 rfl).pull 6 rfl).pull 6 rfl⟩, ?_⟩
     refine ⟨_, _, fun w' ⟨T, h⟩ => trv_ld h 1 rfl, ?_⟩
     refine ⟨_, _, _, fun w' ⟨T, h⟩ => LdS.of h 0 rfl (off := 1) rfl (add_mk _ _ _) rfl, ?_⟩
     refine IdxC.ownAt (k := 1) g8d 2 rfl (by omega) fun ga hga => ?_
     refine ⟨(c.x : Int), fun w' ⟨T, h⟩ => LdI.at (Sat.ownAt h 2 rfl hga (off := 1 * 2 + 1) (pairsV_get1 hgB)) rfl, ?_⟩
     refine (clone_c (l := L.map Kid.pr) g8d (RdP.own (k := 3) rfl (by simp) fun _ => ⟨_, rfl⟩) (by simp; omega) (by simp)).mono ?_
     rintro e w9 ⟨p9, c9, rfl, g9⟩
     refine ⟨_, _, _, rfl, ⟨_, ((Sat.pull g9 3 rfl).pull 7 rfl).pull 7 rfl⟩, ?_⟩
     refine (pairs_c (Sat.p1 g9) t (by simpa using c5) c1).mono ?_
     rintro e w10 ⟨p10, c10, rfl, hc10, g10⟩
     refine ⟨_, _, _, rfl, ⟨_, ((Sat.pull g10 4 rfl).pull 8 rfl).pull 8 rfl⟩, ?_⟩
     obtain ⟨g10b, rfl⟩ := g10.own_some 0 rfl (by rw [List.length_map]; omega)
     refine RunS.own eok_pair g10 2 rfl (news := pairsV (Lc.map Kid.pr)) (g10.reads 0 rfl) (pairsV_len _) (pairsV_one _) (by simp; omega) (by simp only [maxLen, List.length_map]; omega) fun p11 c11 w11 g11 => ?_
     simp only [List.set_cons_succ, List.set_cons_zero] at g11
     have hMl : (L.map Kid.pr).length + (Lc.map Kid.pr).length = (L ++ Lc).length := by simp
     rw [<- pairsV_append, <- List.map_append, hMl] at g11
     rw [hMl]
     refine ⟨⟨_, ((Sat.pull g11 4 rfl).pull 8 rfl).pull 8 rfl⟩, key _ _ _ _ (L ++ Lc) _ _ _ hsib ?_ (by simp; omega) (by simp; omega) ?_⟩
     ·rw [hA]; rfl
     ·exact (Sat.pull (Sat.drop (Sat.pull (Sat.p1 g11.drop) 4 rfl)) 0 rfl)
    ·have hA0 := List.length_pos_iff.2 hA
     refine cond_t (by simp; omega) ?_
     obtain ⟨A', a, hAe⟩ : ∃ A' a, f.A = A' ++ [a] := ⟨f.A.dropLast, f.A.getLast hA, (List.dropLast_concat_getLast hA).symm⟩
     obtain ⟨La, c1, c2, c3, c4, c5, c6⟩ := f2 a (by rw [hAe]; simp)
     have hsib := Sib.ofA hgs hAe c1 c2 c3 c5 c6
     have hmx : iMax 0 (IntKind.wrap .i64 (((f.A.length : Nat) : Int) - 1)) = ((A'.length : Nat) : Int) := by
      rw [wrapI64 (by omega) (by omega), hAe]
      unfold iMax
      simp only [List.length_append, List.length_singleton]
      split <;> omega
     have hgA : f.l[A'.length]? = some a.pr := by
      have e : f.l = A'.map Kid.pr ++ a.pr :: (f.p :: f.B.map Kid.pr) := by simp [Fr.l, hAe]
      have e2 : A'.length = (A'.map Kid.pr).length := by simp
      rw [e, e2, List.getElem?_append_right (Nat.le_refl _), Nat.sub_self]; rfl
     have hA'l : A'.length < f.l.length := get_lt hgA
     have g8d := g8.drew
     refine LdP.of g8d 6 rfl (off := 0) rfl rfl (LdI.of g8d 6 rfl (off := 1) rfl (add_mk _ _ _) (LdS.of g8d 5 rfl (off := 1) rfl (add_mk _ _ _) ?_))
     rw [hmx]
     refine IdxC.ownAt (k := A'.length) g8d 2 rfl hA'l fun ga hga => ?_
     refine LdI.at (n := (a.x : Int)) (Sat.ownAt g8d 2 rfl hga (off := A'.length * 2 + 1) (pairsV_get1 hgA)) ?_
     refine (pairs_c g8d t (by simpa using c5) c1).mono ?_
     rintro e w9 ⟨p9, c9, rfl, hc9, g9⟩
     refine ⟨_, _, _, rfl, ?_⟩
     obtain ⟨g9b, rfl⟩ := g9.own_some 0 rfl (by rw [List.length_map]; omega)
     refine (clone_c (l := La.map Kid.pr) g9 (RdP.own (k := 0) rfl rfl fun _ => ⟨_, rfl⟩) (by simp; omega) rfl).mono ?_
     rintro e w10 ⟨p10, c10, rfl, g10⟩
     refine ⟨_, _, _, rfl, ?_⟩
     refine RunS.own eok_pair g10 0 rfl (news := pairsV (L.map Kid.pr)) (g10.reads 5 rfl) (by rw [pairsV_len]; simp) (pairsV_one _) (by simp; omega) (by simp only [maxLen, List.length_map]; omega) fun p11 c11 w11 g11 => ?_
     simp only [List.set_cons_zero] at g11
     have hMl : (La.map Kid.pr).length + L.length = (La ++ L).length := by simp
     rw [<- pairsV_append, <- List.map_append, hMl] at g11
     rw [hMl]
     refine key _ _ _ _ (La ++ L) _ _ _ hsib hmx (by simp; omega) (by simp; omega) ?_
     exact Sat.pull (Sat.drop (Sat.pull (Sat.drop (Sat.pull g11 1 rfl)) 4 rfl)) 0 rfl
 ·clear hgs hl12 h5 h1 hk0 hok hes h00 h01 hU hB12
  clear L bs xn d k0 wp wc lp lc
  rintro wp wl wc x lp ll lc inner up w1 ⟨bs, xn, L, d, k0, s1, ub, ua, up1, ul, uc', uj, rfl, rfl, rfl, rfl, rfl, hgs, hl12, h5, h1, hk0, hst, hes, hB12, h0⟩
  unfold S_tree_tree_shrunk_g0
  have hG : ∀ {w' : World}, Sat (Own 96 2 lp L.length lc (pairsV (L.map Kid.pr)) :: Way bs wp wc :: Row ub [.int .u64 ua, .slice up1 ul uc', .int .i64 uj] 152 :: E.S s1 (Row r (trc b t) 73 :: F)) w' ->
    Sat (E.S s1 (Own 96 2 lp L.length lc (pairsV (L.map Kid.pr)) :: Way bs wp wc :: Row ub [.int .u64 ua, .slice up1 ul uc', .int .i64 uj] 152 :: Row r (trc b t) 73 :: F)) w' := fun h => (Sat.pull h 4 rfl).pull 4 rfl
  have hlp : L.map Kid.pr ≠ [] -> ∃ a, lp = some a := fun h => by obtain ⟨g, hg⟩ := h0.own_some 0 rfl (List.length_pos_iff.2 fun e => h (by rw [e]; rfl)); exact ⟨_, hg⟩
  have hrd : RdP (Own 96 2 lp L.length lc (pairsV (L.map Kid.pr)) :: Way bs wp wc :: Row ub [.int .u64 ua, .slice up1 ul uc', .int .i64 uj] 152 :: Row r (trc b t) 73 :: F) lp (L.map Kid.pr) := RdP.own (k := 0) rfl (by simp) hlp
  obtain ⟨a1, a2, a3, a4, a5, a6, a7, a8⟩ := zip_of_nd hgs.nd
  obtain ⟨l0, ho0, hl0⟩ := hgs.node
  have hokx : E.ok s1 xn := hst.ok xn (by simp)
  have hokL : ∀ z ∈ hsOf L, E.ok s1 z := fun z hz => hst.ok z (by simp [hz])
  have hokB : ∀ z ∈ whs bs, E.ok s1 z := fun z hz => hst.ok z (by simp [hz])
  have heL : ∀ e ∈ esOf L, e.x = 0 ∨ E.ok s1 e.x := fun e he => hes e (by rw [<- hgs.es]; simp [he])
  have hpok := kids_ok hgs.kids hokL heL
  by_cases hb0 : bs = []
  ·subst hb0
   refine cond_t rfl ?_
   have g1 := hG h0
   refine LdP.of g1 5 rfl (off := 0) rfl rfl (LdI.of g1 5 rfl (off := 1) rfl (add_mk _ _ _) ?_)
   refine (topped_c g1 hst.mv.inv hgs hl12 h1 (St.start hst.mv.inv hst.ok) hD12 hn hn3 hsr hes hrd rfl).mono ?_
   intro e w2 h2
   have h3 := (EndT.after hst h2).drop.drop.drop.drop
   obtain ⟨s', V', rfl, q⟩ := h3
   exact ⟨rfl, s', V', rfl, q⟩
  ·obtain ⟨f, r', rfl⟩ := List.exists_cons_of_ne_nil hb0
   refine cond_f (by simp; omega) ?_
   obtain ⟨z1, ⟨f1, f2, f3, f4, f5⟩, z3, z4⟩ := hgs.zip
   by_cases hl6 : 6 <= L.length
   ·refine cond_t (by simp; omega) ?_
    have hL : L ≠ [] := fun e => by rw [e] at hl6; simp at hl6
    have hL0 := List.length_pos_iff.2 hL
    have hfk := firstK_mem hL hgs.kids
    have g1 := hG h0
    refine LdP.of g1 5 rfl (off := 0) rfl rfl (LdI.of g1 5 rfl (off := 1) rfl (add_mk _ _ _) ?_)
    refine (write_c g1 hst.mv.inv t (x := xn) (l := L.map Kid.pr) ho0 (nodeW_len hl0) hokx (by simpa using hl12) hpok (by simp) hrd).mono ?_
    rintro e w2 ⟨s2, rfl, m2, o2, g2⟩
    have o2 : E.ov s2 = updO (E.ov s1) xn (nodeO (decide (0 < d)) (L.map Kid.pr)) := o2
    refine ⟨rfl, ?_⟩
    have g2d := g2.drew
    refine LdP.of g2d 5 rfl (off := 0) rfl rfl (LdI.of g2d 5 rfl (off := 1) rfl (add_mk _ _ _) ?_)
    refine IdxC.ownAt (k := 0) g2d 2 rfl hL0 fun g hg => ?_
    obtain ⟨c0, L', hLc⟩ := List.exists_cons_of_ne_nil hL
    have hf0 : (L.map Kid.pr)[0]? = some c0.pr := by rw [hLc]; rfl
    have hfc : c0.pr.1 = firstK L := by rw [hLc]; rfl
    refine LdI.at (n := (firstK L : Int)) (Sat.ownAt g2d 2 rfl hg (off := 0 * 2) (by rw [<- hfc]; exact pairsV_get0 hf0)) ?_
    have g3 : Sat (Way (f :: r') wp wc :: E.S s2 (Own 96 2 lp L.length lc (pairsV (L.map Kid.pr)) :: Row ub [.int .u64 ua, .slice up1 ul uc', .int .i64 uj] 152 :: Row r (trc b t) 73 :: F)) w2.drew := Sat.pull g2d 3 rfl
    have hz2 : Zip (E.ov s2) (f :: r') (d + 1) (k0, xn) := by rw [o2]; exact hgs.zip.upd a5
    have hw2 : OkW E s2 (f :: r') := okw_of hz2 (fun z hz => m2.ok z (hokB z hz)) (m2.ok k0 hk0) (m2.ok xn hokx)
    have hf2 : E.ok s2 (firstK L) := m2.ok _ (hokL _ hfk)
    have hb2 : (f :: r').length <= 100 := by omega
    refine (tfirst_c g3 m2.inv t hf2 hb2 hw2).mono ?_
    rintro e w3 ⟨s3, rfl, m3, o3, g4⟩
    obtain ⟨root, hd⟩ := hgs.fin hL (fun _ => hl6) (fun _ => by omega) hl12
    have hd : Done (E.ov s3) t n (d + (f :: r').length) ES (t :: xn :: (hsOf L ++ whs (f :: r'))) root := by rw [o3, o2]; exact hd
    refine ⟨rfl, s3, _, rfl, tree_of_done hd hn hgs.nd hsr, ?_, (outS (outS (outS g4).drop).drop).drop⟩
    have := hst.step (V' := t :: xn :: (hsOf L ++ whs (f :: r'))) (m2.trans m3) (fun z hz _ => ?_) (fun z hz => .inl hz) (fun z hz => m3.ok z (m2.ok z (hst.ok z hz)))
    ·simpa using this
    ·simp only [List.mem_cons, List.mem_append, not_or] at hz
     rw [o3, fixO_frame (fun hx => hz.2.2.2 (xs_whs hx)), o2, updO_ne _ _ hz.2.1]
   ·refine cond_f (by simp; omega) ?_
    have h5 := h5 hb0
    have hL : L ≠ [] := fun e => by rw [e] at h5; simp at h5
    have hfll : f.l.length = f.A.length + 1 + f.B.length := f.l_len
    have hmn2 : 2 <= mnOf r' := by cases r' <;> simp [mnOf]
    obtain ⟨q, qr, hqr, hcap, hstp, g4⟩ := way_top (Sat.pull h0 1 rfl)
    have hbl : (f :: r').length <= 12 := hB12
    have ei : IntKind.wrap .i64 ((((f :: r').length : Nat) : Int) - 1) = ((r'.length : Nat) : Int) := by
     rw [wrapI64 (by omega) (by omega)]
     simp only [List.length_cons]
     omega
    rw [ei]
    refine IdxC.ownAt g4 2 rfl (by simp) fun g hg => ?_
    refine LdI.at (n := (f.x : Int)) (Sat.ownAt g4 2 rfl hg (off := r'.length * 3 + 0) (hstp rfl)) ?_
    refine LdS.at (p := q.1) (l := f.l.length) (c := q.2) (Sat.ownAt g4 2 rfl hg (off := r'.length * 3 + 1) (hstp rfl)) ?_
    refine LdI.at (n := (f.A.length : Nat)) (Sat.ownAt g4 2 rfl hg (off := r'.length * 3 + 2) (hstp rfl)) ?_
    refine StC.of g4 4 rfl (off := 0) rfl rfl fun w4 g5 => StC.of g5 4 rfl (off := 1) rfl (add_mk _ _ _) fun w5 g6 => StC.of g6 4 rfl (off := 2) rfl (add_mk _ _ _) fun w6 g7 => ?_
    have hwc : (f :: r').length <= wc := by
     obtain ⟨_, ⟨_, q2, q3, _⟩ | ⟨_, _, _, q2, _⟩⟩ := g7.own 2 rfl
     ·simp at q2
     ·exact q2
    refine SlC.of 0 r'.length wc rfl rfl rfl (by omega) (by simp at hwc; omega) (Nat.le_refl _) ?_
    rw [slAddr_zero, Nat.sub_zero, Nat.sub_zero]
    have g7 : Sat (Own 96 2 q.1 f.l.length q.2 (pairsV f.l) :: LsH r' qr :: Own 152 3 wp (f :: r').length wc (stepsV (f :: r') (q :: qr)) :: Own 96 2 lp L.length lc (pairsV (L.map Kid.pr)) ::
     Row ub [.int .u64 (f.x : Int), .slice q.1 f.l.length q.2, .int .i64 (f.A.length : Nat)] 152 :: HeapH (E.H s1) v b :: E.rest s1 :: Row r (trc b t) 73 :: F) w6 := g7
    refine LdS.of g7 4 rfl (off := 1) rfl (add_mk _ _ _) ?_
    refine cond_f (by simp; omega) ?_
    refine LdI.of g7 4 rfl (off := 2) rfl (add_mk _ _ _) ?_
    intro k1 hk1
    refine LdI.of g7 4 rfl (off := 2) rfl (add_mk _ _ _) ?_
    have g8 : Sat (E.S s1 (Own 96 2 q.1 f.l.length q.2 (pairsV f.l) :: Own 96 2 lp L.length lc (pairsV (L.map Kid.pr)) :: Way r' wp wc ::
     Row ub [.int .u64 (f.x : Int), .slice q.1 f.l.length q.2, .int .i64 (f.A.length : Nat)] 152 :: Row r (trc b t) 73 :: F)) w6 :=
     ((((((way_pop hqr (Sat.pull (Sat.pull g7 1 rfl) 2 rfl)).pull 3 rfl).pull 1 rfl).pull 3 rfl).pull 3 rfl).pull 5 rfl).pull 5 rfl
    have key : ∀ (y1 y2 : Nat) (A B M : List Kid) (ap : Option Addr) (ac : Nat) (w' : World), Sib (E.ov s1) t n D ES r' f.x f.key y1 y2 A B M d (t :: xn :: (hsOf L ++ whs (f :: r'))) f.l ->
      iMax 0 (IntKind.wrap .i64 (((f.A.length : Nat) : Int) - 1)) = ((A.length : Nat) : Int) -> 11 <= M.length -> M.length <= 17 ->
      Sat (Own 96 2 ap M.length ac (pairsV (M.map Kid.pr)) :: E.S s1 (Own 96 2 q.1 f.l.length q.2 (pairsV f.l) :: Way r' wp wc ::
       Row ub [.int .u64 (f.x : Int), .slice q.1 f.l.length q.2, .int .i64 (f.A.length : Nat)] 152 :: Row r (trc b t) 73 :: F)) w' -> k1 ap M.length ac w' := by
     intro y1 y2 A B M ap ac w9 hsib hmx hM6 hM17 h9
     refine hk1 _ _ _ _ ?_
     unfold S_tree_tree_shrunk_j1
     have g := (inS h9).drew
     obtain ⟨ka, kb, hlf⟩ := hsib.lf_eq
     have hg1 : f.l[A.length]? = some (ka, y1) := by rw [hlf]; simp
     have hg2 : f.l[A.length + 1]? = some (kb, y2) := by
      rw [hlf]
      have e : A.map Kid.pr ++ (ka, y1) :: (kb, y2) :: B.map Kid.pr = (A.map Kid.pr ++ [(ka, y1)]) ++ (kb, y2) :: B.map Kid.pr := by simp
      have e2 : (A.map Kid.pr ++ [(ka, y1)]).length = A.length + 1 := by simp
      rw [e, <- e2, List.getElem?_append_right (Nat.le_refl _), Nat.sub_self]; rfl
     have hlfl : f.l.length = A.length + 2 + B.length := by rw [hlf]; simp; omega
     have hM0 : M ≠ [] := fun e => by rw [e] at hM6; simp at hM6
     have hM00 := List.length_pos_iff.2 hM0
     have hin : ∀ z, z ∈ t :: f.x :: y1 :: y2 :: (hsOf A ++ hsOf M ++ hsOf B ++ whs r') -> E.ok s1 z := fun z hz => hst.ok z (hsib.perm.mem_iff.1 hz)
     have hok1 : E.ok s1 y1 := hin _ (by simp)
     have hok2 : E.ok s1 y2 := hin _ (by simp)
     have hokf : E.ok s1 f.x := hin _ (by simp)
     have hokM : ∀ z ∈ hsOf M, E.ok s1 z := fun z hz => hin z (by simp [hz])
     have hpM := kids_ok hsib.kM hokM (fun e he => hes e (by rw [<- hsib.es]; simp [he]))
     have hkey : E.ok s1 f.key := by
      unfold Fr.key
      cases hA : f.A with
      | nil => simp only; rw [z1]; exact hk0
      | cons a A => exact hokB _ (by simp only [whs, List.mem_cons, List.mem_append]; exact .inr (.inl (.inl (mem_hsOf.2 ⟨a, by rw [hA]; simp, ((f2 a (by rw [hA]; simp)).keyOK (by omega)).2.2.1⟩))))
     obtain ⟨ln1, no1, nl1⟩ := hsib.node1
     obtain ⟨ln2, no2, nl2⟩ := hsib.node2
     have hap : M.map Kid.pr ≠ [] -> ∃ a, ap = some a := fun _ => by obtain ⟨g', hg'⟩ := g.own_some 2 rfl hM00; exact ⟨_, hg'⟩
     have hrM : RdP (Own 96 2 ap M.length ac (pairsV (M.map Kid.pr)) :: Own 96 2 q.1 f.l.length q.2 (pairsV f.l) :: Way r' wp wc ::
       Row ub [.int .u64 (f.x : Int), .slice q.1 f.l.length q.2, .int .i64 (f.A.length : Nat)] 152 :: Row r (trc b t) 73 :: F) ap (M.map Kid.pr) := RdP.own (k := 0) rfl (by simp) hap
     have hac : M.length <= ac := by
      obtain ⟨_, ⟨_, q2, q3, _⟩ | ⟨_, _, _, q2, _⟩⟩ := g.own 2 rfl
      ·omega
      ·exact q2
     obtain ⟨c0, M', hMc⟩ := List.exists_cons_of_ne_nil hM0
     have hf0 : (M.map Kid.pr)[0]? = some c0.pr := by rw [hMc]; rfl
     have hfc : c0.pr.1 = firstK M := by rw [hMc]; rfl
     have hfkM := firstK_mem hM0 hsib.kM
     have hAl : A.length < f.l.length := by omega
     by_cases hM12 : M.length <= 12
     ·refine cond_t (by simp; omega) ?_
      refine LdP.of g 6 rfl (off := 0) rfl rfl (LdI.of g 6 rfl (off := 1) rfl (add_mk _ _ _) (LdS.of g 5 rfl (off := 1) rfl (add_mk _ _ _) ?_))
      rw [hmx]
      refine IdxC.ownAt (k := A.length) g 3 rfl hAl fun g' hg' => ?_
      refine LdI.at (n := (y1 : Int)) (Sat.ownAt g 3 rfl hg' (off := A.length * 2 + 1) (pairsV_get1 hg1)) ?_
      refine (write_c g hst.mv.inv t (x := y1) (l := M.map Kid.pr) no1 (nodeW_len nl1) hok1 (by simpa using hM12) hpM (by simp) hrM).mono ?_
      rintro e w2 ⟨s2, rfl, m2, o2, g2⟩
      have o2 : E.ov s2 = updO (E.ov s1) y1 (nodeO (decide (0 < d)) (M.map Kid.pr)) := o2
      refine ⟨rfl, ?_⟩
      have g2d := g2.drew
      refine LdS.of g2d 5 rfl (off := 1) rfl (add_mk _ _ _) ?_
      refine IdxC.ownAt (k := 0) g2d 2 rfl hM00 fun ga hga => ?_
      refine LdI.at (n := (firstK M : Int)) (Sat.ownAt g2d 2 rfl hga (off := 0 * 2) (by rw [<- hfc]; exact pairsV_get0 hf0)) ?_
      refine IdxC.ownAt (k := A.length) g2d 3 rfl hAl fun gb hgb => ?_
      refine StC.ownAt g2d 3 rfl hgb (off := A.length * 2) (v0 := .int .u64 (ka : Int)) (pairsV_get0 hg1) rfl fun w3 g3 => ?_
      simp only [List.set_cons_succ, List.set_cons_zero] at g3
      rw [pairsV_set0 (firstK M) hg1] at g3
      have hsl : f.l.set A.length (firstK M, (ka, y1).2) = (A.map Kid.pr ++ [(firstK M, y1)]) ++ (kb, y2) :: B.map Kid.pr := by
       rw [hlf]
       have e : A.length = (A.map Kid.pr).length := by simp
       rw [e, List.set_append_right _ _ (Nat.le_refl _), Nat.sub_self]
       simp
      rw [hsl] at g3
      generalize hlf2 : (A.map Kid.pr ++ [(firstK M, y1)]) ++ (kb, y2) :: B.map Kid.pr = lf2 at g3
      have hlf2l : lf2.length = f.l.length := by rw [<- hlf2, hlfl]; simp; omega
      refine LdS.of g3 5 rfl (off := 1) rfl (add_mk _ _ _) ?_
      refine (clone_c (l := lf2) g3 (RdP.own (k := 3) rfl hlf2l.symm fun _ => ⟨_, hgb⟩) (by omega) hlf2l.symm).mono ?_
      rintro e w4 ⟨p4, c4, rfl, g4⟩
      refine ⟨_, _, _, rfl, ?_⟩
      refine (delete_c (l := lf2) (i := A.length + 1) g4 (by omega) (by omega) rfl (by rw [wrapI64 (by omega) (by omega)]; omega) (by rw [wrapI64 (by omega) (by omega)]; omega)).mono ?_
      rintro e w5 ⟨p5, rfl, g5⟩
      refine ⟨_, _, _, rfl, ?_⟩
      refine LdI.of g5 6 rfl (off := 0) rfl rfl ?_
      obtain ⟨hgs', hsub⟩ := hsib.merge (by omega) hM12
      rw [<- o2] at hgs'
      have hmk := mkKid_pr (x := y1) hM0 hsib.kM
      have hlist : lf2.take (A.length + 1) ++ lf2.drop (A.length + 1 + 1) = (A ++ mkKid y1 M :: B).map Kid.pr := by
       have e2 : (A.map Kid.pr ++ [(firstK M, y1)]).length = A.length + 1 := by simp
       rw [<- hlf2, <- e2, List.take_left, <- List.drop_drop, List.drop_left, List.map_append, List.map_cons, hmk]
       simp
      have hlen' : lf2.length - 1 = (A ++ mkKid y1 M :: B).length := by rw [hlf2l, hlfl]; simp; omega
      rw [hlist, hlen'] at g5
      rw [hlen']
      have hinv : SInv E s U t n D ES r F 0 wp r'.length wc (f.x : Int) p5 (A ++ mkKid y1 M :: B).length c4 true ⟨ub, 0, none⟩ w5 := by
       refine ⟨r', f.x, A ++ mkKid y1 M :: B, d + 1, f.key, s2, ub, (f.x : Int), q.1, f.l.length, q.2, (f.A.length : Nat), rfl, rfl, rfl, by simp, rfl, hgs', by omega, fun hr => ?_, fun _ => by omega, m2.ok _ hkey, ?_, fun e he => m2.some (hes e he), by simp only [List.length_cons] at hbl; omega, ?_⟩
       ·have : mnOf r' = 6 := by
         cases r' with
         | nil => exact absurd rfl hr
         | cons _ _ => rfl
        omega
       ·have := hst.step (V' := t :: f.x :: (hsOf (A ++ mkKid y1 M :: B) ++ whs r')) m2 (fun z hz _ => ?_) (fun z hz => .inl (hsub z hz)) (fun z hz => m2.ok z (hst.ok z (hsub z hz)))
        ·simpa using this
        ·rw [o2, updO_ne _ _ (fun e => hz (by rw [e]; exact hsib.perm.mem_iff.1 (by simp)))]
       ·exact (((Sat.drop (Sat.pull (Sat.drop (Sat.pull g5 3 rfl)) 3 rfl)).pull 4 rfl).pull 4 rfl).pull 2 rfl
      exact ⟨hinv, by simp⟩
     ·refine cond_f (by simp; omega) ?_
      have eh : IntKind.wrap .i64 (Int.tdiv ((M.length : Nat) : Int) 2) = ((M.length / 2 : Nat) : Int) := by
       have : Int.tdiv ((M.length : Nat) : Int) 2 = ((M.length / 2 : Nat) : Int) := tdiv_nat M.length 2
       rw [this, wrapI64 (by omega) (by omega)]
      generalize hh : M.length / 2 = hf at eh
      have hh1 : 6 <= hf /\ hf <= 8 /\ hf < M.length := by omega
      have hsp : M.take hf ++ M.drop hf = M := List.take_append_drop hf M
      have ht1 : (M.take hf).length = hf := by simp; omega
      have ht2 : (M.drop hf).length = M.length - hf := by simp
      have hm1 : (M.map Kid.pr).take hf = (M.take hf).map Kid.pr := by rw [List.map_take]
      have hm2 : (M.map Kid.pr).drop hf = (M.drop hf).map Kid.pr := by rw [List.map_drop]
      have hpM1 : ∀ p ∈ (M.take hf).map Kid.pr, (p.1 = 0 ∨ E.ok s1 p.1) /\ (p.2 = 0 ∨ E.ok s1 p.2) := fun p hp => hpM p (by rw [<- hm1] at hp; exact List.mem_of_mem_take hp)
      have hpM2 : ∀ p ∈ (M.drop hf).map Kid.pr, (p.1 = 0 ∨ E.ok s1 p.1) /\ (p.2 = 0 ∨ E.ok s1 p.2) := fun p hp => hpM p (by rw [<- hm2] at hp; exact List.mem_of_mem_drop hp)
      have hn1 : M.take hf ≠ [] := by intro e; rw [e] at ht1; simp at ht1; omega
      have hn2 : M.drop hf ≠ [] := by intro e; rw [e] at ht2; simp at ht2; omega
      have hfk1 : firstK (M.take hf) = firstK M := by
       rw [hMc]
       obtain ⟨h', rfl⟩ : ∃ h', hf = h' + 1 := ⟨hf - 1, by omega⟩
       rfl
      obtain ⟨ch, hch⟩ : ∃ ch, M[hf]? = some ch := ⟨_, List.getElem?_eq_getElem hh1.2.2⟩
      have hkh : ch.pr.1 = firstK (M.drop hf) := by
       have : M.drop hf = ch :: M.drop (hf + 1) := by
        rw [List.getElem?_eq_getElem hh1.2.2] at hch
        simp only [Option.some.injEq] at hch
        rw [List.drop_eq_getElem_cons hh1.2.2, hch]
       rw [this]; rfl
      have hgh : (M.map Kid.pr)[hf]? = some ch.pr := by rw [List.getElem?_map, hch]; rfl
      refine LdP.of g 6 rfl (off := 0) rfl rfl (LdI.of g 6 rfl (off := 1) rfl (add_mk _ _ _) (LdS.of g 5 rfl (off := 1) rfl (add_mk _ _ _) ?_))
      rw [hmx, eh]
      refine IdxC.ownAt (k := A.length) g 3 rfl hAl fun g' hg' => ?_
      refine LdI.at (n := (y1 : Int)) (Sat.ownAt g 3 rfl hg' (off := A.length * 2 + 1) (pairsV_get1 hg1)) ?_
      refine ⟨by decide, ?_⟩
      refine SlC.of 0 hf ac rfl rfl rfl (by omega) (by omega) (Nat.le_refl _) ?_
      rw [slAddr_zero, Nat.sub_zero, Nat.sub_zero]
      refine (write_c g hst.mv.inv t (x := y1) (l := (M.take hf).map Kid.pr) no1 (nodeW_len nl1) hok1 (by rw [List.length_map]; omega) hpM1 (by rw [List.length_map]; exact ht1.symm) (by rw [<- hm1]; exact hrM.take hf)).mono ?_
      rintro e w2 ⟨s2, rfl, m2, o2, g2⟩
      have o2 : E.ov s2 = updO (E.ov s1) y1 (nodeO (decide (0 < d)) ((M.take hf).map Kid.pr)) := o2
      refine ⟨rfl, ?_⟩
      have g2d := g2.drew
      obtain ⟨b1, b2, b3, b4, b5, b6, b7⟩ := hsib.ne
      have ea : IntKind.wrap .i64 (((A.length : Nat) : Int) + 1) = ((A.length + 1 : Nat) : Int) := by rw [wrapI64 (by omega) (by omega)]; omega
      rw [ea]
      refine LdP.of g2d 6 rfl (off := 0) rfl rfl (LdI.of g2d 6 rfl (off := 1) rfl (add_mk _ _ _) (LdS.of g2d 5 rfl (off := 1) rfl (add_mk _ _ _) ?_))
      refine IdxC.ownAt (k := A.length + 1) g2d 3 rfl (by omega) fun gb hgb => ?_
      refine LdI.at (n := (y2 : Int)) (Sat.ownAt g2d 3 rfl hgb (off := (A.length + 1) * 2 + 1) (pairsV_get1 hg2)) ?_
      refine ⟨by decide, ?_⟩
      refine SlC.of hf M.length ac rfl rfl rfl (by omega) hac (Nat.le_refl _) ?_
      refine (write_c g2d m2.inv t (x := y2) (l := (M.drop hf).map Kid.pr) (by rw [o2, updO_ne _ _ (fun e => b6 e.symm)]; exact no2) (nodeW_len nl2) (m2.ok _ hok2) (by rw [List.length_map]; omega) (fun p hp => ⟨m2.some (hpM2 p hp).1, m2.some (hpM2 p hp).2⟩) (by rw [List.length_map]; exact ht2.symm) (by rw [<- hm2]; exact hrM.sub (by omega) (by simp; omega))).mono ?_
      rintro e w3 ⟨s3, rfl, m3, o3, g3⟩
      have o3 : E.ov s3 = updO (updO (E.ov s1) y1 (nodeO (decide (0 < d)) ((M.take hf).map Kid.pr))) y2 (nodeO (decide (0 < d)) ((M.drop hf).map Kid.pr)) := by rw [o3, o2]; rfl
      refine ⟨rfl, ?_⟩
      have g3d := g3.drew
      refine ⟨fun w' => ∃ T, Sat (Own 96 2 ap M.length ac (pairsV (M.map Kid.pr)) :: Row ub [.int .u64 (f.x : Int), .slice q.1 f.l.length q.2, .int .i64 (f.A.length : Nat)] 152 :: T) w', ⟨_, (Sat.pull g3d 5 rfl).pull 3 rfl⟩, ?_⟩
      refine ⟨_, _, _, fun w' ⟨T, h⟩ => LdS.of h 1 rfl (off := 1) rfl (add_mk _ _ _) rfl, ?_⟩
      refine ⟨_, _, _, fun w' ⟨T, h⟩ => LdS.of h 1 rfl (off := 1) rfl (add_mk _ _ _) rfl, ?_⟩
      refine IdxC.ownAt (k := 0) g3d 2 rfl hM00 fun ga hga => ?_
      refine ⟨(firstK M : Int), fun w' ⟨T, h⟩ => LdI.at (Sat.ownAt h 0 rfl hga (off := 0 * 2) (by rw [<- hfc]; exact pairsV_get0 hf0)) rfl, ?_⟩
      refine ⟨by decide, ?_⟩
      refine IdxC.ownAt (k := hf) g3d 2 rfl hh1.2.2 fun gc hgc => ?_
      refine ⟨(firstK (M.drop hf) : Int), fun w' ⟨T, h⟩ => LdI.at (Sat.ownAt h 0 rfl hgc (off := hf * 2) (by rw [<- hkh]; exact pairsV_get0 hgh)) rfl, ?_⟩
      refine IdxC.ownAt (k := A.length) g3d 3 rfl hAl fun gd hgd => ?_
      refine StC.ownAt g3d 3 rfl hgd (off := A.length * 2) (v0 := .int .u64 (ka : Int)) (pairsV_get0 hg1) rfl fun w4 g4 => ?_
      simp only [List.set_cons_succ, List.set_cons_zero] at g4
      rw [pairsV_set0 (firstK M) hg1] at g4
      have hsl : f.l.set A.length (firstK M, (ka, y1).2) = (A.map Kid.pr ++ [(firstK M, y1)]) ++ (kb, y2) :: B.map Kid.pr := by
       rw [hlf]
       have e : A.length = (A.map Kid.pr).length := by simp
       rw [e, List.set_append_right _ _ (Nat.le_refl _), Nat.sub_self]
       simp
      rw [hsl] at g4
      have el2 : (A.map Kid.pr ++ [(firstK M, y1)]).length = A.length + 1 := by simp
      have hg2' : ((A.map Kid.pr ++ [(firstK M, y1)]) ++ (kb, y2) :: B.map Kid.pr)[A.length + 1]? = some (kb, y2) := by
       rw [<- el2, List.getElem?_append_right (Nat.le_refl _), Nat.sub_self]; rfl
      refine ⟨⟨_, (Sat.pull g4 5 rfl).pull 3 rfl⟩, ?_⟩
      refine IdxC.ownAt (k := A.length + 1) g4 3 rfl (by omega) fun ge hge => ?_
      refine StC.ownAt g4 3 rfl hge (off := (A.length + 1) * 2) (v0 := .int .u64 (kb : Int)) (pairsV_get0 hg2') rfl fun w5 g5 => ?_
      simp only [List.set_cons_succ, List.set_cons_zero] at g5
      rw [pairsV_set0 (firstK (M.drop hf)) hg2'] at g5
      rw [<- hsp] at hsib
      obtain ⟨hgs', hperm⟩ := hsib.split (by omega) (by omega)
      rw [<- o3] at hgs'
      have hk1' := mkKid_pr (x := y1) hn1 (fun c hc => hsib.kM c (List.mem_append_left _ hc))
      have hk2' := mkKid_pr (x := y2) hn2 (fun c hc => hsib.kM c (List.mem_append_right _ hc))
      have hsl2 : ((A.map Kid.pr ++ [(firstK M, y1)]) ++ (kb, y2) :: B.map Kid.pr).set (A.length + 1) (firstK (M.drop hf), (kb, y2).2) = (A ++ mkKid y1 (M.take hf) :: mkKid y2 (M.drop hf) :: B).map Kid.pr := by
       rw [<- el2, List.set_append_right _ _ (Nat.le_refl _), Nat.sub_self, List.map_append, List.map_cons, List.map_cons, hk1', hk2', hfk1]
       simp
      rw [hsl2] at g5
      generalize hLf : A ++ mkKid y1 (M.take hf) :: mkKid y2 (M.drop hf) :: B = Lf at g5 hgs' hperm
      have hLfl : Lf.length = f.l.length := by rw [<- hLf, hlfl]; simp; omega
      have hLf0 : Lf ≠ [] := fun e => by rw [e] at hLfl; simp at hLfl; omega
      obtain ⟨lx, nox, nlx⟩ := hgs'.node
      have m13 := m2.trans m3
      have hokV3 : ∀ z, z ∈ t :: f.x :: (hsOf Lf ++ whs r') -> E.ok s3 z := fun z hz => m13.ok z (hst.ok z (hperm.mem_iff.1 hz))
      refine LdP.of g5 6 rfl (off := 0) rfl rfl (LdI.of g5 6 rfl (off := 1) rfl (add_mk _ _ _) (LdI.of g5 5 rfl (off := 0) rfl rfl (LdS.of g5 5 rfl (off := 1) rfl (add_mk _ _ _) ?_)))
      refine (write_c g5 m3.inv t (x := f.x) (l := Lf.map Kid.pr) nox (nodeW_len nlx) (hokV3 _ (by simp)) (by rw [List.length_map]; omega) (kids_ok hgs'.kids (fun z hz => hokV3 z (by simp [hz])) (fun e he => m13.some (hes e (by rw [<- hgs'.es]; simp [he])))) (by rw [List.length_map]; exact hLfl.symm) (RdP.own (k := 1) rfl (by rw [List.length_map]; exact hLfl.symm) fun _ => ⟨_, hge⟩)).mono ?_
      rintro e w6' ⟨s4, rfl, m4, o4, g6'⟩
      have o4 : E.ov s4 = updO (E.ov s3) f.x (nodeO (decide (0 < d + 1)) (Lf.map Kid.pr)) := o4
      refine ⟨rfl, ?_⟩
      have g6d := g6'.drew
      refine LdP.of g6d 6 rfl (off := 0) rfl rfl (LdI.of g6d 6 rfl (off := 1) rfl (add_mk _ _ _) (LdS.of g6d 5 rfl (off := 1) rfl (add_mk _ _ _) ?_))
      refine IdxC.ownAt (k := 0) g6d 3 rfl (by omega) fun gf hgf => ?_
      obtain ⟨cl, Lf', hLc⟩ := List.exists_cons_of_ne_nil hLf0
      have hfl0 : (Lf.map Kid.pr)[0]? = some cl.pr := by rw [hLc]; rfl
      have hflc : cl.pr.1 = firstK Lf := by rw [hLc]; rfl
      refine LdI.at (n := (firstK Lf : Int)) (Sat.ownAt g6d 3 rfl hgf (off := 0 * 2) (by rw [<- hflc]; exact pairsV_get0 hfl0)) ?_
      obtain ⟨n1, n2, n3, n4, n5, n6, n7, n8⟩ := zip_of_nd hgs'.nd
      have hz4 : Zip (E.ov s4) r' (d + 1 + 1) (f.key, f.x) := by rw [o4]; exact hgs'.zip.upd n5
      have m14 := m13.trans m4
      have hw4 : OkW E s4 r' := okw_of hz4 (fun z hz => m4.ok z (hokV3 z (by simp [hz]))) (m14.ok _ hkey) (m4.ok _ (hokV3 _ (by simp)))
      have hf4 : E.ok s4 (firstK Lf) := m4.ok _ (hokV3 _ (by have := firstK_mem hLf0 hgs'.kids; simp [this]))
      have hb4 : r'.length <= 100 := by simp only [List.length_cons] at hbl; omega
      refine (tfirst_c (Sat.pull g6d 4 rfl) m4.inv t hf4 hb4 hw4).mono ?_
      rintro e w7' ⟨s5, rfl, m5, o5, g7'⟩
      have hmn' := f4
      obtain ⟨root, hd⟩ := hgs'.fin hLf0 (fun hr => by
       have : mnOf r' = 6 := by
        cases r' with
        | nil => exact absurd rfl hr
        | cons _ _ => rfl
       omega) (fun _ => by omega) (by omega)
      have hd : Done (E.ov s5) t n (d + 1 + r'.length) ES (t :: f.x :: (hsOf Lf ++ whs r')) root := by rw [o5, o4]; exact hd
      refine ⟨rfl, s5, _, rfl, tree_of_done hd hn hgs'.nd hsr, ?_, (outS (outS (outS (outS g7').drop).drop).drop).drop⟩
      have := hst.step (V' := t :: f.x :: (hsOf Lf ++ whs r')) (m14.trans m5) (fun z hz _ => ?_) (fun z hz => .inl (hperm.mem_iff.1 hz)) (fun z hz => m5.ok z (m4.ok z (hokV3 z hz)))
      ·simpa using this
      ·have hz' : z ∉ t :: f.x :: y1 :: y2 :: (hsOf A ++ hsOf (M.take hf ++ M.drop hf) ++ hsOf B ++ whs r') := fun h => hz (hsib.perm.mem_iff.1 h)
       simp only [List.mem_cons, List.mem_append, not_or] at hz'
       rw [o5, fixO_frame (fun hx => hz'.2.2.2.2.2 (xs_whs hx)), o4, updO_ne _ _ hz'.2.1, o3, updO_ne _ _ hz'.2.2.2.1, updO_ne _ _ hz'.2.2.1]
    obtain ⟨gl, rfl⟩ := h0.own_some 0 rfl (by omega)
    by_cases hA : f.A = []
    ·refine cond_f (by rw [hA]; simp) ?_
     obtain ⟨c, B', hB⟩ : ∃ c B', f.B = c :: B' := List.exists_cons_of_ne_nil fun e => by rw [hA, e] at f4; simp at f4; omega
     obtain ⟨Lc, c1, c2, c3, c4, c5, c6⟩ := f3 c (by rw [hB]; simp)
     have hsib := Sib.ofB hgs hA hB c1 c2 c3 c5 c6
     have hgB : f.l[1]? = some c.pr := by simp [Fr.l, hA, hB]
     have g8d := g8.drew
     refine ⟨fun w' => ∃ T, Sat (Row ub [.int .u64 (f.x : Int), .slice q.1 f.l.length q.2, .int .i64 (f.A.length : Nat)] 152 :: Row r (trc b t) 73 :: Own 96 2 q.1 f.l.length q.2 (pairsV f.l) :: T) w', ⟨_, ((Sat.pull g8d 2 rfl).pull 6 rfl).pull 6 rfl⟩, ?_⟩
     refine ⟨_, _, fun w' ⟨T, h⟩ => trv_ld h 1 rfl, ?_⟩
     refine ⟨_, _, _, fun w' ⟨T, h⟩ => LdS.of h 0 rfl (off := 1) rfl (add_mk _ _ _) rfl, ?_⟩
     refine IdxC.ownAt (k := 1) g8d 2 rfl (by omega) fun ga hga => ?_
     refine ⟨(c.x : Int), fun w' ⟨T, h⟩ => LdI.at (Sat.ownAt h 2 rfl hga (off := 1 * 2 + 1) (pairsV_get1 hgB)) rfl, ?_⟩
     refine (clone_c (l := L.map Kid.pr) g8d (RdP.own (k := 3) rfl (by simp) fun _ => ⟨_, rfl⟩) (by simp; omega) (by simp)).mono ?_
     rintro e w9 ⟨p9, c9, rfl, g9⟩
     refine ⟨_, _, _, rfl, ⟨_, ((Sat.pull g9 3 rfl).pull 7 rfl).pull 7 rfl⟩, ?_⟩
     refine (pairs_c (Sat.p1 g9) t (by simpa using c5) c1).mono ?_
     rintro e w10 ⟨p10, c10, rfl, hc10, g10⟩
     refine ⟨_, _, _, rfl, ⟨_, ((Sat.pull g10 4 rfl).pull 8 rfl).pull 8 rfl⟩, ?_⟩
     obtain ⟨g10b, rfl⟩ := g10.own_some 0 rfl (by rw [List.length_map]; omega)
     refine RunS.own eok_pair g10 2 rfl (news := pairsV (Lc.map Kid.pr)) (g10.reads 0 rfl) (pairsV_len _) (pairsV_one _) (by simp; omega) (by simp only [maxLen, List.length_map]; omega) fun p11 c11 w11 g11 => ?_
     simp only [List.set_cons_succ, List.set_cons_zero] at g11
     have hMl : (L.map Kid.pr).length + (Lc.map Kid.pr).length = (L ++ Lc).length := by simp
     rw [<- pairsV_append, <- List.map_append, hMl] at g11
     rw [hMl]
     refine ⟨⟨_, ((Sat.pull g11 4 rfl).pull 8 rfl).pull 8 rfl⟩, key _ _ _ _ (L ++ Lc) _ _ _ hsib ?_ (by simp; omega) (by simp; omega) ?_⟩
     ·rw [hA]; rfl
     ·exact (Sat.pull (Sat.drop (Sat.pull (Sat.p1 g11.drop) 4 rfl)) 0 rfl)
    ·have hA0 := List.length_pos_iff.2 hA
     refine cond_t (by simp; omega) ?_
     obtain ⟨A', a, hAe⟩ : ∃ A' a, f.A = A' ++ [a] := ⟨f.A.dropLast, f.A.getLast hA, (List.dropLast_concat_getLast hA).symm⟩
     obtain ⟨La, c1, c2, c3, c4, c5, c6⟩ := f2 a (by rw [hAe]; simp)
     have hsib := Sib.ofA hgs hAe c1 c2 c3 c5 c6
     have hmx : iMax 0 (IntKind.wrap .i64 (((f.A.length : Nat) : Int) - 1)) = ((A'.length : Nat) : Int) := by
      rw [wrapI64 (by omega) (by omega), hAe]
      unfold iMax
      simp only [List.length_append, List.length_singleton]
      split <;> omega
     have hgA : f.l[A'.length]? = some a.pr := by
      have e : f.l = A'.map Kid.pr ++ a.pr :: (f.p :: f.B.map Kid.pr) := by simp [Fr.l, hAe]
      have e2 : A'.length = (A'.map Kid.pr).length := by simp
      rw [e, e2, List.getElem?_append_right (Nat.le_refl _), Nat.sub_self]; rfl
     have hA'l : A'.length < f.l.length := get_lt hgA
     have g8d := g8.drew
     refine LdP.of g8d 6 rfl (off := 0) rfl rfl (LdI.of g8d 6 rfl (off := 1) rfl (add_mk _ _ _) (LdS.of g8d 5 rfl (off := 1) rfl (add_mk _ _ _) ?_))
     rw [hmx]
     refine IdxC.ownAt (k := A'.length) g8d 2 rfl hA'l fun ga hga => ?_
     refine LdI.at (n := (a.x : Int)) (Sat.ownAt g8d 2 rfl hga (off := A'.length * 2 + 1) (pairsV_get1 hgA)) ?_
     refine (pairs_c g8d t (by simpa using c5) c1).mono ?_
     rintro e w9 ⟨p9, c9, rfl, hc9, g9⟩
     refine ⟨_, _, _, rfl, ?_⟩
     obtain ⟨g9b, rfl⟩ := g9.own_some 0 rfl (by rw [List.length_map]; omega)
     refine (clone_c (l := La.map Kid.pr) g9 (RdP.own (k := 0) rfl rfl fun _ => ⟨_, rfl⟩) (by simp; omega) rfl).mono ?_
     rintro e w10 ⟨p10, c10, rfl, g10⟩
     refine ⟨_, _, _, rfl, ?_⟩
     refine RunS.own eok_pair g10 0 rfl (news := pairsV (L.map Kid.pr)) (g10.reads 5 rfl) (by rw [pairsV_len]; simp) (pairsV_one _) (by simp; omega) (by simp only [maxLen, List.length_map]; omega) fun p11 c11 w11 g11 => ?_
     simp only [List.set_cons_zero] at g11
     have hMl : (La.map Kid.pr).length + L.length = (La ++ L).length := by simp
     rw [<- pairsV_append, <- List.map_append, hMl] at g11
     rw [hMl]
     refine key _ _ _ _ (La ++ L) _ _ _ hsib hmx (by simp; omega) (by simp; omega) ?_
     exact Sat.pull (Sat.drop (Sat.pull (Sat.drop (Sat.pull g11 1 rfl)) 4 rfl)) 0 rfl
end
end Go.Proofs.YtpicofkhioalkaaGreat
