
/- What put comes to. -/
import Derived.Test.YtpicofkhioalkaaGreatTg
import Derived.Test.YtpicofkhioalkaaGreatTd
set_option maxRecDepth 100000
namespace Go.Proofs.YtpicofkhioalkaaGreat
open Go Go.Lw Go.Wd Go.Am Go.Tb Go.Hm Go.Kd Go.Td
section
variable {v : Value} {b : Nat} {E : Eng v b} {s : E.σ} {F : List HP} {w : World}
theorem St.trans {s0 s1 s2 : E.σ} {U V V1 V2 : List Nat} {k m k' m' : Nat} (h : St E s0 U s1 V k m) (g : St E s1 V1 s2 V2 k' m') (hv : ∀ z, z ∈ V1 -> z ∈ V) : St E s0 U s2 V2 (k + k') (m + m') := by
 refine ⟨h.mv.trans g.mv, fun z hz hu => ?_, fun z hz => ?_, g.ok⟩
 ·have h1 := h.frame z hz hu
  have h2 : z ∉ V1 := fun hv1 => by
   rcases h.new z (hv z hv1) with h3 | h3
   ·exact hu h3
   ·rw [h3] at hz; cases hz
  rw [g.frame z (by rw [h1]; exact hz) h2, h1]
 ·rcases g.new z hz with h1 | h1
  ·exact h.new z (hv z h1)
  ·right
   cases h2 : E.ov s0 z with
   | none => rfl
   | some o => have := h.mv.alive z (by rw [h2]; rfl); rw [h1] at this; cases this
structure TrS (E : Eng v b) (s : E.σ) (t : Nat) (es : List Ent) (hs : List Nat) : Prop where
 tree : Tree (E.ov s) t es hs
 ok : ∀ z ∈ hs, E.ok s z
 refs : ∀ e ∈ es, e.x = 0 ∨ E.ok s e.x
def Deep (ov : Lk) (t D : Nat) : Prop := ∃ x n, ov t = some (treeO x n D)
theorem down0_c {H : Hp} {F : List HP} (hs : Sat (HeapH H v b :: F) w) {t n d : Nat} (ho : H.ov t = some (treeO 0 n d)) (f : Nat) (cs : Array Value) :
  Calls Tryz.prog 53 #[trv b t, .func (.func f) #[] cs] w (Ret (.tuple #[.slice none 0 0, .int .u64 0, .slice none 0 0]) (Sat (HeapH H v b :: F))) := by
 refine S_tree_tree_down_ok _ _ _ _ _ _ ?_
 unfold S_tree_tree_down
 refine NewC.ofRow hs fun r w1 h1 => ?_
 refine LdP.of h1 0 rfl (off := 0) rfl rfl (LdI.of h1 0 rfl (off := 1) rfl (add_mk _ _ _) ?_)
 refine (ttop_c (h1.pull 1 rfl) ho).mono ?_
 rintro e w2 ⟨rfl, h2⟩
 exact ⟨_, rfl, cond_t rfl ⟨rfl, (Sat.p1 h2).drop⟩⟩
theorem ok_ne {s : E.σ} (hi : E.inv s) (hm : (E.H s).WF) {y : Nat} (h : E.ok s y) : y ≠ 0 := by
 rintro rfl
 have := E.live hi h
 rw [look_zero hm] at this; cases this
theorem tree_of_done {ov : Lk} {t n D : Nat} {ES : List Ent} {V : List Nat} {root : Kid} (h : Done ov t n D ES V root) (hn : n = ES.length) (hnd : V.Nodup) (hs : Srt ES) : Tree ov t ES V :=
 ⟨hnd, hs, .inr ⟨D, root, by rw [<- hn]; exact h.tree, h.rep, h.es.symm, h.hs.symm⟩⟩
theorem fixO_self {ov : Lk} {bs : List Fr} {d k x : Nat} (h : Zip ov bs d (k, x)) : fixO ov bs k = ov := by
 cases bs with
 | nil => rfl
 | cons f r => unfold fixO; rw [if_pos (by rw [h.1])]
theorem deep_of {ov : Lk} {t x n d D : Nat} (h : Deep ov t D) (e : ov t = some (treeO x n d)) : D = d := by
 obtain ⟨a, m, hd⟩ := h
 rw [e] at hd
 simp only [treeO, Option.some.injEq, Ov.mk.injEq, List.cons.injEq] at hd
 exact hd.2.2.2.2.1.symm
theorem nWords_le (x : K) : nWords x <= x.length / 8 + 1 := by unfold nWords; omega
def PutP (E : Eng v b) (s : E.σ) (t : Nat) (es : List Ent) (hs : List Nat) (key : K) (x D : Nat) (F : List HP) (e : Ending) (w' : World) : Prop :=
 ∃ (s' : E.σ) (es' : List Ent) (hs' : List Nat) (k m old : Nat) (had : Bool) (A o C : KV), e = .returned (.tuple #[.int .u64 (old : Int), .bool had]) /\ Cut (kv es) key A o C /\ kv es' = A ++ (key, x) :: C /\ (o = [] /\ had = false /\ old = 0 ∨ o = [(key, old)] /\ had = true) /\
  TrS E s' t es' hs' /\ St E s hs s' hs' k m /\ k <= D + 2 /\ m <= 26 * (D + 1) + 3 + key.length / 8 /\ Sat (E.S s' F) w'
set_option maxHeartbeats 2000000 in
theorem tput_c {t : Nat} {es : List Ent} {hs : List Nat} (hs0 : Sat (E.S s F) w) (hi : E.inv s) (hT : TrS E s t es hs) {key : K} (hkl : key.length <= 16384) {x D : Nat} (hx : x = 0 ∨ E.ok s x) (hD : Deep (E.ov s) t D) (hD12 : D <= 11) (hn : es.length <= 1000000)
  (hrt : (E.H s).m.top + 26 * (D + 1) + 3 + key.length / 8 <= (E.H s).m.n) (hrc : (E.H s).t.count + D + 2 <= (E.H s).t.n) :
  Calls Tryz.prog 49 #[trv b t, .string (str key), .int .u64 (x : Int)] w (PutP E s t es hs key x D F) := by
 refine S_tree_tree_put_ok _ _ _ _ _ _ ?_
 unfold S_tree_tree_put
 have hnw := nWords_le key
 refine NewC.ofRow hs0 fun d0 w1 h1 => NewC.ofRow h1 fun d1 w2 h2 => ?_
 have h3 : Sat (HeapH (E.H s) v b :: Row d0 (trc b t) 73 :: Row d1 [.string (str key)] 9 :: E.rest s :: F) w2 := (Sat.pull (Sat.pull h2 1 rfl) 2 rfl)
 refine LdP.of h3 1 rfl (off := 0) rfl rfl (LdI.of h3 1 rfl (off := 1) rfl (add_mk _ _ _) ?_)
 have hkt : E.ok s t := hT.ok t (by
  rcases hT.tree.at_ with ⟨_, h, _⟩ | ⟨_, _, _, _, _, h⟩
  ·rw [h]; simp
  ·exact h.mem_iff.2 (by simp))
 rcases hT.tree.at_ with ⟨e1, e2, e3⟩ | ⟨d, c, e1, e2, e3, e4⟩
 ·-- nothing yet
  refine (down0_c h3 e3 _ _).mono ?_
  rintro e w3 ⟨rfl, h4⟩
  refine ⟨_, _, _, _, _, _, _, rfl, cond_t rfl ?_⟩
  have hD0 : D = 0 := deep_of hD e3
  subst hD0
  have g4 : Sat (E.S s (Row d0 (trc b t) 73 :: Row d1 [.string (str key)] 9 :: F)) w3 := (Sat.pull (Sat.pull h4 3 rfl) 1 rfl)
  refine ⟨fun w' => ∃ T, Sat (Row d0 (trc b t) 73 :: Row d1 [.string (str key)] 9 :: T) w', ⟨_, g4.drew.drop.drop⟩, ?_⟩
  refine ⟨_, _, fun w' ⟨T, h⟩ => trv_ld h 0 rfl, _, _, fun w' ⟨T, h⟩ => trv_ld h 0 rfl, _, _, fun w' ⟨T, h⟩ => trv_ld h 0 rfl, _, fun w' ⟨T, h⟩ => LdStr.of h 1 rfl (off := 0) rfl rfl rfl, ?_⟩
  refine (newKey_c g4.drew hi t hkl (by omega) (by omega)).mono ?_
  rintro e w4 ⟨s1, kh, rfl, m1, k0, kn, kk, o1, g5⟩
  refine ⟨_, rfl, ⟨_, g5.drop.drop⟩, ?_⟩
  refine NewC.ofRow g5 fun d2 w5 g6 => ⟨⟨_, g6.drop.drop.drop⟩, ?_⟩
  have q1 := m1.top; have q2 := m1.n; have q3 := m1.cnt; have q4 := m1.tn
  refine (node_c (inS g6) m1.inv t (inner := false) (l := [(kh, x)]) (by simp) (by
   intro p hp
   simp only [List.mem_cons, List.not_mem_nil, or_false] at hp
   subst hp
   exact ⟨.inr kk, m1.some hx⟩) (by omega) (by omega) rfl (RdP.row 0 rfl)).mono ?_
  rintro e w6 ⟨s2, y, rfl, m2, y0, yn, yk, o2, g7⟩
  refine ⟨_, rfl, ⟨_, g7.drop.drop.drop⟩, ?_⟩
  have hts : (E.ov s t).isSome = true := by rw [e3]; rfl
  have htk : t ≠ kh := fun e => by rw [e, kn] at hts; cases hts
  have hty : t ≠ y := fun e => by
   have := m1.alive t hts
   rw [e, yn] at this; cases this
  have hyk : y ≠ kh := fun e => by
   have := ok_some m1.inv kk
   rw [<- e, yn] at this; cases this
  have hto : E.ov s2 t = some (treeO 0 0 0) := by rw [o2, updO_ne _ _ hty, o1, updO_ne _ _ htk]; exact e3
  refine (tset_c g7 m2.inv (top := y) (n := 1) (d := 1) hto (m2.ok _ (m1.ok _ hkt)) (.inr yk) (by omega) (by omega)).mono ?_
  rintro e w7 ⟨s3, rfl, m3, o3, g8⟩
  refine ⟨rfl, ⟨_, g8.drop.drop.drop⟩, ?_⟩
  have hov : E.ov s3 = updO (updO (updO (E.ov s) kh (keyO key)) y (nodeO false [(kh, x)])) t (treeO y 1 1) := by rw [o3, o2, o1]
  have mm := m1.trans (m2.trans m3)
  refine ⟨s3, [⟨kh, key, x⟩], [t, y, kh], 2, 2 + nWords key + 26, 0, false, [], [], [], rfl, ⟨by rw [e1]; rfl, by simp, by simp, .inl rfl⟩, by simp, .inl ⟨rfl, rfl, rfl⟩, ⟨⟨by simp [hty, htk, hyk], by simp [Srt], .inr ⟨0, ⟨y, [⟨kh, key, x⟩], [y, kh]⟩, ?_, ?_, rfl, List.Perm.refl _⟩⟩, ?_, ?_⟩, ?_, ?_, ?_, (outS (outS (outS g8).drop).drop).drop⟩
  ·rw [hov, updO_self]; rfl
  ·refine ⟨[⟨x, [⟨kh, key, x⟩], [kh]⟩], ?_, rfl, rfl, by simp, by simp, ?_⟩
   ·show E.ov s3 y = _
    rw [hov, updO_ne _ _ (fun e => hty e.symm), updO_self]; rfl
   ·intro a ha
    simp only [List.mem_cons, List.not_mem_nil, or_false] at ha
    subst ha
    exact ⟨⟨kh, key, x⟩, rfl, rfl, rfl, by rw [hov, updO_ne _ _ (fun e => htk e.symm), updO_ne _ _ (fun e => hyk e.symm), updO_self], hkl⟩
  ·intro z hz
   simp only [List.mem_cons, List.not_mem_nil, or_false] at hz
   rcases hz with rfl | rfl | rfl
   ·exact mm.ok _ hkt
   ·exact m3.ok _ yk
   ·exact m3.ok _ (m2.ok _ kk)
  ·intro e he
   simp only [List.mem_cons, List.not_mem_nil, or_false] at he
   subst he
   exact mm.some hx
  ·have hst := (St.start hi hT.ok).step (V' := [t, y, kh]) mm ?_ ?_ ?_
   ·have e : 0 + (2 + nWords key + (26 + 0)) = 2 + nWords key + 26 := by omega
    rw [e] at hst
    exact hst
   ·intro z hz hzs
    rw [e2] at hz
    simp only [List.mem_cons, List.not_mem_nil, or_false] at hz
    rw [hov, updO_ne _ _ hz, updO_ne _ _ (fun e => by
     have := m1.alive z hzs; rw [e, yn] at this; cases this), updO_ne _ _ (fun e => by rw [e, kn] at hzs; cases hzs)]
   ·intro z hz
    simp only [List.mem_cons, List.not_mem_nil, or_false] at hz
    rcases hz with rfl | rfl | rfl
    ·left; rw [e2]; simp
    ·right
     cases hh : E.ov s z with
     | none => rfl
     | some o => have := m1.alive z (by rw [hh]; rfl); rw [yn] at this; cases this
    ·exact .inr kn
   ·intro z hz
    simp only [List.mem_cons, List.not_mem_nil, or_false] at hz
    rcases hz with rfl | rfl | rfl
    ·exact mm.ok _ hkt
    ·exact m3.ok _ yk
    ·exact m3.ok _ (m2.ok _ kk)
  ·omega
  ·omega
 ·have hDd : D = d + 1 := deep_of hD e1
  subst hDd
  have hm0 := sat_S hs0
  have hcx : E.ok s c.x := hT.ok _ (e4.mem_iff.2 (by simp [e2.xmem]))
  refine (down_c h3 e1 (by omega) (ok_ne hi hm0 hcx) e2 (by rw [<- e3]; exact hT.tree.srt) choose_put inKey_step ⟨by simp, by simp, .inl rfl⟩).mono ?_
  rintro e w3 ⟨bs, k, L, wp, lp, wc, lc, rfl, hDn, hbl, ho1, hkes, hkhs, hmin, hl12, hreps, hcap, h5⟩
  refine ⟨_, _, _, _, _, _, _, rfl, ?_⟩
  have hvp : hs.Perm (t :: k.x :: (hsOf L ++ whs bs)) := e4.trans (List.Perm.cons _ (hDn.hs.trans (by rw [hkhs]; exact List.Perm.refl _)))
  have hnd : (t :: k.x :: (hsOf L ++ whs bs)).Nodup := hvp.nodup_iff.1 hT.tree.nd
  have hokV : ∀ z ∈ t :: k.x :: (hsOf L ++ whs bs), E.ok s z := fun z hz => hT.ok z (hvp.mem_iff.2 hz)
  obtain ⟨a1, a2, a3, a4, a5, a6, a7, a8⟩ := zip_of_nd hnd
  have hokx : E.ok s k.x := hokV _ (by simp)
  refine cond_f (by simpa using fun h => ok_ne hi hm0 hokx (by omega)) ?_
  have hL : L ≠ [] := by
   intro e0; rw [e0] at hmin
   split at hmin <;> simp at hmin
  have hes0 : es = lefts bs ++ esOf L ++ rights bs := by rw [e3, hDn.es, hkes]
  have hsrt := hT.tree.srt
  rw [hes0] at hsrt
  have hsL : Srt (esOf L) := (srt_append.1 (srt_append.1 hsrt).1).2.1
  have h6 := Sat.pull h5 2 rfl
  have hlp : L.map Kid.pr ≠ [] -> ∃ a, lp = some a := fun _ => by obtain ⟨g, hg⟩ := h5.own_some 0 rfl (List.length_pos_iff.2 hL); exact ⟨_, hg⟩
  refine LdP.of h6 3 rfl (off := 0) rfl rfl (LdI.of h6 3 rfl (off := 1) rfl (add_mk _ _ _) (LdStr.of h6 4 rfl (off := 0) rfl rfl ?_))
  refine (tat_c (L := L) h6 (srt_kids hsL fun a ha => (hreps a ha).ne (by omega)) (fun a ha => (hreps a ha).keyOK (by omega)) rfl (by omega) (RdP.own (k := 0) rfl (by simp) hlp)).mono ?_
  rintro e w4 ⟨i, hAt, rfl, h7⟩
  refine ⟨_, _, rfl, ?_⟩
  obtain ⟨c1, c2, c3⟩ := at_cut hAt hreps hsL
  have hfk0 : k.k = firstK L := by
   obtain ⟨c', r', rfl⟩ := List.exists_cons_of_ne_nil hL
   obtain ⟨e', r'', he'⟩ := List.exists_cons_of_ne_nil ((hreps c' (by simp)).ne (by omega))
   simp only [firstK, Kid.k, hkes, esOf_cons, he', List.cons_append]
  have hz0 : Zip (E.ov s) bs 1 (firstK L, k.x) := by have := hDn.zip; unfold Kid.pr at this; rw [hfk0] at this; exact this
  have hlc : L.length <= lc := by omega
  have htop : E.ov s t = some (treeO (topx bs k.x) es.length (d + 1)) := by rw [hDn.top]; exact e1
  have hall : ∀ e, (e ∈ lefts bs ∨ e ∈ esOf L ∨ e ∈ rights bs) -> e.x = 0 ∨ E.ok s e.x := by
   intro e h
   refine hT.refs e ?_
   rw [hes0, List.mem_append, List.mem_append]
   rcases h with h | h | h
   ·exact .inl (.inl h)
   ·exact .inl (.inr h)
   ·exact .inr h
  cases hsm : same L key i with
  | true =>
   refine cond_t rfl ?_
   obtain ⟨ci, hci, hcik, hhi⟩ := c3 hsm
   have hil := get_lt hci
   have hgi : (L.map Kid.pr)[i]? = some ci.pr := by rw [List.getElem?_map, hci]; rfl
   refine IdxC.ownAt (k := i) h7 1 rfl hil fun g hg => ?_
   refine LdI.at (n := (ci.x : Int)) (Sat.ownAt h7 1 rfl hg (off := i * 2 + 1) (pairsV_get1 hgi)) ?_
   refine IdxC.ownAt (k := i) h7 1 rfl hil fun g' hg' => ?_
   refine StC.ownAt h7 1 rfl hg' (off := i * 2 + 1) (v0 := .int .u64 (ci.x : Int)) (pairsV_get1 hgi) (add_mk _ _ _) fun w5 h8 => ?_
   simp only [List.set_cons_succ, List.set_cons_zero] at h8
   rw [pairsV_set1 x hgi] at h8
   refine LdP.of h8 3 rfl (off := 0) rfl rfl (LdI.of h8 3 rfl (off := 1) rfl (add_mk _ _ _) ?_)
   obtain ⟨sp1, sp2⟩ := split_at hci
   generalize hL' : L.take i ++ (⟨x, [⟨ci.k, key, x⟩], ci.hs⟩ : Kid) :: L.drop (i + 1) = L'
   have hset : (L.map Kid.pr).set i (ci.pr.1, x) = L'.map Kid.pr := by
    rw [<- hL']
    have q1 : L.map Kid.pr = (L.take i).map Kid.pr ++ ci.pr :: (L.drop (i + 1)).map Kid.pr := (congrArg (List.map Kid.pr) sp1).trans (by rw [List.map_append, List.map_cons])
    have q2 : ((L.take i).map Kid.pr).length = i := by rw [List.length_map]; exact sp2
    have q3 : ∀ (A B : List (Nat × Nat)) (p q : Nat × Nat), (A ++ p :: B).set A.length q = A ++ q :: B := fun A B p q => by simp
    have q4 := q3 ((L.take i).map Kid.pr) ((L.drop (i + 1)).map Kid.pr) ci.pr (ci.pr.1, x)
    rw [q2, <- q1] at q4
    rw [q4, List.map_append, List.map_cons]
    rfl
   have hesL : esOf L = esOf (L.take i) ++ (ci.es ++ esOf (L.drop (i + 1))) := (congrArg esOf sp1).trans (by rw [esOf_append, esOf_cons])
   have hlen' : L'.length = L.length := by rw [<- hL']; simp; omega
   have hci0 := hreps ci (List.mem_of_getElem? hci)
   have hr' : ∀ a ∈ L', Rep (E.ov s) 0 6 a := by
    intro a ha
    rw [<- hL'] at ha
    rcases List.mem_append.1 ha with ha | ha
    ·exact hreps a (List.mem_of_mem_take ha)
    ·rcases List.mem_cons.1 ha with rfl | ha
     ·have g := hci0.keyOK (by omega)
      obtain ⟨e0, q1, q2, q3, q4, q5⟩ := hci0
      have q6 : ci.k = e0.kh := by unfold Kid.k; rw [q1]
      refine ⟨⟨ci.k, key, x⟩, rfl, rfl, by show ci.hs = [ci.k]; rw [q3, q6], by rw [<- hcik]; exact g.1, hkl⟩
     ·exact hreps a (List.mem_of_mem_drop ha)
   have hhs' : hsOf L' = hsOf L := by
    rw [<- hL']
    exact ((congrArg hsOf sp1).trans (by rw [hsOf_append, hsOf_cons, hsOf_append, hsOf_cons])).symm
   have hfk' : firstK L' = firstK L := by
    rw [<- hL']
    cases i with
    | zero =>
     cases L with
     | nil => exact absurd rfl hL
     | cons a L => simp at hci; subst hci; rfl
    | succ i =>
     cases L with
     | nil => exact absurd rfl hL
     | cons a L => rfl
   have hL'0 : L' ≠ [] := by intro e; rw [e] at hlen'; exact hL (List.eq_nil_of_length_eq_zero hlen'.symm)
   have hex : ∀ e ∈ lefts bs ++ esOf L' ++ rights bs, e.x = 0 ∨ E.ok s e.x := by
    intro e he
    rw [<- hL'] at he
    simp only [esOf_append, esOf_cons, List.mem_append, List.mem_cons, List.not_mem_nil, or_false] at he
    rcases he with (he | he | he | he) | he
    ·exact hall e (.inl he)
    ·exact hall e (.inr (.inl (by obtain ⟨q, q1, q2⟩ := mem_esOf.1 he; exact mem_esOf.2 ⟨q, List.mem_of_mem_take q1, q2⟩)))
    ·subst he; exact hx
    ·exact hall e (.inr (.inl (by obtain ⟨q, q1, q2⟩ := mem_esOf.1 he; exact mem_esOf.2 ⟨q, List.mem_of_mem_drop q1, q2⟩)))
    ·exact hall e (.inr (.inr he))
   have hpok := kids_ok hr' (fun z hz => hokV z (by rw [hhs'] at hz; simp [hz])) (fun e he => hex e (by simp [he]))
   rw [hset] at h8
   have g9 : Sat (E.S s (Own 96 2 lp L.length lc (pairsV (L'.map Kid.pr)) :: Way bs wp wc :: Row d0 (trc b t) 73 :: Row d1 [.string (str key)] 9 :: F)) w5 := (Sat.pull h8 5 rfl).p1
   refine (write_c g9 hi t (x := k.x) (l := L'.map Kid.pr) ho1 (nodeW_len (by simpa using hl12)) hokx (by simp; omega) hpok (by simp [hlen']) (RdP.own (k := 0) rfl (by simp [hlen']) fun _ => ⟨_, hg⟩)).mono ?_
   rintro e w6 ⟨s1, rfl, m1, o1, g10⟩
   have o1 : E.ov s1 = updO (E.ov s) k.x (nodeO (decide (0 < 0)) (L'.map Kid.pr)) := o1
   have hlE : (lefts bs ++ esOf L' ++ rights bs).length = es.length := by
    obtain ⟨e0, q1, _⟩ := hci0
    rw [hes0, <- hL', hesL]
    simp [q1]
   have hgs : GS (E.ov s) t es.length (d + 1) (lefts bs ++ esOf L' ++ rights bs) bs k.x L' 0 (firstK L') :=
    ⟨by rw [hfk']; exact hz0, hr', by rw [hhs']; exact hnd, ⟨L.map Kid.pr, ho1, by simpa using hl12⟩, htop, by omega, rfl⟩
   obtain ⟨root, hdn⟩ := hgs.fin hL'0 (fun hb => by rw [if_neg hb] at hmin; omega) (fun h => by omega) (by omega)
   rw [fixO_self (d := 1) (x := k.x) (by rw [hfk']; exact hz0.upd a5), <- o1] at hdn
   obtain ⟨e0, q1, q2, q3, q4, q5⟩ := hci0
   have hcut : Cut (kv es) key (kv (lefts bs) ++ kv (esOf (L.take i))) [(key, ci.x)] (kv (esOf (L.drop (i + 1))) ++ kv (rights bs)) := by
    refine ⟨?_, ?_, ?_, .inr ⟨_, rfl⟩⟩
    ·rw [hes0, hesL]
     have : e0.key = key := by rw [<- hcik]; unfold Kid.key; rw [q1]
     simp [q1, q2, this]
    ·intro a ha
     rcases List.mem_append.1 ha with ha | ha
     ·exact kv_lo hDn.i.1 a ha
     ·exact kv_lo c1 a ha
    ·intro a ha
     rcases List.mem_append.1 ha with ha | ha
     ·exact kv_hi hhi a ha
     ·exact kv_hi hDn.i.2.1 a ha
   have hkv' : kv (lefts bs ++ esOf L' ++ rights bs) = kv (lefts bs) ++ kv (esOf (L.take i)) ++ (key, x) :: (kv (esOf (L.drop (i + 1))) ++ kv (rights bs)) := by rw [<- hL']; simp
   refine ⟨rfl, s1, lefts bs ++ esOf L' ++ rights bs, _, 0, 0, ci.x, true, _, _, _, rfl, hcut, hkv', .inr ⟨rfl, rfl⟩, ⟨tree_of_done hdn hlE.symm hgs.nd ?_, ?_, fun e he => m1.some (hex e he)⟩, ?_, by omega, by omega, ?_⟩
   ·exact srt_kv.2 (by rw [hkv']; exact hcut.put (srt_kv.1 hT.tree.srt) x)
   ·intro z hz; rw [hhs'] at hz; exact m1.ok z (hokV z hz)
   ·have := (St.start hi hT.ok).step (V' := t :: k.x :: (hsOf L' ++ whs bs)) m1 (fun z hz _ => ?_) (fun z hz => .inl ?_) (fun z hz => ?_)
    ·simpa using this
    ·rw [o1, updO_ne _ _ (fun e => hz (by rw [e]; exact hvp.mem_iff.2 (by simp)))]
    ·rw [hhs'] at hz; exact hvp.mem_iff.2 hz
    ·rw [hhs'] at hz; exact m1.ok z (hokV z hz)
   ·exact (outS (outS (outS (outS g10).drop).drop).drop).drop
  | false =>
   refine cond_f rfl ?_
   have hhi := c2 hsm
   have hil := hAt.1
   have g8 : Sat (E.S s (Own 96 2 lp L.length lc (pairsV (L.map Kid.pr)) :: Way bs wp wc :: Row d0 (trc b t) 73 :: Row d1 [.string (str key)] 9 :: F)) w4 := (Sat.pull h7 5 rfl).p1
   refine ⟨fun w' => ∃ T, Sat (Row d0 (trc b t) 73 :: T) w', ⟨_, Sat.pull g8.drew 4 rfl⟩, ?_⟩
   refine ⟨_, _, fun w' ⟨T, h⟩ => trv_ld h 0 rfl, _, _, fun w' ⟨T, h⟩ => trv_ld h 0 rfl, _, _, fun w' ⟨T, h⟩ => trv_ld h 0 rfl, _, _, fun w' ⟨T, h⟩ => trv_ld h 0 rfl, ?_⟩
   refine (ttop_c g8.drew htop).mono ?_
   rintro e w5 ⟨rfl, g9⟩
   refine ⟨_, rfl, ⟨_, Sat.pull g9 4 rfl⟩, ?_⟩
   refine (tcount_c g9 htop (by omega)).mono ?_
   rintro e w6 ⟨rfl, g10⟩
   refine ⟨_, rfl, ⟨_, Sat.pull g10 4 rfl⟩, ?_⟩
   refine (tdepth_c g10 htop (by omega)).mono ?_
   rintro e w7 ⟨rfl, g11⟩
   refine ⟨_, rfl, ⟨_, Sat.pull g11 4 rfl⟩, ?_⟩
   have en : IntKind.wrap .i64 (((es.length : Nat) : Int) + 1) = ((es.length + 1 : Nat) : Int) := by rw [wrapI64 (by omega) (by omega)]; omega
   rw [en]
   have htx : E.ok s (topx bs k.x) := by rw [hDn.top]; exact hcx
   refine (tset_c g11 hi (top := topx bs k.x) (n := es.length + 1) (d := d + 1) htop hkt (.inr htx) (by omega) (by omega)).mono ?_
   rintro e w8 ⟨s1, rfl, m1, o1, g12⟩
   refine ⟨rfl, ⟨_, Sat.pull g12 4 rfl⟩, ?_⟩
   refine LdP.of g12 4 rfl (off := 0) rfl rfl (LdI.of g12 4 rfl (off := 1) rfl (add_mk _ _ _) (LdStr.of g12 5 rfl (off := 0) rfl rfl ?_))
   have p1 := m1.top; have p2 := m1.n; have p3 := m1.cnt; have p4 := m1.tn
   refine (newKey_c g12 m1.inv t hkl (by omega) (by omega)).mono ?_
   rintro e w9 ⟨s2, kh, rfl, m2, kh0, khn, khk, o2, g13⟩
   refine ⟨_, rfl, ?_⟩
   refine NewC.ofRow g13 fun d3 w10 g14 => ?_
   have g15 : Sat (Own 96 2 lp (L.map Kid.pr).length lc (pairsV (L.map Kid.pr)) :: Row d3 (pairV (kh, x)) 96 :: HeapH (E.H s2) v b :: E.rest s2 :: Way bs wp wc :: Row d0 (trc b t) 73 :: Row d1 [.string (str key)] 9 :: F) w10 := by
    rw [List.length_map]; exact Sat.pull g14 3 rfl
   refine (insert_c (q := (kh, x)) (i := i) g15 (by rw [List.length_map]; exact hcap) (by rw [List.length_map]; exact hil) (by rw [List.length_map]; omega) (by simp) rfl).mono ?_
   rintro e w11 ⟨np, nc, rfl, g16⟩
   refine ⟨_, _, _, rfl, ?_⟩
   refine LdP.of g16 4 rfl (off := 0) rfl rfl (LdI.of g16 4 rfl (off := 1) rfl (add_mk _ _ _) ?_)
   generalize hL' : L.take i ++ (⟨x, [⟨kh, key, x⟩], [kh]⟩ : Kid) :: L.drop i = L'
   have hmap : (L.map Kid.pr).take i ++ (kh, x) :: (L.map Kid.pr).drop i = L'.map Kid.pr := by
    rw [<- hL', List.map_append, List.map_cons, <- List.map_take, <- List.map_drop]; rfl
   have hlen' : (L.map Kid.pr).length + 1 = L'.length := by rw [<- hL']; simp; omega
   have hlen2 : L'.length = L.length + 1 := by rw [<- hlen', List.length_map]
   rw [hmap, hlen'] at g16
   rw [hlen']
   have hsl : (E.ov s kh) = none := by
    cases hh : E.ov s kh with
    | none => rfl
    | some o => have := m1.alive kh (by rw [hh]; rfl); rw [khn] at this; cases this
   have hne : ∀ z, z ∈ t :: k.x :: (hsOf L ++ whs bs) -> z ≠ kh := fun z hz e => by
    have := ok_some hi (hokV z hz)
    rw [e, hsl] at this; cases this
   have hov : ∀ z, z ≠ t -> z ≠ kh -> E.ov s2 z = E.ov s z := fun z q1 q2 => by rw [o2, updO_ne _ _ q2, o1, updO_ne _ _ q1]
   have hr' : ∀ a ∈ L', Rep (E.ov s2) 0 6 a := by
    intro a ha
    have old : a ∈ L -> Rep (E.ov s2) 0 6 a := fun hm => (hreps a hm).frame fun z hz => by
     have hzm : z ∈ hsOf L := mem_hsOf.2 ⟨a, hm, hz⟩
     exact hov z (fun e => a2 (e ▸ hzm)) (hne z (by simp [hzm]))
    rw [<- hL'] at ha
    rcases List.mem_append.1 ha with ha | ha
    ·exact old (List.mem_of_mem_take ha)
    ·rcases List.mem_cons.1 ha with rfl | ha
     ·exact ⟨⟨kh, key, x⟩, rfl, rfl, rfl, by rw [o2, updO_self], hkl⟩
     ·exact old (List.mem_of_mem_drop ha)
   have hspl : L.take i ++ L.drop i = L := List.take_append_drop i L
   have hhsp : (hsOf L').Perm (kh :: hsOf L) := by
    rw [<- hL', hsOf_append, hsOf_cons]
    conv => rhs; rw [<- hspl, hsOf_append]
    exact List.perm_middle
   have hesL : esOf L = esOf (L.take i) ++ esOf (L.drop i) := (congrArg esOf hspl.symm).trans (esOf_append _ _)
   have hVp : (t :: k.x :: (hsOf L' ++ whs bs)).Perm (kh :: t :: k.x :: (hsOf L ++ whs bs)) := by
    rw [List.perm_iff_count]
    intro z
    have := (List.perm_iff_count.1 hhsp) z
    simp only [List.count_cons, List.count_append] at this ⊢
    omega
   have hnd' : (t :: k.x :: (hsOf L' ++ whs bs)).Nodup := hVp.nodup_iff.2 (List.nodup_cons.2 ⟨fun hh => hne kh hh rfl, hnd⟩)
   have m12 := m1.trans m2
   have hx2 : E.ov s2 k.x = some (nodeO (decide (0 < 0)) (L.map Kid.pr)) := by rw [hov _ (fun e => a1 e.symm) (hne _ (by simp))]; exact ho1
   have ht2 : E.ov s2 t = some (treeO (topx bs k.x) (es.length + 1) (d + 1)) := by rw [o2, updO_ne _ _ (hne t (by simp)), o1, updO_self]
   have hz2 : Zip (E.ov s2) bs 1 (firstK L, k.x) := hz0.frame fun z hz => hov z (fun e => a3 (e ▸ hz)) (hne z (by simp [hz]))
   have hgs : GS (E.ov s2) t (es.length + 1) (d + 1) (lefts bs ++ esOf L' ++ rights bs) bs k.x L' 0 (firstK L) :=
    ⟨hz2, hr', hnd', ⟨L.map Kid.pr, hx2, by simpa using hl12⟩, ht2, by omega, rfl⟩
   have hex : ∀ e ∈ lefts bs ++ esOf L' ++ rights bs, e.x = 0 ∨ E.ok s2 e.x := by
    intro e he
    rw [<- hL'] at he
    simp only [esOf_append, esOf_cons, List.mem_append, List.mem_cons, List.not_mem_nil, or_false] at he
    rcases he with (he | he | he | he) | he
    ·exact m12.some (hall e (.inl he))
    ·exact m12.some (hall e (.inr (.inl (by rw [hesL]; simp [he]))))
    ·subst he; exact m12.some hx
    ·exact m12.some (hall e (.inr (.inl (by rw [hesL]; simp [he]))))
    ·exact m12.some (hall e (.inr (.inr he)))
   have hok2 : ∀ z ∈ t :: k.x :: (hsOf L' ++ whs bs), E.ok s2 z := by
    intro z hz
    rcases List.mem_cons.1 (hVp.mem_iff.1 hz) with rfl | hz
    ·exact khk
    ·exact m12.ok z (hokV z hz)
   have r1 := m12.top; have r2 := m12.n; have r3 := m12.cnt; have r4 := m12.tn
   have g17 : Sat (Own 96 2 np L'.length nc (pairsV (L'.map Kid.pr)) :: Way bs wp wc :: E.S s2 (Row d0 (trc b t) 73 :: Row d1 [.string (str key)] 9 :: F)) w11 := (Sat.pull g16 3 rfl).p1
   refine (grown_c g17 m2.inv hgs (by intro e; rw [e] at hlen2; simp at hlen2) (by omega) (fun hb => by rw [if_neg hb] at hmin; omega) (fun h => by omega) (m12.ok _ (hokV _ (by simp [firstK_mem hL hreps]))) hok2 hbl rfl (by omega) (by omega) (by omega) hex (by omega) (by omega) rfl).mono ?_
   rintro e w12 ⟨s3, V, k3, rfl, ⟨D', root, hdn⟩, hst3, hk3, hndV, g18⟩
   have hcut : Cut (kv es) key (kv (lefts bs) ++ kv (esOf (L.take i))) [] (kv (esOf (L.drop i)) ++ kv (rights bs)) := by
    refine ⟨?_, ?_, ?_, .inl rfl⟩
    ·rw [hes0, hesL]
     simp
    ·intro a ha
     rcases List.mem_append.1 ha with ha | ha
     ·exact kv_lo hDn.i.1 a ha
     ·exact kv_lo c1 a ha
    ·intro a ha
     rcases List.mem_append.1 ha with ha | ha
     ·exact kv_hi hhi a ha
     ·exact kv_hi hDn.i.2.1 a ha
   have hkv' : kv (lefts bs ++ esOf L' ++ rights bs) = kv (lefts bs) ++ kv (esOf (L.take i)) ++ (key, x) :: (kv (esOf (L.drop i)) ++ kv (rights bs)) := by rw [<- hL']; simp
   have hlE : es.length + 1 = (lefts bs ++ esOf L' ++ rights bs).length := by
    rw [hes0, <- hL', hesL]
    simp; omega
   have hst2 := (St.start hi hT.ok).step (V' := t :: k.x :: (hsOf L' ++ whs bs)) m12 (fun z hz hzs => hov z (fun e => hz (by rw [e]; exact hvp.mem_iff.2 (by simp))) (fun e => by rw [e, hsl] at hzs; cases hzs)) (fun z hz => by
    rcases List.mem_cons.1 (hVp.mem_iff.1 hz) with rfl | hz
    ·exact .inr hsl
    ·exact .inl (hvp.mem_iff.2 hz)) hok2
   have hst := hst2.trans hst3 fun z hz => hz
   refine ⟨rfl, s3, lefts bs ++ esOf L' ++ rights bs, V, 1 + k3, 2 + nWords key + 26 * k3, 0, false, _, _, _, rfl, hcut, hkv', .inl ⟨rfl, rfl, rfl⟩, ⟨tree_of_done hdn hlE hndV ?_, hst3.ok, fun e he => hst3.mv.some (hex e he)⟩, ?_, by omega, by omega, (outS (outS g18).drop).drop⟩
   ·exact srt_kv.2 (by rw [hkv']; exact hcut.put (srt_kv.1 hT.tree.srt) x)
   ·have e1 : 0 + (0 + 1) + k3 = 1 + k3 := by omega
    have e2 : 0 + (0 + (2 + nWords key)) + 26 * k3 = 2 + nWords key + 26 * k3 := by omega
    rw [e1, e2] at hst
    exact hst
end
end Go.Proofs.YtpicofkhioalkaaGreat
