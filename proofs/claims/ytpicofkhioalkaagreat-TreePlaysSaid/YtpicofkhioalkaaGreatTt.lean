
/- What take comes to. -/
import Derived.Test.YtpicofkhioalkaaGreatTj
set_option maxRecDepth 100000
namespace Go.Proofs.YtpicofkhioalkaaGreat
open Go Go.Lw Go.Wd Go.Am Go.Tb Go.Hm Go.Kd Go.Td
section
variable {v : Value} {b : Nat} {E : Eng v b} {s : E.σ} {F : List HP} {w : World}
def TakeP (E : Eng v b) (s : E.σ) (t : Nat) (es : List Ent) (hs : List Nat) (key : K) (F : List HP) (e : Ending) (w' : World) : Prop :=
 ∃ (s' : E.σ) (es' : List Ent) (hs' : List Nat) (old : Nat) (had : Bool) (A o C : KV), e = .returned (.tuple #[.int .u64 (old : Int), .bool had]) /\ Cut (kv es) key A o C /\ kv es' = A ++ C /\ (o = [] /\ had = false /\ old = 0 ∨ o = [(key, old)] /\ had = true) /\
  TrS E s' t es' hs' /\ St E s hs s' hs' 0 0 /\ Sat (E.S s' F) w'
theorem TrS.tmem {t : Nat} {es : List Ent} {hs : List Nat} (h : TrS E s t es hs) : t ∈ hs := by
 rcases h.tree.at_ with ⟨_, h, _⟩ | ⟨_, _, _, _, _, h⟩
 ·rw [h]; simp
 ·exact h.mem_iff.2 (by simp)
structure Leaf (E : Eng v b) (s : E.σ) (t : Nat) (es : List Ent) (hs : List Nat) (c : Kid) (d : Nat) (bs : List Fr) (k : Kid) (L : List Kid) : Prop where
 perm : hs.Perm (t :: k.x :: (hsOf L ++ whs bs))
 nd : (t :: k.x :: (hsOf L ++ whs bs)).Nodup
 ok : ∀ z ∈ t :: k.x :: (hsOf L ++ whs bs), E.ok s z
 ne : L ≠ []
 eq : es = lefts bs ++ esOf L ++ rights bs
 srt : Srt (esOf L)
 zip : Zip (E.ov s) bs 1 (firstK L, k.x)
 top : E.ov s t = some (treeO (topx bs k.x) es.length (d + 1))
 topok : E.ok s (topx bs k.x)
 fk : firstK L ∈ hsOf L
theorem leaf_of {I : List Ent -> Kid -> List Ent -> Prop} {t d : Nat} {es : List Ent} {hs : List Nat} {c k : Kid} {bs : List Fr} {L : List Kid} (hT : TrS E s t es hs) (e1 : E.ov s t = some (treeO c.x es.length (d + 1))) (e2 : Rep (E.ov s) (d + 1) (if d = 0 then 1 else 2) c) (e3 : es = c.es) (e4 : hs.Perm (t :: c.hs))
  (hDn : Dn (E.ov s) c (if d = 0 then 1 else 2) I bs k 1) (hkes : k.es = esOf L) (hkhs : k.hs = k.x :: hsOf L) (hmin : (if bs = [] then 1 else 6) <= L.length) (hreps : ∀ a ∈ L, Rep (E.ov s) 0 6 a) : Leaf E s t es hs c d bs k L := by
 have hvp : hs.Perm (t :: k.x :: (hsOf L ++ whs bs)) := e4.trans (List.Perm.cons _ (hDn.hs.trans (by rw [hkhs]; exact List.Perm.refl _)))
 have hL : L ≠ [] := by
  intro e0; rw [e0] at hmin
  split at hmin <;> simp at hmin
 have hes0 : es = lefts bs ++ esOf L ++ rights bs := by rw [e3, hDn.es, hkes]
 have hsrt := hT.tree.srt
 rw [hes0] at hsrt
 have hfk0 : k.k = firstK L := by
  obtain ⟨c', r', rfl⟩ := List.exists_cons_of_ne_nil hL
  obtain ⟨e', r'', he'⟩ := List.exists_cons_of_ne_nil ((hreps c' (by simp)).ne (by omega))
  simp only [firstK, Kid.k, hkes, esOf_cons, he', List.cons_append]
 exact ⟨hvp, hvp.nodup_iff.1 hT.tree.nd, fun z hz => hT.ok z (hvp.mem_iff.2 hz), hL, hes0, (srt_append.1 (srt_append.1 hsrt).1).2.1, by have := hDn.zip; unfold Kid.pr at this; rw [hfk0] at this; exact this,
  by rw [hDn.top]; exact e1, by rw [hDn.top]; exact hT.ok _ (e4.mem_iff.2 (by simp [e2.xmem])), firstK_mem hL hreps⟩
set_option maxHeartbeats 2000000 in
theorem ttake_c {t : Nat} {es : List Ent} {hs : List Nat} (hs0 : Sat (E.S s F) w) (hi : E.inv s) (hT : TrS E s t es hs) {key : K} (hkl : key.length <= 16384) {D : Nat} (hD : Deep (E.ov s) t D) (hD12 : D <= 11) (hn : es.length <= 1000000) :
  Calls Tryz.prog 43 #[trv b t, .string (str key)] w (TakeP E s t es hs key F) := by
 refine S_tree_tree_take_ok _ _ _ _ _ ?_
 unfold S_tree_tree_take
 refine NewC.ofRow hs0 fun d0 w1 h1 => NewC.ofRow h1 fun d1 w2 h2 => ?_
 have h3 : Sat (HeapH (E.H s) v b :: Row d0 (trc b t) 73 :: Row d1 [.string (str key)] 9 :: E.rest s :: F) w2 := (Sat.pull (Sat.pull h2 1 rfl) 2 rfl)
 refine LdP.of h3 1 rfl (off := 0) rfl rfl (LdI.of h3 1 rfl (off := 1) rfl (add_mk _ _ _) ?_)
 have hkt : E.ok s t := hT.ok t hT.tmem
 rcases hT.tree.at_ with ⟨e1, e2, e3⟩ | ⟨d, c, e1, e2, e3, e4⟩
 ·refine (down0_c h3 e3 _ _).mono ?_
  rintro e w3 ⟨rfl, h4⟩
  refine ⟨_, _, _, _, _, _, _, rfl, cond_t rfl ?_⟩
  have g4 : Sat (E.S s F) w3 := Sat.drop (Sat.p1 (Sat.drop (Sat.p1 h4)))
  exact ⟨s, es, hs, 0, false, [], [], [], rfl, ⟨by rw [e1]; rfl, by simp, by simp, .inl rfl⟩, by rw [e1]; rfl, .inl ⟨rfl, rfl, rfl⟩, hT, St.start hi hT.ok, g4⟩
 ·have hDd : D = d + 1 := deep_of hD e1
  subst hDd
  have hm0 := sat_S hs0
  have hcx : E.ok s c.x := hT.ok _ (e4.mem_iff.2 (by simp [e2.xmem]))
  refine (down_c h3 e1 (by omega) (ok_ne hi hm0 hcx) e2 (by rw [<- e3]; exact hT.tree.srt) choose_take inKey_step ⟨by simp, by simp, .inl rfl⟩).mono ?_
  rintro e w3 ⟨bs, k, L, wp, lp, wc, lc, rfl, hDn, hbl, ho1, hkes, hkhs, hmin, hl12, hreps, hcap, h5⟩
  refine ⟨_, _, _, _, _, _, _, rfl, ?_⟩
  obtain ⟨hvp, hnd, hokV, hL, hes0, hsL, hz0, htop, htx, hfkm⟩ := leaf_of hT e1 e2 e3 e4 hDn hkes hkhs hmin hreps
  obtain ⟨a1, a2, a3, a4, a5, a6, a7, a8⟩ := zip_of_nd hnd
  have hokx : E.ok s k.x := hokV _ (by simp)
  refine cond_f (by simpa using fun h => ok_ne hi hm0 hokx (by omega)) ?_
  have h6 := Sat.pull h5 2 rfl
  have hlp : L.map Kid.pr ≠ [] -> ∃ a, lp = some a := fun _ => by obtain ⟨g, hg⟩ := h5.own_some 0 rfl (List.length_pos_iff.2 hL); exact ⟨_, hg⟩
  refine LdP.of h6 3 rfl (off := 0) rfl rfl (LdI.of h6 3 rfl (off := 1) rfl (add_mk _ _ _) (LdStr.of h6 4 rfl (off := 0) rfl rfl ?_))
  refine (tat_c (L := L) h6 (srt_kids hsL fun a ha => (hreps a ha).ne (by omega)) (fun a ha => (hreps a ha).keyOK (by omega)) rfl (by omega) (RdP.own (k := 0) rfl (by simp) hlp)).mono ?_
  rintro e w4 ⟨i, hAt, rfl, h7⟩
  refine ⟨_, _, rfl, ?_⟩
  obtain ⟨c1, c2, c3⟩ := at_cut hAt hreps hsL
  have g8 : Sat (E.S s (Own 96 2 lp L.length lc (pairsV (L.map Kid.pr)) :: Way bs wp wc :: Row d0 (trc b t) 73 :: Row d1 [.string (str key)] 9 :: F)) w4 := (Sat.pull h7 5 rfl).p1
  cases hsm : same L key i with
  | false =>
   refine cond_t rfl ?_
   have hspl : L.take i ++ L.drop i = L := List.take_append_drop i L
   have hesL : esOf L = esOf (L.take i) ++ esOf (L.drop i) := (congrArg esOf hspl.symm).trans (esOf_append _ _)
   refine ⟨s, es, hs, 0, false, kv (lefts bs) ++ kv (esOf (L.take i)), [], kv (esOf (L.drop i)) ++ kv (rights bs), rfl, ⟨?_, ?_, ?_, .inl rfl⟩, ?_, .inl ⟨rfl, rfl, rfl⟩, hT, St.start hi hT.ok, (outS (outS (outS (outS g8).drop).drop).drop).drop⟩
   ·rw [hes0, hesL]; simp
   ·intro a ha
    rcases List.mem_append.1 ha with ha | ha
    ·exact kv_lo hDn.i.1 a ha
    ·exact kv_lo c1 a ha
   ·intro a ha
    rcases List.mem_append.1 ha with ha | ha
    ·exact kv_hi (c2 hsm) a ha
    ·exact kv_hi hDn.i.2.1 a ha
   ·rw [hes0, hesL]; simp
  | true =>
   refine cond_f rfl ?_
   obtain ⟨ci, hci, hcik, hhi⟩ := c3 hsm
   have hil := get_lt hci
   have hgi : (L.map Kid.pr)[i]? = some ci.pr := by rw [List.getElem?_map, hci]; rfl
   refine IdxC.ownAt (k := i) g8 2 rfl hil fun g hg => ?_
   refine LdI.at (n := (ci.x : Int)) (Sat.ownAt g8 2 rfl hg (off := i * 2 + 1) (pairsV_get1 hgi)) ?_
   obtain ⟨sp1, sp2⟩ := split_at hci
   refine ⟨fun w' => ∃ T, Sat (Row d0 (trc b t) 73 :: T) w', ⟨_, Sat.pull g8.drew 4 rfl⟩, ?_⟩
   refine ⟨_, _, fun w' ⟨T, h⟩ => trv_ld h 0 rfl, _, _, fun w' ⟨T, h⟩ => trv_ld h 0 rfl, _, _, fun w' ⟨T, h⟩ => trv_ld h 0 rfl, _, _, fun w' ⟨T, h⟩ => trv_ld h 0 rfl, ?_⟩
   refine (ttop_c g8.drew htop).mono ?_
   rintro e w5 ⟨rfl, g9⟩
   refine ⟨_, rfl, ⟨_, Sat.pull g9 4 rfl⟩, ?_⟩
   refine (tcount_c g9 htop (by omega)).mono ?_
   rintro e w6 ⟨rfl, g10⟩
   refine ⟨_, rfl, ⟨_, Sat.pull g10 4 rfl⟩, ?_⟩
   refine (tdepth_c g10 htop (by omega)).mono ?_
   rintro e w7 ⟨rfl, g11⟩
   refine ⟨_, rfl, ⟨_, Sat.pull g11 4 rfl⟩, ?_⟩
   obtain ⟨e0, q1, q2, q3, q4, q5⟩ := hreps ci (List.mem_of_getElem? hci)
   have hesL : esOf L = esOf (L.take i) ++ (ci.es ++ esOf (L.drop (i + 1))) := (congrArg esOf sp1).trans (by rw [esOf_append, esOf_cons])
   have hhsL : hsOf L = hsOf (L.take i) ++ (ci.hs ++ hsOf (L.drop (i + 1))) := (congrArg hsOf sp1).trans (by rw [hsOf_append, hsOf_cons])
   generalize hL' : L.take i ++ L.drop (i + 1) = L'
   have hesL' : esOf L' = esOf (L.take i) ++ esOf (L.drop (i + 1)) := by rw [<- hL', esOf_append]
   have hhsL' : hsOf L' = hsOf (L.take i) ++ hsOf (L.drop (i + 1)) := by rw [<- hL', hsOf_append]
   have hlE : es.length = (lefts bs ++ esOf L' ++ rights bs).length + 1 := by
    rw [hes0, hesL, hesL', q1]; simp; omega
   have en : IntKind.wrap .i64 (((es.length : Nat) : Int) - 1) = ((es.length - 1 : Nat) : Int) := by rw [wrapI64 (by omega) (by omega)]; omega
   rw [en]
   refine (tset_c g11 hi (top := topx bs k.x) (n := es.length - 1) (d := d + 1) htop hkt (.inr htx) (by omega) (by omega)).mono ?_
   rintro e w8 ⟨s1, rfl, m1, o1, g12⟩
   refine ⟨rfl, ⟨_, Sat.pull g12 4 rfl⟩, ?_⟩
   refine ⟨fun w' => ∃ T, Sat (Row d0 (trc b t) 73 :: T) w', ⟨_, Sat.pull g12.drew 4 rfl⟩, ?_⟩
   refine ⟨_, _, fun w' ⟨T, h⟩ => trv_ld h 0 rfl, ?_⟩
   have g13 : Sat (Own 96 2 lp (L.map Kid.pr).length lc (pairsV (L.map Kid.pr)) :: HeapH (E.H s1) v b :: E.rest s1 :: Way bs wp wc :: Row d0 (trc b t) 73 :: Row d1 [.string (str key)] 9 :: F) w8.drew := by
    rw [List.length_map]; exact Sat.pull g12.drew 2 rfl
   refine (delete_c (i := i) g13 (by rw [List.length_map]; exact hil) (by rw [List.length_map]; omega) (by simp) rfl (by rw [wrapI64 (by omega) (by omega)]; omega)).mono ?_
   rintro e w9 ⟨np, rfl, g14⟩
   refine ⟨_, _, _, rfl, ⟨_, Sat.pull g14 4 rfl⟩, ?_⟩
   have hmap : (L.map Kid.pr).take i ++ (L.map Kid.pr).drop (i + 1) = L'.map Kid.pr := by rw [<- hL', List.map_append, <- List.map_take, <- List.map_drop]
   have hlen' : (L.map Kid.pr).length - 1 = L'.length := by rw [<- hL']; simp; omega
   have hlen2 : L'.length = L.length - 1 := by rw [<- hlen', List.length_map]
   rw [hmap, hlen'] at g14
   rw [hlen']
   have hov : ∀ z, z ≠ t -> E.ov s1 z = E.ov s z := fun z q1 => by rw [o1, updO_ne _ _ q1]
   have hr' : ∀ a ∈ L', Rep (E.ov s1) 0 6 a := by
    intro a ha
    have hm : a ∈ L := by
     rw [<- hL'] at ha
     rcases List.mem_append.1 ha with ha | ha
     ·exact List.mem_of_mem_take ha
     ·exact List.mem_of_mem_drop ha
    exact (hreps a hm).frame fun z hz => hov z fun e => a2 (e ▸ mem_hsOf.2 ⟨a, hm, hz⟩)
   have hsubL : (hsOf L').Sublist (hsOf L) := by
    rw [hhsL', hhsL]
    exact List.Sublist.append (List.Sublist.refl _) (List.sublist_append_right _ _)
   have hsubV : (t :: k.x :: (hsOf L' ++ whs bs)).Sublist (t :: k.x :: (hsOf L ++ whs bs)) := ((hsubL.append (List.Sublist.refl _)).cons_cons _).cons_cons _
   have hnd' := hnd.sublist hsubV
   have hz1 : Zip (E.ov s1) bs 1 (firstK L, k.x) := hz0.frame fun z hz => hov z fun e => a3 (e ▸ hz)
   have hx1 : E.ov s1 k.x = some (nodeO (decide (0 < 0)) (L.map Kid.pr)) := by rw [hov _ (fun e => a1 e.symm)]; exact ho1
   have hgs : GS (E.ov s1) t (es.length - 1) (d + 1) (lefts bs ++ esOf L' ++ rights bs) bs k.x L' 0 (firstK L) :=
    ⟨hz1, hr', hnd', ⟨L.map Kid.pr, hx1, by simpa using hl12⟩, by rw [o1, updO_self], by omega, rfl⟩
   have hcut : Cut (kv es) key (kv (lefts bs) ++ kv (esOf (L.take i))) [(key, ci.x)] (kv (esOf (L.drop (i + 1))) ++ kv (rights bs)) := by
    refine ⟨?_, ?_, ?_, .inr ⟨_, rfl⟩⟩
    ·rw [hes0, hesL]
     have : e0.key = key := by rw [<- hcik]; unfold Kid.key; rw [q1]
     simp [q1, q2, this]
    ·intro a ha
     rcases List.mem_append.1 ha with ha | ha
     ·exact kv_lo hDn.i.1 a ha
     ·exact kv_lo c1 a ha
    ·intro a ha
     rcases List.mem_append.1 ha with ha | ha
     ·exact kv_hi hhi a ha
     ·exact kv_hi hDn.i.2.1 a ha
   have hkv' : kv (lefts bs ++ esOf L' ++ rights bs) = kv (lefts bs) ++ kv (esOf (L.take i)) ++ (kv (esOf (L.drop (i + 1))) ++ kv (rights bs)) := by rw [hesL']; simp
   have hsr' : Srt (lefts bs ++ esOf L' ++ rights bs) := srt_kv.2 (by rw [hkv']; exact hcut.take (srt_kv.1 hT.tree.srt))
   have hex : ∀ e ∈ lefts bs ++ esOf L' ++ rights bs, e.x = 0 ∨ E.ok s1 e.x := by
    intro e he
    refine m1.some (hT.refs e ?_)
    rw [hes0, hesL]
    rw [hesL'] at he
    simp only [List.mem_append] at he ⊢
    rcases he with (he | he | he) | he
    ·exact .inl (.inl he)
    ·exact .inl (.inr (.inl he))
    ·exact .inl (.inr (.inr (.inr he)))
    ·exact .inr he
   have hok1 : ∀ z ∈ t :: k.x :: (hsOf L' ++ whs bs), E.ok s1 z := fun z hz => m1.ok z (hokV z (hsubV.subset hz))
   have g17 : Sat (Own 96 2 np L'.length lc (pairsV (L'.map Kid.pr)) :: Way bs wp wc :: E.S s1 (Row d0 (trc b t) 73 :: Row d1 [.string (str key)] 9 :: F)) w9 := (Sat.pull g14 3 rfl).p1
   refine (shrunk_c g17 m1.inv hgs (by omega) (fun hb => by rw [if_neg hb] at hmin; omega) (fun h => by omega) (m1.ok _ (hokV _ (by simp [hfkm]))) hok1 rfl (by omega) (by omega) (by omega) (by omega) hsr' hex rfl).mono ?_
   rintro e w12 ⟨s3, V, rfl, htr, hst3, g18⟩
   have hst1 := (St.start hi hT.ok).step (V' := t :: k.x :: (hsOf L' ++ whs bs)) m1 (fun z hz hzs => hov z fun e => hz (by rw [e]; exact hT.tmem)) (fun z hz => .inl (hvp.mem_iff.2 (hsubV.subset hz))) hok1
   refine ⟨rfl, s3, lefts bs ++ esOf L' ++ rights bs, V, ci.x, true, _, _, _, rfl, hcut, hkv', .inr ⟨rfl, rfl⟩, ⟨htr, hst3.ok, fun e he => hst3.mv.some (hex e he)⟩, ?_, (outS (outS g18).drop).drop⟩
   have := hst1.trans hst3 fun z hz => hz
   simpa using this
end
end Go.Proofs.YtpicofkhioalkaaGreat
