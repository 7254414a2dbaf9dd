
/- What Make, Count and Get come to; what a search tells. -/
import Derived.Test.YtpicofkhioalkaaGreatTf
import Derived.Test.YtpicofkhioalkaaGreatBt
set_option maxRecDepth 100000
namespace Go.Td
open Go Go.Hm Go.Kd
structure LeafR (ov : Lk) (es : List Ent) (bs : List Fr) (k : Kid) (L : List Kid) : Prop where
 ne : L ≠ []
 eq : es = lefts bs ++ esOf L ++ rights bs
 srt : Srt (esOf L)
 reps : ∀ a ∈ L, Rep ov 0 6 a
 zip : Zip ov bs 1 k.pr
theorem leafR_of {ov : Lk} {I : List Ent -> Kid -> List Ent -> Prop} {d : Nat} {es : List Ent} {c k : Kid} {bs : List Fr} {L : List Kid} (hs : Srt es) (e3 : es = c.es)
  (hDn : Dn ov c (if d = 0 then 1 else 2) I bs k 1) (hkes : k.es = esOf L) (hmin : (if bs = [] then 1 else 6) <= L.length) (hreps : ∀ a ∈ L, Rep ov 0 6 a) : LeafR ov es bs k L := by
 have hL : L ≠ [] := by
  intro e0; rw [e0] at hmin
  split at hmin <;> simp at hmin
 have hes0 : es = lefts bs ++ esOf L ++ rights bs := by rw [e3, hDn.es, hkes]
 have hsrt := hs
 rw [hes0] at hsrt
 exact ⟨hL, hes0, (srt_append.1 (srt_append.1 hsrt).1).2.1, hreps, hDn.zip⟩
theorem depth_le {ov : Lk} {t : Nat} {es : List Ent} {hs : List Nat} (h : Tree ov t es hs) (hn : es.length <= 1000000) : ∃ D x, D <= 8 /\ ov t = some (treeO x es.length D) := by
 rcases h.at_ with ⟨e1, e2, e3⟩ | ⟨d, c, e1, e2, e3, e4⟩
 ·exact ⟨0, 0, by omega, by rw [e3, e1]; rfl⟩
 ·refine ⟨d + 1, c.x, ?_, e1⟩
  have := e2.lenm
  rw [<- e3] at this
  rcases Nat.lt_or_ge d 8 with hd | hd
  ·omega
  ·have h8 : 6 ^ 8 <= 6 ^ d := Nat.pow_le_pow_right (by omega) hd
   rw [if_neg (by omega)] at this
   have : 2 * 6 ^ 8 <= es.length := Nat.le_trans (Nat.mul_le_mul_left _ h8) this
   omega
theorem esOf_one {ov : Lk} {L : List Kid} (h : ∀ c ∈ L, Rep ov 0 6 c) : ∀ c ∈ L, ∃ e, c.es = [e] /\ c.x = e.x /\ c.k = e.kh /\ c.key = e.key /\ ov e.kh = some (keyO e.key) /\ e.key.length <= 16384 := by
 intro c hc
 obtain ⟨e, h1, h2, _, h4, h5⟩ := h c hc
 exact ⟨e, h1, h2, by unfold Kid.k; rw [h1], by unfold Kid.key; rw [h1], h4, h5⟩
theorem found_cut {ov : Lk} {es : List Ent} {bs : List Fr} {k : Kid} {L : List Kid} {key : K} {i : Nat} (h : LeafR ov es bs k L) (hI : InKey key (lefts bs) k (rights bs)) (hAt : At L key i) :
  (∀ a ∈ kv (lefts bs ++ esOf (L.take i)), lt a.1 key = true) /\ (∀ a ∈ kv (esOf (L.drop i) ++ rights bs), lt a.1 key = false) /\ es = (lefts bs ++ esOf (L.take i)) ++ (esOf (L.drop i) ++ rights bs) /\
  (same L key i = false -> ∀ a ∈ kv (esOf (L.drop i) ++ rights bs), lt key a.1 = true) /\ (same L key i = true -> ∃ c, L[i]? = some c /\ c.key = key /\ ∀ a ∈ kv (esOf (L.drop (i + 1)) ++ rights bs), lt key a.1 = true) := by
 obtain ⟨c1, c2, c3⟩ := at_cut hAt h.reps h.srt
 have hspl : L.take i ++ L.drop i = L := List.take_append_drop i L
 have hesL : esOf L = esOf (L.take i) ++ esOf (L.drop i) := (congrArg esOf hspl.symm).trans (esOf_append _ _)
 have hlo : ∀ a ∈ kv (lefts bs ++ esOf (L.take i)), lt a.1 key = true := by
  intro a ha
  rw [kv_append] at ha
  rcases List.mem_append.1 ha with ha | ha
  ·exact kv_lo hI.1 a ha
  ·exact kv_lo c1 a ha
 have hhi : same L key i = false -> ∀ a ∈ kv (esOf (L.drop i) ++ rights bs), lt key a.1 = true := by
  intro hs a ha
  rw [kv_append] at ha
  rcases List.mem_append.1 ha with ha | ha
  ·exact kv_hi (c2 hs) a ha
  ·exact kv_hi hI.2.1 a ha
 have hhi2 : same L key i = true -> ∃ c, L[i]? = some c /\ c.key = key /\ ∀ a ∈ kv (esOf (L.drop (i + 1)) ++ rights bs), lt key a.1 = true := by
  intro hs
  obtain ⟨c, g1, g2, g3⟩ := c3 hs
  refine ⟨c, g1, g2, fun a ha => ?_⟩
  rw [kv_append] at ha
  rcases List.mem_append.1 ha with ha | ha
  ·exact kv_hi g3 a ha
  ·exact kv_hi hI.2.1 a ha
 refine ⟨hlo, ?_, by rw [h.eq, hesL]; simp, hhi, hhi2⟩
 intro a ha
 cases hs : same L key i with
 | false => exact lt_asymm (hhi hs a ha)
 | true =>
  obtain ⟨c, g1, g2, g3⟩ := hhi2 hs
  obtain ⟨sp1, sp2⟩ := split_at g1
  have hd : L.drop i = c :: L.drop (i + 1) := by
   have hil := kget_lt g1
   rw [List.getElem?_eq_getElem hil] at g1
   rw [List.drop_eq_getElem_cons hil]
   simp only [Option.some.injEq] at g1
   rw [g1]
  rw [hd, esOf_cons, List.append_assoc, kv_append] at ha
  rcases List.mem_append.1 ha with ha | ha
  ·obtain ⟨e, he, _, _, hke, _⟩ := esOf_one h.reps c (List.mem_of_getElem? g1)
   rw [he] at ha
   simp only [kv_cons, kv_nil, List.mem_cons, List.not_mem_nil, or_false] at ha
   subst ha
   show lt e.key key = false
   rw [<- hke, g2, lt_irrefl]
  ·exact lt_asymm (g3 a ha)
end Go.Td
namespace Go.Proofs.YtpicofkhioalkaaGreat
open Go Go.Lw Go.Wd Go.Am Go.Tb Go.Hm Go.Kd Go.Td
theorem _root_.Go.Lw.Sat.del {L : List HP} {w : World} {A : HP} (hs : Sat L w) (i : Nat) (hi : L[i]? = some A) : Sat (L.eraseIdx i) w := (hs.pull i hi).drop
theorem LdBQ.row {C : World -> Prop} {b off : Nat} {cs : List Value} {T : TypeId} {a : Addr} {n : Bool} {K : Bool -> Prop} (hC : ∀ w, C w -> ∃ L, Sat (Row b cs T :: L) w) (hc : cs[off]? = some (.bool n)) (ha : a = ⟨b, off, none⟩) (h : K n) : LdBQ C a K :=
 ⟨n, fun w hw => by obtain ⟨L, hL⟩ := hC w hw; exact LdB.of hL 0 rfl hc ha rfl, h⟩
section
variable {H : Hp} {v : Value} {b : Nat} {F : List HP} {w : World}
theorem ofE_tree {t x n d l : Nat} (h : H.ov t = some (treeO x n d)) (hl : l <= 16384) : ofE H t l = 0 := by
 unfold ofE; rw [h]
 simp [treeO, Nat.not_lt.2 hl]
theorem treeof_ok (hs : Sat (HeapH H v b :: F) w) {t : Nat} (kp : Option Addr) (kl kc : Nat) (hE : ofE H t kl = 0) :
  Calls Tryz.prog 40 #[.pointer (some ⟨b, 0, none⟩), .int .u64 (t : Int), .slice kp kl kc] w (Ret (.tuple #[trv b t, .int .i64 0]) (Sat (HeapH H v b :: F))) := by
 have ht : t < 18446744073709551616 := by
  unfold ofE at hE
  cases ho : H.ov t with
  | none => rw [ho] at hE; simp at hE
  | some o => exact ov_lt hs ho
 have h := treeof_c hs ht kp kl kc
 rw [hE, if_pos rfl] at h
 exact h
theorem treeof_no (hs : Sat (HeapH H v b :: F) w) {t : Nat} (ht : t < 18446744073709551616) (kp : Option Addr) (kl kc : Nat) (hE : ofE H t kl ≠ 0) :
  Calls Tryz.prog 40 #[.pointer (some ⟨b, 0, none⟩), .int .u64 (t : Int), .slice kp kl kc] w (Ret (.tuple #[.agg #[.pointer none, .int .u64 0], .int .i64 (ofE H t kl : Nat)]) (Sat (HeapH H v b :: F))) := by
 have h := treeof_c hs ht kp kl kc
 rw [if_neg hE] at h
 exact h
theorem tcnt_c (hs : Sat (HeapH H v b :: F) w) {t : Nat} {es : List Ent} {us : List Nat} (hT : Tree H.ov t es us) (hn : es.length <= 1000000) :
  Calls Tryz.prog 12 #[.pointer (some ⟨b, 0, none⟩), .int .u64 (t : Int)] w (Ret (.tuple #[.int .i64 (es.length : Nat), .int .i64 0]) (Sat (HeapH H v b :: F))) := by
 obtain ⟨D, x, hD, ho⟩ := depth_le hT hn
 refine S_tree_Count_ok _ _ _ _ ?_
 unfold S_tree_Count
 refine NewC.ofRow hs fun b0 w1 h1 => NewC.ofRow h1 fun b1 w2 h2 => ?_
 refine (treeof_ok (h2.pull 2 rfl) _ _ _ (ofE_tree ho (by omega))).mono ?_
 rintro e w3 ⟨rfl, h3⟩
 refine ⟨_, _, _, rfl, ?_⟩
 refine NewC.ofRow h3 fun b2 w4 h4 => ?_
 refine StC.of h4 0 rfl (off := 0) rfl rfl fun w5 h5 => StC.of h5 0 rfl (off := 1) rfl (add_mk _ _ _) fun w6 h6 => ?_
 refine StC.of h6 2 rfl (off := 0) rfl rfl fun w7 h7 => ?_
 refine LdI.of h7 2 rfl (off := 0) rfl rfl (cond_f rfl ?_)
 refine LdP.of h7 0 rfl (off := 0) rfl rfl (LdI.of h7 0 rfl (off := 1) rfl (add_mk _ _ _) ?_)
 refine (tcount_c (Sat.pull h7 1 rfl) ho (by omega)).mono ?_
 rintro e w8 ⟨rfl, h8⟩
 refine ⟨_, rfl, ?_⟩
 refine StC.of h8 3 rfl (off := 0) rfl rfl fun w9 h9 => StC.of h9 2 rfl (off := 0) rfl rfl fun w10 h10 => ?_
 refine LdI.of h10 3 rfl (off := 0) rfl rfl (LdI.of h10 2 rfl (off := 0) rfl rfl ⟨rfl, ?_⟩)
 exact ((h10.del 1 rfl).del 1 rfl).del 1 rfl
end
end Go.Proofs.YtpicofkhioalkaaGreat
/- What Get comes to. -/
set_option maxRecDepth 100000
namespace Go.Proofs.YtpicofkhioalkaaGreat
open Go Go.Lw Go.Wd Go.Am Go.Tb Go.Hm Go.Kd Go.Td
section
variable {H : Hp} {v : Value} {b : Nat} {F : List HP} {w : World}
def GetP (H : Hp) (v : Value) (b : Nat) (F : List HP) (l : KV) (key : K) (e : Ending) (w' : World) : Prop :=
 ∃ (A o C : KV) (x : Nat) (had : Bool), Cut l key A o C /\ (o = [] /\ had = false /\ x = 0 ∨ o = [(key, x)] /\ had = true) /\ e = .returned (.tuple #[.int .u64 (x : Int), .bool had, .int .i64 0]) /\ Sat (HeapH H v b :: F) w'
set_option maxHeartbeats 1000000 in
theorem tget_c (hs : Sat (HeapH H v b :: F) w) {t : Nat} {es : List Ent} {us : List Nat} (hT : Tree H.ov t es us) (hn : es.length <= 1000000) {key : K} (hkl : key.length <= 16384) {kp : Option Addr} {kl kc : Nat} (hl : kl = key.length) (hk : RdB F kp key) :
  Calls Tryz.prog 15 #[.pointer (some ⟨b, 0, none⟩), .int .u64 (t : Int), .slice kp kl kc] w (GetP H v b F (kv es) key) := by
 obtain ⟨D, x, hD, ho⟩ := depth_le hT hn
 refine S_tree_Get_ok _ _ _ _ _ _ _ ?_
 unfold S_tree_Get
 refine NewC.ofRow hs fun b0 w1 h1 => NewC.ofRow h1 fun b1 w2 h2 => NewC.ofRow h2 fun b2 w3 h3 => ?_
 refine (treeof_ok (h3.pull 3 rfl) _ _ _ (ofE_tree ho (by omega))).mono ?_
 rintro e w3 ⟨rfl, h3⟩
 refine ⟨_, _, _, rfl, ?_⟩
 refine NewC.ofRow h3 fun b3 w4 h4 => ?_
 refine StC.of h4 0 rfl (off := 0) rfl rfl fun w5 h5 => StC.of h5 0 rfl (off := 1) rfl (add_mk _ _ _) fun w6 h6 => ?_
 refine StC.of h6 2 rfl (off := 0) rfl rfl fun w7 h7 => ?_
 refine LdI.of h7 2 rfl (off := 0) rfl rfl (cond_f rfl ?_)
 have hk7 : RdB (Row b3 (trc b t) 73 :: HeapH H v b :: Row b2 [.int .i64 0] 31 :: Row b1 [.bool false] 4 :: Row b0 [.int .u64 0] 32 :: F) kp key := hk.tail.tail.tail.tail.tail
 refine hk7.run h7 hl ?_
 refine NewC.ofRow h7 fun b5 w8 h8 => ?_
 refine StC.of h8 0 rfl (off := 0) rfl rfl fun w9 h9 => ?_
 refine LdP.of h9 1 rfl (off := 0) rfl rfl (LdI.of h9 1 rfl (off := 1) rfl (add_mk _ _ _) ?_)
 have g0 : Sat (HeapH H v b :: Row b3 (trc b t) 73 :: Row b5 [.string (str key)] 9 :: Row b2 [.int .i64 0] 31 :: Row b1 [.bool false] 4 :: Row b0 [.int .u64 0] 32 :: F) w9 := Sat.p2 h9 |> fun g => Sat.pull g 2 rfl |> fun g => Sat.p1 g |> fun g => Sat.pull g 0 rfl |> fun g => by
  exact (Sat.pull (Sat.pull h9 1 rfl) 2 rfl)
 have fin : ∀ (xx : Nat) (had : Bool) (w' : World) (L : List HP), (∃ A o C, Cut (kv es) key A o C /\ (o = [] /\ had = false /\ xx = 0 ∨ o = [(key, xx)] /\ had = true)) ->
   Sat (Row b2 [.int .i64 0] 31 :: Row b1 [.bool false] 4 :: Row b0 [.int .u64 0] 32 :: HeapH H v b :: F) w' ->
   StC w' (⟨b0, 0, none⟩) (.int .u64 (xx : Int)) fun w18 => StC w18 (⟨b1, 0, none⟩) (.bool had) fun w19 => StC w19 (⟨b2, 0, none⟩) (.int .i64 0) fun w20 =>
    LdI .u64 w20 (⟨b0, 0, none⟩) fun n9 => LdB w20 (⟨b1, 0, none⟩) fun b7 => LdI .i64 w20 (⟨b2, 0, none⟩) fun n10 => GetP H v b F (kv es) key (.returned (.tuple #[.int .u64 n9, .bool b7, .int .i64 n10])) w20 := by
  rintro xx had w' _ ⟨A, o, C, hc, ho⟩ g
  refine StC.of g 2 rfl (off := 0) rfl rfl fun w5 h5 => StC.of h5 1 rfl (off := 0) rfl rfl fun w6 h6 => StC.of h6 0 rfl (off := 0) rfl rfl fun w7 h7 => ?_
  refine LdI.of h7 2 rfl (off := 0) rfl rfl (LdB.of h7 1 rfl (off := 0) rfl rfl (LdI.of h7 0 rfl (off := 0) rfl rfl ?_))
  exact ⟨A, o, C, xx, had, hc, ho, rfl, h7.drop.drop.drop⟩
 rcases hT.at_ with ⟨e1, e2, e3⟩ | ⟨d, c, e1, e2, e3, e4⟩
 ·refine (down0_c g0 e3 _ _).mono ?_
  rintro e w10 ⟨rfl, h10⟩
  refine ⟨_, _, _, _, _, _, _, rfl, cond_t rfl ?_⟩
  have := fin 0 false w10 [] ⟨[], [], [], ⟨by rw [e1]; rfl, by simp, by simp, .inl rfl⟩, .inl ⟨rfl, rfl, rfl⟩⟩ (Sat.pull (Sat.pull (Sat.pull ((h10.del 1 rfl).del 1 rfl) 3 rfl) 3 rfl) 3 rfl)
  exact this
 ·have hdD : D = d + 1 := by
   rw [ho] at e1
   simp only [treeO, Option.some.injEq, Ov.mk.injEq, List.cons.injEq] at e1
   exact e1.2.2.2.2.1
  have hm0 := sat_wf hs
  have hx0 : c.x ≠ 0 := by
   intro e0
   have := e2.xmem
   have h5 := e2.live c.x this
   rw [e0] at h5
   unfold Hp.ov at h5
   rw [look_zero hm0] at h5
   cases h5
  refine (down_c g0 e1 (by omega) hx0 e2 (by rw [<- e3]; exact hT.srt) choose_get inKey_step ⟨by simp, by simp, .inl rfl⟩).mono ?_
  rintro e w10 ⟨bs, k, L, wp, lp, wc, lc, rfl, hDn, hbl, ho1, hkes, hkhs, hmin, hl12, hreps, hcap, h10⟩
  refine ⟨_, _, _, _, _, _, _, rfl, ?_⟩
  have hLf := leafR_of hT.srt e3 hDn hkes hmin hreps
  have hkx : k.x ≠ 0 := by
   intro e0
   rw [e0] at ho1
   unfold Hp.ov at ho1
   rw [look_zero hm0] at ho1
   cases ho1
  refine cond_f (by simpa using fun h => hkx (by omega)) ?_
  have h11 := Sat.pull h10 2 rfl
  have hlp : L.map Kid.pr ≠ [] -> ∃ a, lp = some a := fun _ => by obtain ⟨g, hg⟩ := h10.own_some 0 rfl (List.length_pos_iff.2 hLf.ne); exact ⟨_, hg⟩
  refine LdP.of h11 3 rfl (off := 0) rfl rfl (LdI.of h11 3 rfl (off := 1) rfl (add_mk _ _ _) (LdStr.of h11 4 rfl (off := 0) rfl rfl ?_))
  refine (tat_c (L := L) h11 (srt_kids hLf.srt fun a ha => (hreps a ha).ne (by omega)) (fun a ha => (hreps a ha).keyOK (by omega)) rfl (by omega) (RdP.own (k := 0) rfl (by simp) hlp)).mono ?_
  rintro e w12 ⟨i, hAt, rfl, h12⟩
  refine ⟨_, _, rfl, ?_⟩
  obtain ⟨f1, f2, f3, f4, f5⟩ := found_cut hLf hDn.i hAt
  have g1 : Sat (Row b2 [.int .i64 0] 31 :: Row b1 [.bool false] 4 :: Row b0 [.int .u64 0] 32 :: HeapH H v b :: F) w12 :=
   Sat.pull (Sat.pull (Sat.pull ((((h12.del 1 rfl).del 1 rfl).del 1 rfl).del 1 rfl) 3 rfl) 3 rfl) 3 rfl
  cases hsm : same L key i with
  | true =>
   refine cond_t rfl ?_
   obtain ⟨ci, hci, hck, hhi⟩ := f5 hsm
   have hgi : (L.map Kid.pr)[i]? = some ci.pr := by rw [List.getElem?_map, hci]; rfl
   refine IdxC.ownAt (k := i) h12 1 rfl (get_lt hci) fun g hg => ?_
   refine LdI.at (n := (ci.x : Int)) (Sat.ownAt h12 1 rfl hg (off := i * 2 + 1) (pairsV_get1 hgi)) ?_
   refine fin ci.x true w12 [] ⟨kv (lefts bs ++ esOf (L.take i)), [(key, ci.x)], kv (esOf (L.drop (i + 1)) ++ rights bs), ⟨?_, f1, hhi, .inr ⟨_, rfl⟩⟩, .inr ⟨rfl, rfl⟩⟩ g1
   obtain ⟨e0, he0, hex, _, hek, _⟩ := esOf_one hreps ci (List.mem_of_getElem? hci)
   have hd : L.drop i = ci :: L.drop (i + 1) := by
    have hil := kget_lt hci
    rw [List.getElem?_eq_getElem hil] at hci
    rw [List.drop_eq_getElem_cons hil]
    simp only [Option.some.injEq] at hci
    rw [hci]
   have : kv es = kv (lefts bs ++ esOf (L.take i)) ++ kv (esOf (L.drop i) ++ rights bs) := by rw [<- kv_append, <- f3]
   rw [this, hd, esOf_cons, he0]
   simp [hex, <- hek, hck]
  | false =>
   refine cond_f rfl ?_
   refine fin 0 false w12 [] ⟨kv (lefts bs ++ esOf (L.take i)), [], kv (esOf (L.drop i) ++ rights bs), ⟨?_, f1, f4 hsm, .inl rfl⟩, .inl ⟨rfl, rfl, rfl⟩⟩ g1
   rw [List.append_nil, <- kv_append, <- f3]
end
end Go.Proofs.YtpicofkhioalkaaGreat
/- What Seek and Last come to. -/
set_option maxRecDepth 100000
namespace Go.Proofs.YtpicofkhioalkaaGreat
open Go Go.Lw Go.Wd Go.Am Go.Tb Go.Hm Go.Kd Go.Td
section
variable {H : Hp} {v : Value} {b : Nat} {F : List HP} {w : World}
def AnsP (H : Hp) (v : Value) (b : Nat) (F : List HP) (o : Option (K × Nat)) (e : Ending) (w' : World) : Prop :=
 match o with
 | none => e = .returned (.tuple #[.slice none 0 0, .int .u64 0, .bool false, .int .i64 0]) /\ Sat (HeapH H v b :: F) w'
 | some q => ∃ g c, e = .returned (.tuple #[.slice (some ⟨g, 0, none⟩) q.1.length c, .int .u64 (q.2 : Int), .bool true, .int .i64 0]) /\ q.1.length <= 16384 /\ Sat (Str 5 (some ⟨g, 0, none⟩) q.1.length c (bytesV q.1) :: HeapH H v b :: F) w'
def SeekP (H : Hp) (v : Value) (b : Nat) (F : List HP) (l : KV) (key : K) (e : Ending) (w' : World) : Prop :=
 ∃ A C : KV, l = A ++ C /\ (∀ a ∈ A, lt a.1 key = true) /\ (∀ c ∈ C, lt c.1 key = false) /\ AnsP H v b F C.head? e w'
def LastP (H : Hp) (v : Value) (b : Nat) (F : List HP) (l : KV) (key : K) (e : Ending) (w' : World) : Prop :=
 ∃ A C : KV, l = A ++ C /\ (key = [] -> C = []) /\ (key ≠ [] -> (∀ a ∈ A, lt a.1 key = true) /\ (∀ c ∈ C, lt c.1 key = false)) /\ AnsP H v b F A.getLast? e w'
abbrev r4 (b0 b1 b2 b3 : Nat) : List HP := [Row b3 [.int .i64 0] 31, Row b2 [.bool false] 4, Row b1 [.int .u64 0] 32, Row b0 [.slice none 0 0] 28]
theorem ans_none {b0 b1 b2 b3 : Nat} {G : List HP} (g : Sat (r4 b0 b1 b2 b3 ++ G) w) {R : Ending -> World -> Prop} (h : ∀ w', Sat G w' -> R (.returned (.tuple #[.slice none 0 0, .int .u64 0, .bool false, .int .i64 0])) w') :
  StC w (⟨b0, 0, none⟩) (.slice none 0 0) fun w16 => StC w16 (⟨b1, 0, none⟩) (.int .u64 0) fun w17 => StC w17 (⟨b2, 0, none⟩) (.bool false) fun w18 => StC w18 (⟨b3, 0, none⟩) (.int .i64 0) fun w19 =>
   LdS w19 (⟨b0, 0, none⟩) fun s1p s1l s1c => LdI .u64 w19 (⟨b1, 0, none⟩) fun n5 => LdB w19 (⟨b2, 0, none⟩) fun b7 => LdI .i64 w19 (⟨b3, 0, none⟩) fun n6 => R (.returned (.tuple #[.slice s1p s1l s1c, .int .u64 n5, .bool b7, .int .i64 n6])) w19 := by
 refine StC.of g 3 rfl (off := 0) rfl rfl fun w5 h5 => StC.of h5 2 rfl (off := 0) rfl rfl fun w6 h6 => StC.of h6 1 rfl (off := 0) rfl rfl fun w7 h7 => StC.of h7 0 rfl (off := 0) rfl rfl fun w8 h8 => ?_
 refine LdS.of h8 3 rfl (off := 0) rfl rfl (LdI.of h8 2 rfl (off := 0) rfl rfl (LdB.of h8 1 rfl (off := 0) rfl rfl (LdI.of h8 0 rfl (off := 0) rfl rfl (h _ ?_))))
 exact h8.drop.drop.drop.drop
theorem ans_some {b0 b1 b2 b3 b4 t : Nat} {R : Ending -> World -> Prop} {L : List Kid} {i : Nat} {lp : Option Addr} {lc : Nat} {ii : Int} {e0 : Ent} {ci : Kid} (g : Sat (Row b4 (trc b t) 73 :: Own 96 2 lp L.length lc (pairsV (L.map Kid.pr)) :: HeapH H v b :: (r4 b0 b1 b2 b3 ++ F)) w)
  (hi : L[i]? = some ci) (hii : ii = i) (hx : ci.x = e0.x) (hk : ci.k = e0.kh) (ho : H.ov e0.kh = some (keyO e0.key)) (hkl : e0.key.length <= 16384)
  (h : ∀ g c w', Sat (Str 5 (some ⟨g, 0, none⟩) e0.key.length c (bytesV e0.key) :: HeapH H v b :: F) w' -> R (.returned (.tuple #[.slice (some ⟨g, 0, none⟩) e0.key.length c, .int .u64 (e0.x : Int), .bool true, .int .i64 0])) w') :
  ∃ C1 : World -> Prop, C1 (World.drew w) /\
  ∃ (p3 : Option Addr), ∃ (n11 : Int), (∀ (w27 : World), C1 w27 -> LdP w27 (⟨b4, 0, none⟩) fun p4 => LdI .u64 w27 (Addr.add (⟨b4, 0, none⟩) 1) fun n12 => Value.agg #[.pointer p4, .int .u64 n12] = .agg #[.pointer p3, .int .u64 n11]) /\
  IdxC lp L.length ii 2 fun a0 => LdIQ .u64 C1 a0 fun n13 => IdxC lp L.length ii 2 fun a1 => LdIQ .u64 C1 (Addr.add a1 1) fun n14 =>
  Calls Tryz.prog 58 #[.agg #[.pointer p3, .int .u64 n11], .int .u64 n13] (World.drew w) fun e4 w28 => ∃ (r9 : ByteArray), e4 = .returned (.string r9) /\ C1 w28 /\
  RunS Tryz.prog (convert 9 28 (.string r9)) w28 fun s3p s3l s3c w29 => C1 w29 /\
  StC w29 (⟨b0, 0, none⟩) (.slice s3p s3l s3c) fun w30 => C1 w30 /\ StC w30 (⟨b1, 0, none⟩) (.int .u64 n14) fun w31 => StC w31 (⟨b2, 0, none⟩) (.bool true) fun w32 => StC w32 (⟨b3, 0, none⟩) (.int .i64 0) fun w33 =>
  LdS w33 (⟨b0, 0, none⟩) fun s4p s4l s4c => LdI .u64 w33 (⟨b1, 0, none⟩) fun n15 => LdB w33 (⟨b2, 0, none⟩) fun b9 => LdI .i64 w33 (⟨b3, 0, none⟩) fun n16 => R (.returned (.tuple #[.slice s4p s4l s4c, .int .u64 n15, .bool b9, .int .i64 n16])) w33 := by
 have hil := get_lt hi
 have hgi : (L.map Kid.pr)[i]? = some ci.pr := by rw [List.getElem?_map, hi]; rfl
 have hgp := g.own_some 1 rfl (by omega)
 obtain ⟨gg, rfl⟩ := hgp
 have hc : ∀ w', (∃ T, Sat (Row b4 (trc b t) 73 :: Own 96 2 (some ⟨gg, 0, none⟩) L.length lc (pairsV (L.map Kid.pr)) :: T) w') -> w'.cell? ⟨gg, i * 2, none⟩ = some (.int .u64 (e0.kh : Int)) /\ w'.cell? (Addr.add ⟨gg, i * 2, none⟩ 1) = some (.int .u64 (e0.x : Int)) := by
  rintro w' ⟨T, h⟩
  refine ⟨?_, ?_⟩
  ·rw [h.ownCell 1 rfl (pairsV_get0 hgi)]; show some (Value.int .u64 (ci.k : Int)) = _; rw [hk]
  ·rw [add_mk, h.ownCell 1 rfl (pairsV_get1 hgi)]; show some (Value.int .u64 (ci.x : Int)) = _; rw [hx]
 subst hii
 refine ⟨fun w' => ∃ T, Sat (Row b4 (trc b t) 73 :: Own 96 2 (some ⟨gg, 0, none⟩) L.length lc (pairsV (L.map Kid.pr)) :: T) w', ⟨_, g.drew⟩, ?_⟩
 refine ⟨_, _, fun w' ⟨T, h⟩ => trv_ld h 0 rfl, ?_⟩
 refine IdxC.of (by omega) (by omega) ?_
 rw [Int.toNat_natCast, Nat.zero_add]
 refine ⟨(e0.kh : Int), fun w' hw => ⟨_, (hc w' hw).1, rfl⟩, ?_⟩
 refine IdxC.of (by omega) (by omega) ?_
 rw [Int.toNat_natCast, Nat.zero_add]
 refine ⟨(e0.x : Int), fun w' hw => ⟨_, (hc w' hw).2, rfl⟩, ?_⟩
 refine (tkey_c (Sat.pull g.drew 2 rfl) t hkl ho).mono ?_
 rintro e w28 ⟨rfl, h1⟩
 have h1 := Sat.pull (Sat.pull h1 2 rfl) 2 rfl
 refine ⟨_, rfl, ⟨_, h1⟩, ?_⟩
 refine ofStr_c h1 (by omega) fun g3 c3 w29 h2 => ?_
 have h2 := Sat.pull (Sat.pull h2 2 rfl) 2 rfl
 refine ⟨⟨_, h2⟩, ?_⟩
 refine StC.of h2 7 rfl (off := 0) rfl rfl fun w30 h3 => ⟨⟨_, h3⟩, StC.of h3 6 rfl (off := 0) rfl rfl fun w31 h4 => StC.of h4 5 rfl (off := 0) rfl rfl fun w32 h5 => StC.of h5 4 rfl (off := 0) rfl rfl fun w33 h6 => ?_⟩
 refine LdS.of h6 7 rfl (off := 0) rfl rfl (LdI.of h6 6 rfl (off := 0) rfl rfl (LdB.of h6 5 rfl (off := 0) rfl rfl (LdI.of h6 4 rfl (off := 0) rfl rfl (h _ _ _ ?_))))
 exact ((((h6.drop.drop).del 2 rfl).del 2 rfl).del 2 rfl).del 2 rfl
theorem xne {ov : Lk} {d m : Nat} {c : Kid} (h0 : ov 0 = none) (h : Rep ov (d + 1) m c) : c.x ≠ 0 := by
 intro e0
 have h5 := h.live c.x h.xmem
 rw [e0, h0] at h5
 cases h5
theorem ov_zero (hm : H.WF) : H.ov 0 = none := by unfold Hp.ov; rw [look_zero hm]; rfl
theorem head_esOf {ov : Lk} {L : List Kid} {c : Kid} {r : List Kid} (hL : L = c :: r) (h : ∀ a ∈ L, Rep ov 0 6 a) {rest : List Ent} : ∃ e0 : Ent, (kv (esOf L ++ rest)).head? = some (e0.key, e0.x) /\ c.x = e0.x /\ c.k = e0.kh /\ ov e0.kh = some (keyO e0.key) /\ e0.key.length <= 16384 := by
 subst hL
 obtain ⟨e, h1, h2, h3, h4, h5, h6⟩ := esOf_one h c (by simp)
 exact ⟨e, by simp [h1], h2, h3, h5, h6⟩
theorem last_esOf {ov : Lk} {L : List Kid} {c : Kid} {r : List Kid} (hL : L = r ++ [c]) (h : ∀ a ∈ L, Rep ov 0 6 a) {rest : List Ent} : ∃ e0 : Ent, (kv (rest ++ esOf L)).getLast? = some (e0.key, e0.x) /\ c.x = e0.x /\ c.k = e0.kh /\ ov e0.kh = some (keyO e0.key) /\ e0.key.length <= 16384 := by
 subst hL
 obtain ⟨e, h1, h2, h3, h4, h5, h6⟩ := esOf_one h c (by simp)
 refine ⟨e, ?_, h2, h3, h5, h6⟩
 simp [h1, <- List.append_assoc]
set_option maxHeartbeats 1000000 in
theorem tseek_c (hs : Sat (HeapH H v b :: F) w) {t : Nat} {es : List Ent} {us : List Nat} (hT : Tree H.ov t es us) (hn : es.length <= 1000000) {key : K} (hkl : key.length <= 16384) {kp : Option Addr} {kl kc : Nat} (hl : kl = key.length) (hk : RdB F kp key) :
  Calls Tryz.prog 13 #[.pointer (some ⟨b, 0, none⟩), .int .u64 (t : Int), .slice kp kl kc] w (SeekP H v b F (kv es) key) := by
 obtain ⟨D, x, hD, ho⟩ := depth_le hT hn
 refine S_tree_Seek_ok _ _ _ _ _ _ _ ?_
 unfold S_tree_Seek
 refine NewC.ofRow hs fun b0 w1 h1 => NewC.ofRow h1 fun b1 w2 h2 => NewC.ofRow h2 fun b2 w3 h3 => NewC.ofRow h3 fun b3 w4 h4 => ?_
 refine (treeof_ok (h4.pull 4 rfl) _ _ _ (ofE_tree ho (by omega))).mono ?_
 rintro e w3 ⟨rfl, h3⟩
 refine ⟨_, _, _, rfl, ?_⟩
 refine NewC.ofRow h3 fun b4 w4 h4 => ?_
 refine StC.of h4 0 rfl (off := 0) rfl rfl fun w5 h5 => StC.of h5 0 rfl (off := 1) rfl (add_mk _ _ _) fun w6 h6 => ?_
 refine StC.of h6 2 rfl (off := 0) rfl rfl fun w7 h7 => ?_
 refine LdI.of h7 2 rfl (off := 0) rfl rfl (cond_f rfl ?_)
 have hk7 : RdB (Row b4 (trc b t) 73 :: HeapH H v b :: (r4 b0 b1 b2 b3 ++ F)) kp key := hk.tail.tail.tail.tail.tail.tail
 refine hk7.run h7 hl ?_
 refine NewC.ofRow h7 fun b6 w8 h8 => ?_
 refine StC.of h8 0 rfl (off := 0) rfl rfl fun w9 h9 => ?_
 refine LdP.of h9 1 rfl (off := 0) rfl rfl (LdI.of h9 1 rfl (off := 1) rfl (add_mk _ _ _) ?_)
 have g0 : Sat (HeapH H v b :: Row b4 (trc b t) 73 :: Row b6 [.string (str key)] 9 :: (r4 b0 b1 b2 b3 ++ F)) w9 := Sat.pull (Sat.pull h9 1 rfl) 2 rfl
 have hz := ov_zero (sat_wf hs)
 rcases hT.at_ with ⟨e1, e2, e3⟩ | ⟨d, c, e1, e2, e3, e4⟩
 ·refine (down0_c g0 e3 _ _).mono ?_
  rintro e w10 ⟨rfl, h10⟩
  refine ⟨_, _, _, _, _, _, _, rfl, cond_t rfl ?_⟩
  have h11 := (h10.del 1 rfl).del 1 rfl
  refine ans_none (G := HeapH H v b :: F) (Sat.pull (Sat.pull (Sat.pull (Sat.pull h11 4 rfl) 4 rfl) 4 rfl) 4 rfl) fun w' h' => ?_
  exact ⟨[], [], by rw [e1]; rfl, by simp, by simp, rfl, h'⟩
 ·have hdD : D = d + 1 := by
   rw [ho] at e1
   simp only [treeO, Option.some.injEq, Ov.mk.injEq, List.cons.injEq] at e1
   exact e1.2.2.2.2.1
  refine (down_c g0 e1 (by omega) (xne hz e2) e2 (by rw [<- e3]; exact hT.srt) choose_seek inKey_step ⟨by simp, by simp, .inl rfl⟩).mono ?_
  rintro e w10 ⟨bs, k, L, wp, lp, wc, lc, rfl, hDn, hbl, ho1, hkes, hkhs, hmin, hl12, hreps, hcap, h10⟩
  refine ⟨_, _, _, _, _, _, _, rfl, ?_⟩
  have hLf := leafR_of hT.srt e3 hDn hkes hmin hreps
  have hkx : k.x ≠ 0 := fun e0 => by rw [e0, hz] at ho1; cases ho1
  refine cond_f (by simpa using fun h => hkx (by omega)) ?_
  have h11 := Sat.pull h10 2 rfl
  have hlp : L.map Kid.pr ≠ [] -> ∃ a, lp = some a := fun _ => by obtain ⟨g, hg⟩ := h10.own_some 0 rfl (List.length_pos_iff.2 hLf.ne); exact ⟨_, hg⟩
  refine LdP.of h11 3 rfl (off := 0) rfl rfl (LdI.of h11 3 rfl (off := 1) rfl (add_mk _ _ _) (LdStr.of h11 4 rfl (off := 0) rfl rfl ?_))
  refine (tat_c (L := L) h11 (srt_kids hLf.srt fun a ha => (hreps a ha).ne (by omega)) (fun a ha => (hreps a ha).keyOK (by omega)) rfl (by omega) (RdP.own (k := 0) rfl (by simp) hlp)).mono ?_
  rintro e w12 ⟨i, hAt, rfl, h12⟩
  refine ⟨_, _, rfl, ?_⟩
  obtain ⟨f1, f2, f3, f4, f5⟩ := found_cut hLf hDn.i hAt
  have hkv : kv es = kv (lefts bs ++ esOf (L.take i)) ++ kv (esOf (L.drop i) ++ rights bs) := by rw [<- kv_append, <- f3]
  intro k0 hk0
  by_cases hil : i = L.length
  ·have hdr : L.drop i = [] := List.drop_eq_nil_of_le (by omega)
   rw [hdr, esOf_nil, List.nil_append] at hkv f2
   refine cond_t (by simp; omega) ?_
   have h13 : Sat (Way bs wp wc :: HeapH H v b :: Row b4 (trc b t) 73 :: (r4 b0 b1 b2 b3 ++ F)) w12 := Sat.pull ((h12.del 1 rfl).del 3 rfl) 1 rfl
   refine LdP.of h13 2 rfl (off := 0) rfl rfl (LdI.of h13 2 rfl (off := 1) rfl (add_mk _ _ _) ?_)
   refine (beside_c (fw := true) h13 t rfl hLf.zip (by omega)).mono ?_
   rintro e w14 (⟨hn0, rfl, h14⟩ | ⟨L', lp', lc', hne', hl', hedge, hr', rfl, h14⟩)
   ·refine ⟨_, _, _, rfl, cond_t rfl ?_⟩
    have h15 := h14.del 1 rfl
    refine ans_none (G := HeapH H v b :: F) (Sat.pull (Sat.pull (Sat.pull (Sat.pull h15 4 rfl) 4 rfl) 4 rfl) 4 rfl) fun w' h' => ?_
    have hn0 : rights bs = [] := hn0
    rw [hn0] at hkv
    exact ⟨_, [], hkv, f1, by simp, rfl, h'⟩
   ·refine ⟨_, _, _, rfl, cond_f ?_ (hk0 _ _ _ _ _ ?_)⟩
    ·have := List.length_pos_iff.2 hne'
     simp; omega
    ·obtain ⟨c', r', hL'⟩ := List.exists_cons_of_ne_nil hne'
     obtain ⟨rest, hrest⟩ := hedge
     have hrest : rights bs = esOf L' ++ rest := hrest
     obtain ⟨e0, q1, q2, q3, q4, q5⟩ := head_esOf (rest := rest) hL' hr'
     unfold S_tree_Seek_j0
     refine ans_some (i := 0) (F := F) (Sat.pull h14 2 rfl) (by rw [hL']; rfl) rfl q2 q3 q4 q5 fun g cc w' h' => ?_
     refine ⟨_, _, hkv, f1, f2, ?_⟩
     rw [hrest, q1]
     exact ⟨g, cc, rfl, q5, h'⟩
  ·have hil2 : i < L.length := by have := hAt.1; omega
   refine cond_f (by simp; omega) (hk0 _ _ _ _ _ ?_)
   obtain ⟨ci, hci⟩ : ∃ ci, L[i]? = some ci := ⟨_, List.getElem?_eq_getElem hil2⟩
   have hd : L.drop i = ci :: L.drop (i + 1) := by
    have hci' := hci
    rw [List.getElem?_eq_getElem hil2] at hci'
    rw [List.drop_eq_getElem_cons hil2]
    simp only [Option.some.injEq] at hci'
    rw [hci']
   have hrd : ∀ a ∈ L.drop i, Rep H.ov 0 6 a := fun a ha => hreps a (List.mem_of_mem_drop ha)
   obtain ⟨e0, q1, q2, q3, q4, q5⟩ := head_esOf (rest := rights bs) hd hrd
   unfold S_tree_Seek_j0
   refine ans_some (i := i) (F := F) (Sat.pull (Sat.pull ((h12.del 2 rfl).del 3 rfl) 1 rfl) 2 rfl) hci rfl q2 q3 q4 q5 fun g cc w' h' => ?_
   refine ⟨_, _, hkv, f1, f2, ?_⟩
   rw [q1]
   exact ⟨g, cc, rfl, q5, h'⟩
end
end Go.Proofs.YtpicofkhioalkaaGreat
/- What Last comes to. -/
set_option maxRecDepth 100000
namespace Go.Proofs.YtpicofkhioalkaaGreat
open Go Go.Lw Go.Wd Go.Am Go.Tb Go.Hm Go.Kd Go.Td
def InLast (key : K) (le : List Ent) (k : Kid) (ri : List Ent) : Prop := if key = [] then ri = [] else InKey key le k ri
theorem inLast_step {key : K} : ∀ le k ri X a Y, InLast key le k ri -> k.es = esOf (X ++ a :: Y) -> ByLast key X a Y -> InLast key (le ++ esOf X) a (esOf Y ++ ri) := by
 intro le k ri X a Y h1 h2 h3
 unfold InLast ByLast at *
 by_cases hk : key = []
 ·rw [if_pos hk] at h1 h3 ⊢
  rw [h3.1, h1]; rfl
 ·rw [if_neg hk] at h1 h3 ⊢
  exact inKey_step le k ri X a Y h1 h2 h3
section
variable {H : Hp} {v : Value} {b : Nat} {F : List HP} {w : World}
set_option maxHeartbeats 1000000 in
theorem tlast_c (hs : Sat (HeapH H v b :: F) w) {t : Nat} {es : List Ent} {us : List Nat} (hT : Tree H.ov t es us) (hn : es.length <= 1000000) {key : K} (hkl : key.length <= 16384) {kp : Option Addr} {kl kc : Nat} (hl : kl = key.length) (hk : RdB F kp key) :
  Calls Tryz.prog 14 #[.pointer (some ⟨b, 0, none⟩), .int .u64 (t : Int), .slice kp kl kc] w (LastP H v b F (kv es) key) := by
 obtain ⟨D, x, hD, ho⟩ := depth_le hT hn
 refine S_tree_Last_ok _ _ _ _ _ _ _ ?_
 unfold S_tree_Last
 refine NewC.ofRow hs fun b0 w1 h1 => NewC.ofRow h1 fun b1 w2 h2 => NewC.ofRow h2 fun b2 w3 h3 => NewC.ofRow h3 fun b3 w4 h4 => ?_
 refine (treeof_ok (h4.pull 4 rfl) _ _ _ (ofE_tree ho (by omega))).mono ?_
 rintro e w3 ⟨rfl, h3⟩
 refine ⟨_, _, _, rfl, ?_⟩
 refine NewC.ofRow h3 fun b4 w4 h4 => ?_
 refine StC.of h4 0 rfl (off := 0) rfl rfl fun w5 h5 => StC.of h5 0 rfl (off := 1) rfl (add_mk _ _ _) fun w6 h6 => ?_
 refine StC.of h6 2 rfl (off := 0) rfl rfl fun w7 h7 => ?_
 refine LdI.of h7 2 rfl (off := 0) rfl rfl (cond_f rfl ?_)
 have hk7 : RdB (Row b4 (trc b t) 73 :: HeapH H v b :: (r4 b0 b1 b2 b3 ++ F)) kp key := hk.tail.tail.tail.tail.tail.tail
 refine hk7.run h7 hl ?_
 refine NewC.ofRow h7 fun b6 w8 h8 => ?_
 refine StC.of h8 0 rfl (off := 0) rfl rfl fun w9 h9 => ?_
 refine LdP.of h9 1 rfl (off := 0) rfl rfl (LdI.of h9 1 rfl (off := 1) rfl (add_mk _ _ _) ?_)
 have g0 : Sat (HeapH H v b :: Row b4 (trc b t) 73 :: Row b6 [.string (str key)] 9 :: (r4 b0 b1 b2 b3 ++ F)) w9 := Sat.pull (Sat.pull h9 1 rfl) 2 rfl
 have hz := ov_zero (sat_wf hs)
 rcases hT.at_ with ⟨e1, e2, e3⟩ | ⟨d, c, e1, e2, e3, e4⟩
 ·refine (down0_c g0 e3 _ _).mono ?_
  rintro e w10 ⟨rfl, h10⟩
  refine ⟨_, _, _, _, _, _, _, rfl, cond_t rfl ?_⟩
  have h11 := (h10.del 1 rfl).del 1 rfl
  refine ans_none (G := HeapH H v b :: F) (Sat.pull (Sat.pull (Sat.pull (Sat.pull h11 4 rfl) 4 rfl) 4 rfl) 4 rfl) fun w' h' => ?_
  exact ⟨[], [], by rw [e1]; rfl, fun _ => rfl, fun _ => ⟨by simp, by simp⟩, rfl, h'⟩
 ·have hdD : D = d + 1 := by
   rw [ho] at e1
   simp only [treeO, Option.some.injEq, Ov.mk.injEq, List.cons.injEq] at e1
   exact e1.2.2.2.2.1
  refine (down_c g0 e1 (by omega) (xne hz e2) e2 (by rw [<- e3]; exact hT.srt) choose_last inLast_step (by unfold InLast; split; rfl; exact ⟨by simp, by simp, .inl rfl⟩)).mono ?_
  rintro e w10 ⟨bs, k, L, wp, lp, wc, lc, rfl, hDn, hbl, ho1, hkes, hkhs, hmin, hl12, hreps, hcap, h10⟩
  refine ⟨_, _, _, _, _, _, _, rfl, ?_⟩
  have hLf := leafR_of hT.srt e3 hDn hkes hmin hreps
  have hkx : k.x ≠ 0 := fun e0 => by rw [e0, hz] at ho1; cases ho1
  refine cond_f (by simpa using fun h => hkx (by omega)) ?_
  have h11 := Sat.pull h10 2 rfl
  have hlp : L.map Kid.pr ≠ [] -> ∃ a, lp = some a := fun _ => by obtain ⟨g, hg⟩ := h10.own_some 0 rfl (List.length_pos_iff.2 hLf.ne); exact ⟨_, hg⟩
  have hI := hDn.i
  have hL0 := List.length_pos_iff.2 hLf.ne
  have tell : ∀ (i : Nat) (A C : KV) w', 0 < i -> i <= L.length -> A = kv (lefts bs ++ esOf (L.take i)) -> kv es = A ++ C -> (key = [] -> C = []) -> (key ≠ [] -> (∀ a ∈ A, lt a.1 key = true) /\ (∀ c ∈ C, lt c.1 key = false)) ->
    Sat (Row b4 (trc b t) 73 :: Own 96 2 lp L.length lc (pairsV (L.map Kid.pr)) :: HeapH H v b :: (r4 b0 b1 b2 b3 ++ F)) w' -> S_tree_Last_j0 (LastP H v b F (kv es) key) b0 b1 b2 b3 b4 lp L.length (i : Int) w' := by
   intro i A C w' hi0 hil hA hAC hc1 hc2 g
   unfold S_tree_Last_j0
   refine cond_f (by simp; omega) ?_
   obtain ⟨ci, hci⟩ : ∃ ci, L[i - 1]? = some ci := ⟨_, List.getElem?_eq_getElem (by omega)⟩
   have htk : L.take i = L.take (i - 1) ++ [ci] := by
    have : i = i - 1 + 1 := by omega
    rw [this, List.take_add_one, hci]; rfl
   obtain ⟨e0, q1, q2, q3, q4, q5⟩ := last_esOf (rest := lefts bs) htk (fun a ha => hreps a (List.mem_of_mem_take ha))
   rw [show IntKind.wrap .i64 ((i : Int) - 1) = ((i - 1 : Nat) : Int) by rw [wrapI64 (by omega) (by omega)]; omega]
   refine ans_some (i := i - 1) (F := F) g hci rfl q2 q3 q4 q5 fun g cc w' h' => ?_
   refine ⟨A, C, hAC, hc1, hc2, ?_⟩
   rw [hA, q1]
   exact ⟨g, cc, rfl, q5, h'⟩
  intro k0 hk0
  by_cases hkn : key = []
  ·refine LdStr.of h11 4 rfl (off := 0) rfl rfl ?_
   rw [str_nil]
   refine cond_f (by simp [hkn]) (hk0 _ _ ?_)
   unfold S_tree_Last_j1
   intro k1 hk1
   refine cond_f (by simpa using hLf.ne) (hk1 _ _ _ _ _ ?_)
   have hr : rights bs = [] := by unfold InLast at hI; rw [if_pos hkn] at hI; exact hI
   refine tell L.length (kv es) [] w10 hL0 (Nat.le_refl _) ?_ (by simp) (fun _ => rfl) (fun h => absurd hkn h) ?_
   ·rw [List.take_length, hLf.eq, hr, List.append_nil]
   ·exact Sat.pull (Sat.pull (((h11.del 2 rfl).del 3 rfl)) 1 rfl) 2 rfl
  ·refine LdStr.of h11 4 rfl (off := 0) rfl rfl ?_
   rw [str_nil]
   refine cond_t (by simp [hkn]) ?_
   refine LdP.of h11 3 rfl (off := 0) rfl rfl (LdI.of h11 3 rfl (off := 1) rfl (add_mk _ _ _) (LdStr.of h11 4 rfl (off := 0) rfl rfl ?_))
   refine (tat_c (L := L) h11 (srt_kids hLf.srt fun a ha => (hreps a ha).ne (by omega)) (fun a ha => (hreps a ha).keyOK (by omega)) rfl (by omega) (RdP.own (k := 0) rfl (by simp) hlp)).mono ?_
   rintro e w12 ⟨i, hAt, rfl, h12⟩
   refine ⟨_, _, rfl, hk0 _ _ ?_⟩
   have hI : InKey key (lefts bs) k (rights bs) := by unfold InLast at hI; rw [if_neg hkn] at hI; exact hI
   obtain ⟨f1, f2, f3, f4, f5⟩ := found_cut hLf hI hAt
   have hkv : kv es = kv (lefts bs ++ esOf (L.take i)) ++ kv (esOf (L.drop i) ++ rights bs) := by rw [<- kv_append, <- f3]
   unfold S_tree_Last_j1
   intro k1 hk1
   by_cases hi0 : i = 0
   ·subst hi0
    refine cond_t rfl ?_
    have h13 : Sat (Way bs wp wc :: HeapH H v b :: Row b4 (trc b t) 73 :: (r4 b0 b1 b2 b3 ++ F)) w12 := Sat.pull ((h12.del 1 rfl).del 3 rfl) 1 rfl
    refine LdP.of h13 2 rfl (off := 0) rfl rfl (LdI.of h13 2 rfl (off := 1) rfl (add_mk _ _ _) ?_)
    refine (beside_c (fw := false) h13 t rfl hLf.zip (by omega)).mono ?_
    have f1 : ∀ a ∈ kv (lefts bs), lt a.1 key = true := by simpa using f1
    have hkv : kv es = kv (lefts bs) ++ kv (esOf (L.drop 0) ++ rights bs) := by simpa using hkv
    rintro e w14 (⟨hn0, rfl, h14⟩ | ⟨L', lp', lc', hne', hl', hedge, hr', rfl, h14⟩)
    ·refine ⟨_, _, _, rfl, hk1 _ _ _ _ _ ?_⟩
     unfold S_tree_Last_j0
     refine cond_t rfl ?_
     have h15 := h14.del 1 rfl
     refine ans_none (G := HeapH H v b :: F) (Sat.pull (Sat.pull (Sat.pull (Sat.pull h15 4 rfl) 4 rfl) 4 rfl) 4 rfl) fun w' h' => ?_
     have hn0 : lefts bs = [] := hn0
     rw [hn0] at hkv
     exact ⟨[], _, hkv, fun h => absurd h hkn, fun _ => ⟨by simp, f2⟩, rfl, h'⟩
    ·refine ⟨_, _, _, rfl, hk1 _ _ _ _ _ ?_⟩
     have hl0 := List.length_pos_iff.2 hne'
     obtain ⟨r', c', hL'⟩ : ∃ r c, L' = r ++ [c] := ⟨L'.dropLast, L'.getLast hne', (List.dropLast_concat_getLast hne').symm⟩
     obtain ⟨rest, hrest⟩ := hedge
     have hrest : lefts bs = rest ++ esOf L' := hrest
     obtain ⟨e0, q1, q2, q3, q4, q5⟩ := last_esOf (rest := rest) hL' hr'
     unfold S_tree_Last_j0
     refine cond_f (by simp; omega) ?_
     rw [show IntKind.wrap .i64 (((L'.length : Nat) : Int) - 1) = ((r'.length : Nat) : Int) by rw [wrapI64 (by omega) (by omega), hL']; simp]
     refine ans_some (i := r'.length) (F := F) (Sat.pull h14 2 rfl) (by rw [hL']; simp) rfl q2 q3 q4 q5 fun g cc w' h' => ?_
     refine ⟨_, _, hkv, fun h => absurd h hkn, fun _ => ⟨f1, f2⟩, ?_⟩
     rw [hrest, q1]
     exact ⟨g, cc, rfl, q5, h'⟩
   ·refine cond_f (by simp; omega) (hk1 _ _ _ _ _ ?_)
    exact tell i _ _ w12 (by omega) hAt.1 rfl hkv (fun h => absurd h hkn) (fun _ => ⟨f1, f2⟩) (Sat.pull (Sat.pull (((h12.del 2 rfl).del 3 rfl)) 1 rfl) 2 rfl)
end
end Go.Proofs.YtpicofkhioalkaaGreat
