
/- What Get comes to. -/
import Derived.Test.YtpicofkhioalkaaGreatEa
set_option maxRecDepth 100000
namespace Go.Proofs.YtpicofkhioalkaaGreat
open Go Go.Lw Go.Wd Go.Am Go.Tb Go.Hm Go.Kd Go.Td
section
variable {H : Hp} {v : Value} {b : Nat} {F : List HP} {w : World}
/-- what Get answers. -/
def GetP (H : Hp) (v : Value) (b : Nat) (F : List HP) (l : KV) (key : K) (e : Ending) (w' : World) : Prop :=
  ∃ (A o C : KV) (x : Nat) (had : Bool), Cut l key A o C ∧ (o = [] ∧ had = false ∧ x = 0 ∨ o = [(key, x)] ∧ had = true) ∧ e = .returned (.tuple #[.int .u64 (x : Int), .bool had, .int .i64 0]) ∧ Sat (HeapH H v b :: F) w'
set_option maxHeartbeats 1000000 in
theorem tget_c (hs : Sat (HeapH H v b :: F) w) {t : Nat} {es : List Ent} {us : List Nat} (hT : Tree H.ov t es us) (hn : es.length ≤ 1000000) {key : K} (hkl : key.length ≤ 16384) {kp : Option Addr} {kl kc : Nat} (hl : kl = key.length) (hk : RdB F kp key) :
    Calls Tryz.prog 15 #[.pointer (some ⟨b, 0, none⟩), .int .u64 (t : Int), .slice kp kl kc] w (GetP H v b F (kv es) key) := by
  obtain ⟨D, x, hD, ho⟩ := depth_le hT hn
  refine S_tree_Get_ok _ _ _ _ _ _ _ ?_
  unfold S_tree_Get
  refine NewC.ofRow hs fun b0 w1 h1 => NewC.ofRow h1 fun b1 w2 h2 => NewC.ofRow h2 fun b2 w3 h3 => ?_
  refine (treeof_ok (h3.pull 3 rfl) _ _ _ (ofE_tree ho (by omega))).mono ?_
  rintro e w3 ⟨rfl, h3⟩
  refine ⟨_, _, _, rfl, ?_⟩
  refine NewC.ofRow h3 fun b3 w4 h4 => ?_
  refine StC.of h4 0 rfl (off := 0) rfl rfl fun w5 h5 => StC.of h5 0 rfl (off := 1) rfl (add_mk _ _ _) fun w6 h6 => ?_
  refine StC.of h6 2 rfl (off := 0) rfl rfl fun w7 h7 => ?_
  refine LdI.of h7 2 rfl (off := 0) rfl rfl (cond_f rfl ?_)
  have hk7 : RdB (Row b3 (trc b t) 73 :: HeapH H v b :: Row b2 [.int .i64 0] 31 :: Row b1 [.bool false] 4 :: Row b0 [.int .u64 0] 32 :: F) kp key := hk.tail.tail.tail.tail.tail
  refine hk7.run h7 hl ?_
  refine NewC.ofRow h7 fun b5 w8 h8 => ?_
  refine StC.of h8 0 rfl (off := 0) rfl rfl fun w9 h9 => ?_
  refine LdP.of h9 1 rfl (off := 0) rfl rfl (LdI.of h9 1 rfl (off := 1) rfl (add_mk _ _ _) ?_)
  have g0 : Sat (HeapH H v b :: Row b3 (trc b t) 73 :: Row b5 [.string (str key)] 9 :: Row b2 [.int .i64 0] 31 :: Row b1 [.bool false] 4 :: Row b0 [.int .u64 0] 32 :: F) w9 := Sat.p2 h9 |> fun g => Sat.pull g 2 rfl |> fun g => Sat.p1 g |> fun g => Sat.pull g 0 rfl |> fun g => by
    exact (Sat.pull (Sat.pull h9 1 rfl) 2 rfl)
  -- how it ends
  have fin : ∀ (xx : Nat) (had : Bool) (w' : World) (L : List HP), (∃ A o C, Cut (kv es) key A o C ∧ (o = [] ∧ had = false ∧ xx = 0 ∨ o = [(key, xx)] ∧ had = true)) →
      Sat (Row b2 [.int .i64 0] 31 :: Row b1 [.bool false] 4 :: Row b0 [.int .u64 0] 32 :: HeapH H v b :: F) w' →
      StC w' (⟨b0, 0, none⟩) (.int .u64 (xx : Int)) fun w18 => StC w18 (⟨b1, 0, none⟩) (.bool had) fun w19 => StC w19 (⟨b2, 0, none⟩) (.int .i64 0) fun w20 =>
        LdI .u64 w20 (⟨b0, 0, none⟩) fun n9 => LdB w20 (⟨b1, 0, none⟩) fun b7 => LdI .i64 w20 (⟨b2, 0, none⟩) fun n10 => GetP H v b F (kv es) key (.returned (.tuple #[.int .u64 n9, .bool b7, .int .i64 n10])) w20 := by
    rintro xx had w' _ ⟨A, o, C, hc, ho⟩ g
    refine StC.of g 2 rfl (off := 0) rfl rfl fun w5 h5 => StC.of h5 1 rfl (off := 0) rfl rfl fun w6 h6 => StC.of h6 0 rfl (off := 0) rfl rfl fun w7 h7 => ?_
    refine LdI.of h7 2 rfl (off := 0) rfl rfl (LdB.of h7 1 rfl (off := 0) rfl rfl (LdI.of h7 0 rfl (off := 0) rfl rfl ?_))
    exact ⟨A, o, C, xx, had, hc, ho, rfl, h7.drop.drop.drop⟩
  rcases hT.at_ with ⟨e1, e2, e3⟩ | ⟨d, c, e1, e2, e3, e4⟩
  · refine (down0_c g0 e3 _ _).mono ?_
    rintro e w10 ⟨rfl, h10⟩
    refine ⟨_, _, _, _, _, _, _, rfl, cond_t rfl ?_⟩
    have := fin 0 false w10 [] ⟨[], [], [], ⟨by rw [e1]; rfl, by simp, by simp, .inl rfl⟩, .inl ⟨rfl, rfl, rfl⟩⟩ (Sat.pull (Sat.pull (Sat.pull ((h10.del 1 rfl).del 1 rfl) 3 rfl) 3 rfl) 3 rfl)
    exact this
  · have hdD : D = d + 1 := by
      rw [ho] at e1
      simp only [treeO, Option.some.injEq, Ov.mk.injEq, List.cons.injEq] at e1
      exact e1.2.2.2.2.1
    have hm0 := sat_wf hs
    have hx0 : c.x ≠ 0 := by
      intro e0
      have := e2.xmem
      have h5 := e2.live c.x this
      rw [e0] at h5
      unfold Hp.ov at h5
      rw [look_zero hm0] at h5
      cases h5
    refine (down_c g0 e1 (by omega) hx0 e2 (by rw [← e3]; exact hT.srt) choose_get inKey_step ⟨by simp, by simp, .inl rfl⟩).mono ?_
    rintro e w10 ⟨bs, k, L, wp, lp, wc, lc, rfl, hDn, hbl, ho1, hkes, hkhs, hmin, hl12, hreps, hcap, h10⟩
    refine ⟨_, _, _, _, _, _, _, rfl, ?_⟩
    have hLf := leafR_of hT.srt e3 hDn hkes hmin hreps
    have hkx : k.x ≠ 0 := by
      intro e0
      rw [e0] at ho1
      unfold Hp.ov at ho1
      rw [look_zero hm0] at ho1
      cases ho1
    refine cond_f (by simpa using fun h => hkx (by omega)) ?_
    have h11 := Sat.pull h10 2 rfl
    have hlp : L.map Kid.pr ≠ [] → ∃ a, lp = some a := fun _ => by obtain ⟨g, hg⟩ := h10.own_some 0 rfl (List.length_pos_iff.2 hLf.ne); exact ⟨_, hg⟩
    refine LdP.of h11 3 rfl (off := 0) rfl rfl (LdI.of h11 3 rfl (off := 1) rfl (add_mk _ _ _) (LdStr.of h11 4 rfl (off := 0) rfl rfl ?_))
    refine (tat_c (L := L) h11 (srt_kids hLf.srt fun a ha => (hreps a ha).ne (by omega)) (fun a ha => (hreps a ha).keyOK (by omega)) rfl (by omega) (RdP.own (k := 0) rfl (by simp) hlp)).mono ?_
    rintro e w12 ⟨i, hAt, rfl, h12⟩
    refine ⟨_, _, rfl, ?_⟩
    obtain ⟨f1, f2, f3, f4, f5⟩ := found_cut hLf hDn.i hAt
    have g1 : Sat (Row b2 [.int .i64 0] 31 :: Row b1 [.bool false] 4 :: Row b0 [.int .u64 0] 32 :: HeapH H v b :: F) w12 :=
      Sat.pull (Sat.pull (Sat.pull ((((h12.del 1 rfl).del 1 rfl).del 1 rfl).del 1 rfl) 3 rfl) 3 rfl) 3 rfl
    cases hsm : same L key i with
    | true =>
      refine cond_t rfl ?_
      obtain ⟨ci, hci, hck, hhi⟩ := f5 hsm
      have hgi : (L.map Kid.pr)[i]? = some ci.pr := by rw [List.getElem?_map, hci]; rfl
      refine IdxC.ownAt (k := i) h12 1 rfl (get_lt hci) fun g hg => ?_
      refine LdI.at (n := (ci.x : Int)) (Sat.ownAt h12 1 rfl hg (off := i * 2 + 1) (pairsV_get1 hgi)) ?_
      refine fin ci.x true w12 [] ⟨kv (lefts bs ++ esOf (L.take i)), [(key, ci.x)], kv (esOf (L.drop (i + 1)) ++ rights bs), ⟨?_, f1, hhi, .inr ⟨_, rfl⟩⟩, .inr ⟨rfl, rfl⟩⟩ g1
      obtain ⟨e0, he0, hex, _, hek, _⟩ := esOf_one hreps ci (List.mem_of_getElem? hci)
      have hd : L.drop i = ci :: L.drop (i + 1) := by
        have hil := kget_lt hci
        rw [List.getElem?_eq_getElem hil] at hci
        rw [List.drop_eq_getElem_cons hil]
        simp only [Option.some.injEq] at hci
        rw [hci]
      have : kv es = kv (lefts bs ++ esOf (L.take i)) ++ kv (esOf (L.drop i) ++ rights bs) := by rw [← kv_append, ← f3]
      rw [this, hd, esOf_cons, he0]
      simp [hex, ← hek, hck]
    | false =>
      refine cond_f rfl ?_
      refine fin 0 false w12 [] ⟨kv (lefts bs ++ esOf (L.take i)), [], kv (esOf (L.drop i) ++ rights bs), ⟨?_, f1, f4 hsm, .inl rfl⟩, .inl ⟨rfl, rfl, rfl⟩⟩ g1
      rw [List.append_nil, ← kv_append, ← f3]
end
end Go.Proofs.YtpicofkhioalkaaGreat
