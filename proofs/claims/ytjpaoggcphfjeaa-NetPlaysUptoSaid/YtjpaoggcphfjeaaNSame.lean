/- Messages that are the same are told to be the same. -/
import Derived.Test.YtjpaoggcphfjeaaNRefB
namespace Go.Proofs.Ytjpaoggcphfjeaa
open Go Go.Lw Go.Tb Go.Wd Go.Vd

def bts (img : List UInt8) : ByteArray := (img.map fun b => (b.toNat : Int)).foldl (fun r n => r.push (UInt8.ofNat n.toNat)) ByteArray.empty
theorem run_bytes_d {P : Program} {s d : TypeId} {S : Mem} {img : List UInt8} {p : Option Addr} {l c : Nat} {w : World} {K : ByteArray → Prop} {e : TypeId} (hs : P.underlying s = some (.slice e)) (he : P.underlying e = some (.int .u8)) (hd : P.underlying d = some .string)
    (hc : CRs S 1 (bcells img) p l c) (hw : Has S w) (h : K (bts img)) : RunStr P (convert s d (.slice p l c)) w K := by
  have hlen := hc.len
  by_cases h0 : l = 0
  · subst h0
    have hi : img = [] := by
      have : (bcells img).length = 0 := by rw [hlen]
      unfold bcells at this
      rw [List.length_map] at this
      exact List.eq_nil_of_length_eq_zero this
    subst hi
    exact run_bytes_none hs he hd h
  · obtain ⟨a, rfl, _⟩ := hc.reads 0 _ (List.getElem?_eq_getElem (by omega))
    refine ⟨_, ?_, h⟩
    have e1 : bcells img = (img.map fun b => (b.toNat : Int)).map (Value.int .u8) := by unfold bcells; rw [List.map_map]; rfl
    have h1 := run_loadCells_list (P := P) w a (bcells img) fun j v hj => by
      obtain ⟨b, e2, h2⟩ := hc.reads j v hj
      cases e2
      exact h2 w hw
    rw [hlen, Nat.mul_one, e1] at h1
    rw [run_convert_bytes_string w s d e _ l c hs he hd, run_bytesToString w a l c _ h1]
    rfl

theorem ecells_get : ∀ {l : List (Int × Int × ByteArray)} {q : Nat} {x : Int × Int × ByteArray}, l[q]? = some x → (ecells l)[q * 3 + 0]? = some (.int .i64 x.1) ∧ (ecells l)[q * 3 + 1]? = some (.int .i64 x.2.1) ∧ (ecells l)[q * 3 + 2]? = some (.string x.2.2)
  | [], _, _, h => by simp at h
  | y :: l, 0, x, h => by
    simp only [List.getElem?_cons_zero, Option.some.injEq] at h
    subst h
    exact ⟨rfl, rfl, rfl⟩
  | y :: l, q + 1, x, h => by
    simp only [List.getElem?_cons_succ] at h
    have ih := ecells_get h
    have e : ecells (y :: l) = .int .i64 y.1 :: .int .i64 y.2.1 :: .string y.2.2 :: ecells l := rfl
    rw [e, show (q + 1) * 3 + 0 = q * 3 + 0 + 1 + 1 + 1 by omega, show (q + 1) * 3 + 1 = q * 3 + 1 + 1 + 1 + 1 by omega, show (q + 1) * 3 + 2 = q * 3 + 2 + 1 + 1 + 1 by omega]
    simp only [List.getElem?_cons_succ]
    exact ih
theorem ecells_len (l : List (Int × Int × ByteArray)) : (ecells l).length = l.length * 3 := by
  induction l with
  | nil => rfl
  | cons x l ih => unfold ecells at ih ⊢; rw [List.flatMap_cons, List.length_append, ih]; simp; omega

section
variable {W : World} {S : Mem} {F : List HP} {w : World}
theorem logs_d {l : List (Int × Int × ByteArray)} {p q : Option Addr} {n n' c c' : Nat} (h1 : CRs S 3 (ecells l) p n c) (h2 : CRs S 3 (ecells l) q n' c') (hs : Sat (Ro W S :: F) w) :
    Calls Try.prog 43 #[.slice p n c, .slice q n' c'] w (Ret (.bool true) (Sat (Ro W S :: F))) := by
  have l1 := h1.len; have l2 := h2.len; have hlim := h1.lim
  rw [ecells_len] at l1 l2
  have hn1 : n = l.length := by omega
  have hn2 : n' = l.length := by omega
  subst hn1; subst hn2
  refine S_ref24_Logs_ok _ _ _ _ _ _ _ _ ?_
  unfold S_ref24_Logs
  refine cond_f (by simp) ⟨fun i w => ∃ j : Nat, i = j ∧ j ≤ l.length ∧ Sat (Ro W S :: F) w, fun i _ => (l.length - i).toNat, ⟨0, rfl, by omega, hs⟩, ?_⟩
  rintro i w1 ⟨j, rfl, hj, h3⟩
  unfold S_ref24_Logs_l0
  by_cases hjl : j < l.length
  · refine cond_t (by simp; omega) ?_
    have h4 := h3.drew
    have hx : l[j]? = some l[j] := List.getElem?_eq_getElem hjl
    generalize l[j] = x at hx
    obtain ⟨g0, g1, g2⟩ := ecells_get hx
    have i1 : ∀ K : Addr → Prop, (∀ a, w1.drew.cell? a = some (.int .i64 x.1) → w1.drew.cell? (a.add 1) = some (.int .i64 x.2.1) → w1.drew.cell? (a.add 2) = some (.string x.2.2) → K a) → IdxC p l.length (j : Int) 3 K := fun K hk =>
      h1.idx (h4.has 0 rfl) (by omega) (by omega) fun a h => hk a (by simpa [Addr.add] using h 0 _ (by omega) g0) (h 1 _ (by omega) g1) (h 2 _ (by omega) g2)
    have i2 : ∀ K : Addr → Prop, (∀ a, w1.drew.cell? a = some (.int .i64 x.1) → w1.drew.cell? (a.add 1) = some (.int .i64 x.2.1) → w1.drew.cell? (a.add 2) = some (.string x.2.2) → K a) → IdxC q l.length (j : Int) 3 K := fun K hk =>
      h2.idx (h4.has 0 rfl) (by omega) (by omega) fun a h => hk a (by simpa [Addr.add] using h 0 _ (by omega) g0) (h 1 _ (by omega) g1) (h 2 _ (by omega) g2)
    refine i1 _ fun a c0 _ _ => LdI.at c0 (i2 _ fun a c0 _ _ => LdI.at c0 (cond_f (by simp) ?_))
    refine i1 _ fun a _ c1 _ => LdI.at c1 (i2 _ fun a _ c1 _ => LdI.at c1 (cond_f (by simp) ?_))
    refine i1 _ fun a _ _ c2 => LdStr.at c2 (i2 _ fun a _ _ c2 => LdStr.at c2 (cond_f (by simp) ?_))
    rw [wrapI64 (by omega) (by omega)]
    exact ⟨⟨j + 1, by omega, by omega, h4⟩, by first | omega | (dsimp only; omega)⟩
  · exact cond_f (by simp; omega) ⟨rfl, h3⟩

theorem vsame_c (W : World) : ∀ (n : Nat) (v : V), _root_.SizeOf.sizeOf v < n → ∀ (S : Mem) (cs ds : List Value) (F : List HP) (w : World), VR S v cs → VR S v ds → Sat (Ro W S :: F) w →
    Calls Try.prog 48 #[.agg cs.toArray, .agg ds.toArray] w (Ret (.bool true) (Sat (Ro W S :: F)))
  | 0, _, h => by omega
  | n + 1, .mk k m s L Fs, hn => by
    intro S cs ds F w hv hv' hs
    obtain ⟨lp, ll, lc, fp, fl, fc, rfl, hL, hF⟩ := hv.open
    obtain ⟨lp', ll', lc', fp', fl', fc', rfl, hL', hF'⟩ := hv'.open
    have hll := hL.len; have hlim := hL.lim; have hfl := hF.len; have hflim := hF.lim; have hll' := hL'.len; have hfl' := hF'.len
    simp only [lim] at hlim hflim
    refine S_ref2_Same_ok _ _ _ _ _ _ _ _ _ _ _ _ _ _ _ _ _ _ _ _ ?_
    unfold S_ref2_Same
    refine NewC.ofRow hs fun b1 w1 h1 => NewC.ofRow h1 fun b2 w2 h2 => ?_
    simp only [add_mk, Nat.zero_add]
    refine LdI.of h2 1 rfl (off := 0) rfl rfl (LdI.of h2 0 rfl (off := 0) rfl rfl (cond_f (by simp) ?_))
    refine LdI.of h2 1 rfl (off := 1) rfl rfl (LdI.of h2 0 rfl (off := 1) rfl rfl (cond_f (by simp) ?_))
    refine LdStr.at (n := s) (h2.cell 1 rfl rfl) (LdStr.at (n := s) (h2.cell 0 rfl rfl) (cond_f (by simp) ?_))
    refine LdS.of h2 1 rfl (off := 3) rfl rfl (LdS.of h2 0 rfl (off := 3) rfl rfl (cond_f (by simp; omega) ?_))
    refine LdS.of h2 1 rfl (off := 4) rfl rfl (LdS.of h2 0 rfl (off := 4) rfl rfl (cond_f (by simp; omega) ?_))
    refine ⟨fun i w => ∃ q : Nat, i = q ∧ q ≤ L.length ∧ Sat (Row b2 [.int .i64 k, .int .i64 m, .string s, .slice lp' ll' lc', .slice fp' fl' fc'] 102 :: Row b1 [.int .i64 k, .int .i64 m, .string s, .slice lp ll lc, .slice fp fl fc] 102 :: Ro W S :: F) w,
      fun i _ => (L.length - i).toNat, ⟨0, rfl, by omega, h2⟩, ?_⟩
    clear h1 h2
    rintro i w3 ⟨q, rfl, hq, h3⟩
    unfold S_ref2_Same_l1
    refine LdS.of h3 1 rfl (off := 3) rfl (by simp [add_mk]) ?_
    by_cases hql : q < L.length
    · refine cond_t (by simp; omega) ?_
      have h4 := h3.drew
      have hx : L[q]? = some L[q] := List.getElem?_eq_getElem hql
      have hsz : _root_.SizeOf.sizeOf L[q] < n := by
        have := List.sizeOf_lt_of_mem (List.getElem_mem hql)
        simp only [V.mk.sizeOf_spec] at hn
        omega
      generalize L[q] = x at hx hsz
      obtain ⟨k', m', s', L', F', rfl⟩ : ∃ k' m' s' L' F', x = .mk k' m' s' L' F' := by cases x; exact ⟨_, _, _, _, _, rfl⟩
      refine LdS.of h4 1 rfl (off := 3) rfl (by simp [add_mk]) ?_
      refine VRs.rd hL (h4.has 2 rfl) hx fun a cs hv hc => ?_
      obtain ⟨lp1, ll1, lc1, fp1, fl1, fc1, rfl, _, _⟩ := hv.open
      refine ldVal hc ?_
      refine LdS.of h4 0 rfl (off := 3) rfl (by simp [add_mk]) ?_
      refine VRs.rd hL' (h4.has 2 rfl) hx fun a cs hv' hc' => ?_
      obtain ⟨lp2, ll2, lc2, fp2, fl2, fc2, rfl, _, _⟩ := hv'.open
      refine ldVal hc' ?_
      refine (vsame_c W n _ hsz _ _ _ _ _ hv hv' (h4.pull 2 rfl)).mono ?_
      rintro e w5 ⟨rfl, h5⟩
      refine ⟨true, rfl, cond_f rfl ?_⟩
      rw [wrapI64 (by omega) (by omega)]
      exact ⟨⟨q + 1, by omega, by omega, (h5.pull 2 rfl).pull 2 rfl⟩, by first | omega | (dsimp only; omega)⟩
    have hql : q = L.length := by omega
    subst hql
    refine cond_f (by simp; omega) ?_
    refine ⟨fun i w => ∃ q : Nat, i = q ∧ q ≤ Fs.length ∧ Sat (Row b2 [.int .i64 k, .int .i64 m, .string s, .slice lp' ll' lc', .slice fp' fl' fc'] 102 :: Row b1 [.int .i64 k, .int .i64 m, .string s, .slice lp ll lc, .slice fp fl fc] 102 :: Ro W S :: F) w,
      fun i _ => (Fs.length - i).toNat, ⟨0, rfl, by omega, h3⟩, ?_⟩
    clear h3
    rintro i w3 ⟨q, rfl, hq, h3⟩
    unfold S_ref2_Same_l0
    refine LdS.of h3 1 rfl (off := 4) rfl (by simp [add_mk]) ?_
    by_cases hql : q < Fs.length
    · refine cond_t (by simp; omega) ?_
      have h4 := h3.drew
      have hx : Fs[q]? = some Fs[q] := List.getElem?_eq_getElem hql
      have hsz : _root_.SizeOf.sizeOf Fs[q].2 < n := by
        have h1 := List.sizeOf_lt_of_mem (List.getElem_mem hql)
        have h2 : _root_.SizeOf.sizeOf Fs[q].2 < _root_.SizeOf.sizeOf Fs[q] := by
          obtain ⟨a, b⟩ := Fs[q]
          simp only [Prod.mk.sizeOf_spec]
          omega
        simp only [V.mk.sizeOf_spec] at hn
        omega
      generalize Fs[q] = x at hx hsz
      obtain ⟨nm, x⟩ := x
      obtain ⟨k', m', s', L', F', rfl⟩ : ∃ k' m' s' L' F', x = .mk k' m' s' L' F' := by cases x; exact ⟨_, _, _, _, _, rfl⟩
      refine LdS.of h4 1 rfl (off := 4) rfl (by simp [add_mk]) ?_
      refine FRs.rd hF (h4.has 2 rfl) hx fun a cs hv hc => LdStr.at (n := nm) (by simpa [Addr.add] using hc 0 _ rfl) ?_
      refine LdS.of h4 0 rfl (off := 4) rfl (by simp [add_mk]) ?_
      refine FRs.rd hF' (h4.has 2 rfl) hx fun a cs hv hc => LdStr.at (n := nm) (by simpa [Addr.add] using hc 0 _ rfl) (cond_f (by simp) ?_)
      refine LdS.of h4 1 rfl (off := 4) rfl (by simp [add_mk]) ?_
      refine FRs.rd hF (h4.has 2 rfl) hx fun a cs hv hc => ?_
      obtain ⟨lp1, ll1, lc1, fp1, fl1, fc1, rfl, _, _⟩ := hv.open
      refine ldVal (k := k') (n := m') (s := s') (lp := lp1) (ll := ll1) (lc := lc1) (fp := fp1) (fl := fl1) (fc := fc1) (fun j v hj => by rw [add_add, Nat.add_comm 1 j]; exact hc (j + 1) v (by rw [List.getElem?_cons_succ]; exact hj)) ?_
      refine LdS.of h4 0 rfl (off := 4) rfl (by simp [add_mk]) ?_
      refine FRs.rd hF' (h4.has 2 rfl) hx fun a cs hv' hc' => ?_
      obtain ⟨lp2, ll2, lc2, fp2, fl2, fc2, rfl, _, _⟩ := hv'.open
      refine ldVal (k := k') (n := m') (s := s') (lp := lp2) (ll := ll2) (lc := lc2) (fp := fp2) (fl := fl2) (fc := fc2) (fun j v hj => by rw [add_add, Nat.add_comm 1 j]; exact hc' (j + 1) v (by rw [List.getElem?_cons_succ]; exact hj)) ?_
      refine (vsame_c W n _ hsz _ _ _ _ _ hv hv' (h4.pull 2 rfl)).mono ?_
      rintro e w5 ⟨rfl, h5⟩
      refine ⟨true, rfl, cond_f rfl ?_⟩
      rw [wrapI64 (by omega) (by omega)]
      exact ⟨⟨q + 1, by omega, by omega, (h5.pull 2 rfl).pull 2 rfl⟩, by first | omega | (dsimp only; omega)⟩
    exact cond_f (by simp; omega) ⟨rfl, h3.drop.drop⟩

theorem vals_d {L : List V} {p q : Option Addr} {n n' c c' : Nat} (h1 : VRs S L p n c) (h2 : VRs S L q n' c') (hs : Sat (Ro W S :: F) w) :
    Calls Try.prog 47 #[.slice p n c, .slice q n' c'] w (Ret (.bool true) (Sat (Ro W S :: F))) := by
  refine S_ref2_List_ok _ _ _ _ _ _ _ _ ?_
  unfold S_ref2_List
  have hF : FRs S [] none 0 0 := ⟨rfl, by simp, by simp, fun i x h => by simp at h⟩
  refine Calls.mono (vsame_c W _ (.mk 0 0 ⟨#[]⟩ L []) (Nat.lt_succ_self _) S _ _ F w (VR.close h1 hF) (VR.close h2 hF) hs) fun e w' ⟨he, h⟩ => ⟨true, he, rfl, h⟩

theorem same_d {m m' : Mg} {d : Dm} (hq : DeepQ S m d) (hq' : DeepQ S m' d) (hs : Sat (Ro W S :: F) w) : Calls Try.prog 18 #[m.agg, m'.agg] w (Ret (.bool true) (Sat (Ro W S :: F))) := by
  have e := hq.norm.trans hq'.norm.symm
  have i1 : m.kind = m'.kind := by have h := congrArg Mg.kind e; exact h
  have i2 : m.from_ = m'.from_ := by have h := congrArg Mg.from_ e; exact h
  have i3 : m.to = m'.to := by have h := congrArg Mg.to e; exact h
  have i4 : m.view = m'.view := by have h := congrArg Mg.view e; exact h
  have i5 : m.op = m'.op := by have h := congrArg Mg.op e; exact h
  have i6 : m.commit = m'.commit := by have h := congrArg Mg.commit e; exact h
  have i7 : m.base = m'.base := by have h := congrArg Mg.base e; exact h
  have i8 : m.normal = m'.normal := by have h := congrArg Mg.normal e; exact h
  have i9 : m.nonce = m'.nonce := by have h := congrArg Mg.nonce e; exact h
  have j1 : m.ec = m'.ec := by have h := congrArg Mg.ec e; exact h
  have j2 : m.en = m'.en := by have h := congrArg Mg.en e; exact h
  have j3 : m.et = m'.et := by have h := congrArg Mg.et e; exact h
  have j4 : m.re = m'.re := by have h := congrArg Mg.re e; exact h
  have j5 : m.rn = m'.rn := by have h := congrArg Mg.rn e; exact h
  have hil : m.il = m'.il := by have h1 := hq.img.len; have h2 := hq'.img.len; omega
  refine S_law24_same_ok _ _ _ _ _ _ _ _ _ _ _ _ _ _ _ _ _ _ _ _ _ _ _ _ _ _ _ _ _ _ _ _ _ _ _ _ _ _ _ _ _ _ _ _ _ _ _ _ ?_
  unfold S_law24_same
  refine NewC.ofRow hs fun c1 w1 h1 => NewC.ofRow h1 fun c2 w2 h2 => ?_
  refine ldMsgRow (m := m) h2 1 rfl (ldMsgRow (m := m') h2 0 rfl ?_)
  refine Calls.mono (R := Ret (.bool true) (Sat (Ro W S :: F))) ?_ fun e w' ⟨he, h⟩ => ⟨true, he, rfl, h⟩
  refine S_ref24_Same_ok _ _ _ _ _ _ _ _ _ _ _ _ _ _ _ _ _ _ _ _ _ _ _ _ _ _ _ _ _ _ _ _ _ _ _ _ _ _ _ _ _ _ _ _ _ _ _ _ _ ?_
  unfold S_ref24_Same
  refine NewC.ofRow h2.drop.drop fun b1 w3 h3 => NewC.ofRow h3 fun b2 w4 h4 => ?_
  have h4 : Sat (Row b2 m'.cells 37 :: Row b1 m.cells 37 :: Ro W S :: F) w4 := h4
  simp only [add_mk, Nat.zero_add]
  refine LdI.of h4 1 rfl (off := 0) rfl rfl (LdI.of h4 0 rfl (off := 0) rfl rfl (cond_f (by simp [i1]) ?_))
  refine LdI.of h4 1 rfl (off := 1) rfl rfl (LdI.of h4 0 rfl (off := 1) rfl rfl (cond_f (by simp [i2]) ?_))
  refine LdI.of h4 1 rfl (off := 2) rfl rfl (LdI.of h4 0 rfl (off := 2) rfl rfl (cond_f (by simp [i3]) ?_))
  refine LdI.of h4 1 rfl (off := 3) rfl rfl (LdI.of h4 0 rfl (off := 3) rfl rfl (cond_f (by simp [i4]) ?_))
  refine LdI.of h4 1 rfl (off := 4) rfl rfl (LdI.of h4 0 rfl (off := 4) rfl rfl (cond_f (by simp [i5]) ?_))
  refine LdI.of h4 1 rfl (off := 5) rfl rfl (LdI.of h4 0 rfl (off := 5) rfl rfl (cond_f (by simp [i6]) ?_))
  refine LdI.of h4 1 rfl (off := 6) rfl rfl (LdI.of h4 0 rfl (off := 6) rfl rfl (cond_f (by simp [i7]) ?_))
  refine LdI.of h4 1 rfl (off := 7) rfl rfl (LdI.of h4 0 rfl (off := 7) rfl rfl (cond_f (by simp [i8]) ?_))
  refine LdI.of h4 1 rfl (off := 8) rfl rfl (LdI.of h4 0 rfl (off := 8) rfl rfl (cond_f (by simp [i9]) ?_))
  intro k0 hk0
  refine cond_t rfl ?_
  refine LdS.of h4 1 rfl (off := 10) rfl rfl ?_
  refine run_bytes_d Try.underlying30 Try.underlying5 Try.underlying9 hq.img (h4.has 2 rfl) ?_
  refine LdS.of h4 0 rfl (off := 10) rfl rfl ?_
  refine run_bytes_d Try.underlying30 Try.underlying5 Try.underlying9 hq'.img (h4.has 2 rfl) (cond_f (by simp) ?_)
  refine LdS.of h4 1 rfl (off := 10) rfl rfl (LdS.of h4 0 rfl (off := 10) rfl rfl (cond_f (by rw [hil]; simp) (hk0 _ ?_)))
  unfold S_ref24_Same_j0
  simp only [add_mk, Nat.zero_add]
  refine LdS.of h4 1 rfl (off := 9) rfl rfl (LdS.of h4 0 rfl (off := 9) rfl rfl ?_)
  refine (logs_d hq.log hq'.log (h4.pull 2 rfl)).mono ?_
  rintro e w5 ⟨rfl, h5⟩
  have h5 : Sat (Row b2 m'.cells 37 :: Row b1 m.cells 37 :: Ro W S :: F) w5 := (h5.pull 2 rfl).pull 2 rfl
  refine ⟨_, rfl, cond_t rfl ?_⟩
  refine LdI.of h5 1 rfl (off := 11) rfl rfl (LdI.of h5 1 rfl (off := 12) rfl rfl (LdStr.at (n := m.et) (h5.cell 1 rfl rfl) ?_))
  refine NewC.ofRow h5 fun b3 w6 h6 => ?_
  refine LdI.of h6 1 rfl (off := 11) rfl rfl (LdI.of h6 1 rfl (off := 12) rfl rfl (LdStr.at (n := m'.et) (h6.cell 1 rfl rfl) ?_))
  refine NewC.ofRow h6 fun b4 w7 h7 => ?_
  have h8 : Sat (Row b3 [.int .i64 m.ec, .int .i64 m.en, .string m.et] 32 :: Row b4 [.int .i64 m.ec, .int .i64 m.en, .string m.et] 32 :: Row b2 m'.cells 37 :: Row b1 m.cells 37 :: Ro W S :: F) w7 := by
    have := h7.pull 1 rfl
    rw [j1, j2, j3] at this ⊢
    exact this
  refine (logs_one h8).mono ?_
  rintro e w9 ⟨rfl, h9⟩
  refine ⟨_, rfl, cond_t rfl ?_⟩
  refine LdI.of h9 1 rfl (off := 14) rfl rfl (LdI.of h9 1 rfl (off := 15) rfl rfl (LdS.of h9 1 rfl (off := 16) rfl rfl ?_))
  refine LdI.of h9 0 rfl (off := 14) rfl rfl (LdI.of h9 0 rfl (off := 15) rfl rfl (LdS.of h9 0 rfl (off := 16) rfl rfl ?_))
  refine Calls.mono (R := Ret (.bool true) (Sat (Ro W S :: F))) ?_ fun e w' ⟨he, h⟩ => ⟨true, he, rfl, h⟩
  refine S_ref2_Reply_ok _ _ _ _ _ _ _ _ _ _ _ _ ?_
  unfold S_ref2_Reply
  refine NewC.ofRow h9.drop.drop fun b5 w10 h10 => NewC.ofRow h10 fun b6 w11 h11 => ?_
  simp only [add_mk, Nat.zero_add]
  refine LdI.of h11 1 rfl (off := 0) rfl rfl (LdI.of h11 0 rfl (off := 0) rfl rfl (cond_t (by simp [j4]) ?_))
  refine LdI.of h11 1 rfl (off := 1) rfl rfl (LdI.of h11 0 rfl (off := 1) rfl rfl (cond_t (by simp [j5]) ?_))
  refine LdS.of h11 1 rfl (off := 2) rfl rfl (LdS.of h11 0 rfl (off := 2) rfl rfl ?_)
  refine (vals_d hq.docs hq'.docs h11.drop.drop).mono ?_
  rintro e w12 ⟨rfl, h12⟩
  exact ⟨_, rfl, rfl, h12⟩
end
end Go.Proofs.Ytjpaoggcphfjeaa
