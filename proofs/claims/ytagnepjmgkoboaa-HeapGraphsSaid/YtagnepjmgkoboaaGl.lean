
/- Two heaps that are built in other orders: the links. -/
import Derived.Test.YtagnepjmgkoboaaGj
import Derived.Test.YtagnepjmgkoboaaLx
set_option maxRecDepth 100000
namespace Go.Proofs.Ytagnepjmgkoboaa
open Go Go.Lw Go.Wd Go.Am Go.Tb Go.Hm
def upd (G : Nat → Sh) (i : Nat) (s : Sh) : Nat → Sh := fun a => if a = i then s else G a
structure Gs (n : Nat) (X : List Nat) (H : Hp) (G : Nat → Sh) (rs : List (Option Nat)) : Prop where
  wf : H.WF
  len : X.length = n
  u64 : ∀ x ∈ X, x < 18446744073709551616
  sh : Shp n (fun i => X.getD i 0) H G rs
  rl : ∀ i, i < n → ∀ o, H.look (X.getD i 0) = some o → o.refs = (G i).refs.length
  closed : H.Closed
  op : H.m.op = false
  tn : H.t.n = 256
section
variable {n : Nat} {X : List Nat} {H : Hp} {G : Nat → Sh} {rs : List (Option Nat)}
theorem Gs.small (h : Gs n X H G rs) {i : Nat} (hi : i < n) : X.getD i 0 < 18446744073709551616 := by
  rw [List.getD_eq_getElem?_getD, List.getElem?_eq_getElem (by rw [h.len]; exact hi)]
  exact h.u64 _ (List.getElem_mem _)
theorem P1.gs {m : Nat → Nat} {D : Nat → Prop} {c : Nat} (h : P1 n m D X H c) (hD : ∀ i, i < n → D i) : Gs n X H (fun i => ⟨1 + i, List.replicate (m i) none, [0]⟩) (List.replicate 16 none) := by
  have hnz : ∀ i, i < n → X.getD i 0 ≠ 0 := fun i hi => (h.did i hi).2 (hD i hi)
  refine ⟨h.wf, h.len, h.u64, ⟨fun i j hi hj e => h.inj i j hi hj e (hnz i hi), fun i hi => ?_, fun i hi j hj => ?_, ?_, fun j hj => ?_⟩, fun i hi o ho => ?_, h.closed, h.op, h.tn⟩
  · obtain ⟨s, hs⟩ := h.ob i hi (hnz i hi)
    refine ⟨_, hs, rfl, ?_, ?_⟩
    · simp [Fresh, toH]
    · simp [Fresh]
  · have := List.eq_of_mem_replicate hj; cases this
  · rw [h.roots]; simp [toH]
  · have := List.eq_of_mem_replicate hj; cases this
  · obtain ⟨s, hs⟩ := h.ob i hi (hnz i hi)
    rw [ho] at hs
    cases hs
    simp [Fresh]
/-- an object is changed. -/
theorem Gs.put (h : Gs n X H G rs) {i p y : Nat} (hi : i < n) {o : Ob} (ho : H.look (X.getD i 0) = some o) (hwf : (H.set (X.getD i 0) (o.put p y)).WF) (hcl : (H.set (X.getD i 0) (o.put p y)).Closed) {s : Sh} (ht : s.tag = (G i).tag)
    (h1 : (o.put p y).w.take o.refs = s.refs.map (toH fun a => X.getD a 0)) (h2 : (o.put p y).w.drop o.refs = s.words) (h3 : ∀ j, some j ∈ s.refs → j < n) (h4 : s.refs.length = (G i).refs.length) :
    Gs n X (H.set (X.getD i 0) (o.put p y)) (upd G i s) rs := by
  have hw : (o.put p y).w.length = o.w.length := by simp [Ob.put]
  have hlk := set_look h.wf ho hw
  have hne : ∀ a, a < n → a ≠ i → X.getD a 0 ≠ X.getD i 0 := fun a ha hai e => hai (h.sh.inj a i ha hi e)
  refine ⟨hwf, h.len, h.u64, ⟨h.sh.inj, fun a ha => ?_, fun a ha j hj => ?_, h.sh.roots, h.sh.rlinks⟩, fun a ha o' ho' => ?_, hcl, ?_, h.tn⟩
  · unfold upd
    by_cases e : a = i
    · rw [if_pos e, e]
      refine ⟨o.put p y, by rw [hlk, if_pos rfl], ?_, h1, h2⟩
      obtain ⟨o2, ho2, g, _⟩ := h.sh.ob i hi
      rw [ho] at ho2
      cases ho2
      rw [ht]
      exact g
    · rw [if_neg e]
      obtain ⟨o2, ho2, g⟩ := h.sh.ob a ha
      exact ⟨o2, by rw [hlk, if_neg (hne a ha e)]; exact ho2, g⟩
  · unfold upd at hj
    by_cases e : a = i
    · rw [if_pos e] at hj; exact h3 j hj
    · rw [if_neg e] at hj; exact h.sh.links a ha j hj
  · unfold upd
    rw [hlk] at ho'
    by_cases e : a = i
    · rw [e, if_pos rfl] at ho'
      cases ho'
      rw [if_pos e, h4]
      exact h.rl i hi o ho
    · rw [if_neg (hne a ha e)] at ho'
      rw [if_neg e]
      exact h.rl a ha o' ho'
  · exact h.op
theorem Gs.live (h : Gs n X H G rs) {i : Nat} (hi : i < n) : (H.look (X.getD i 0)).isSome = true := by
  obtain ⟨o, ho, _⟩ := h.sh.ob i hi
  rw [ho]; rfl
theorem Gs.may (h : Gs n X H G rs) {i : Nat} (hi : i < n) : H.may (X.getD i 0) = true := by unfold Hp.may; rw [h.live hi]; simp
theorem Gs.ref (h : Gs n X H G rs) {i k j : Nat} (hi : i < n) (hk : k < (G i).refs.length) (hj : j < n) : Hp.refE H (X.getD i 0) k (X.getD j 0) = 0 ∧
    Gs n X (Hp.setRef H (X.getD i 0) k (X.getD j 0)) (upd G i ⟨(G i).tag, (G i).refs.set k (some j), (G i).words⟩) rs := by
  obtain ⟨o, ho, g1, g2, g3⟩ := h.sh.ob i hi
  have hrl := h.rl i hi o ho
  have hok := look_ok h.wf ho
  refine ⟨by simp only [Hp.refE, ho]; rw [if_pos (by omega), if_pos (h.may hj)], ?_⟩
  have e : Hp.setRef H (X.getD i 0) k (X.getD j 0) = H.set (X.getD i 0) (o.put k (X.getD j 0)) := by simp only [Hp.setRef, ho, Int.toNat_natCast]
  rw [e]
  refine h.put hi ho (set_wf h.wf ho (by simp [Ob.put]) rfl (Ob.put_ok hok _ (h.small hj))) (closed_put h.wf h.closed ho fun _ => h.may hj) rfl ?_ ?_ ?_ (by simp)
  · show (o.w.set k (X.getD j 0)).take o.refs = _
    rw [List.take_set, g2, List.map_set]
    rfl
  · show (o.w.set k (X.getD j 0)).drop o.refs = _
    rw [List.drop_set_of_lt (by omega), g3]
  · intro a ha
    rcases List.mem_or_eq_of_mem_set ha with b | b
    · exact h.sh.links i hi a b
    · cases b; exact hj
theorem Gs.word (h : Gs n X H G rs) {i y v : Nat} (hi : i < n) (hy : y < 18446744073709551616) (hv : (G i).words = [v]) {o : Ob} (ho : H.look (X.getD i 0) = some o) : o.refs + 0 < o.w.length ∧
    Gs n X (H.set (X.getD i 0) (o.put (o.refs + 0) y)) (upd G i ⟨(G i).tag, (G i).refs, [y]⟩) rs := by
  obtain ⟨o2, ho2, g1, g2, g3⟩ := h.sh.ob i hi
  rw [ho] at ho2
  cases ho2
  have hok := look_ok h.wf ho
  have hlen : o.w.length - o.refs = 1 := by rw [← List.length_drop, g3, hv]; rfl
  refine ⟨by omega, ?_⟩
  refine h.put hi ho (set_wf h.wf ho (by simp [Ob.put]) rfl (Ob.put_ok hok _ hy)) (closed_put h.wf h.closed ho fun hh => absurd hh (by omega)) rfl ?_ ?_ ?_ rfl
  · show (o.w.set (o.refs + 0) y).take o.refs = _
    rw [List.take_set, List.set_eq_of_length_le (by rw [List.length_take]; omega)]
    exact g2
  · show (o.w.set (o.refs + 0) y).drop o.refs = _
    rw [List.drop_set, if_neg (by omega), g3, hv, Nat.add_zero, Nat.sub_self]
    rfl
  · exact fun a ha => h.sh.links i hi a ha
theorem Gs.root (h : Gs n X H G rs) {q i : Nat} (hi : i < n) : Gs n X (H.rooted q (X.getD i 0)) G (rs.set q (some i)) := by
  refine ⟨rooted_wf h.wf (h.small hi), h.len, h.u64, ⟨h.sh.inj, h.sh.ob, h.sh.links, ?_, fun j hj => ?_⟩, h.rl, closed_rooted h.closed (h.may hi), h.op, h.tn⟩
  · show H.roots.set q _ = _
    rw [h.sh.roots, List.map_set]; rfl
  · rcases List.mem_or_eq_of_mem_set hj with b | b
    · exact h.sh.rlinks j b
    · cases b; exact hi
end

/-- what an object holds in the end. -/
def lnkL (n : Nat) (R : List Int) : List (Option Nat) := (R.take 8).map fun z => if z ≥ 0 then some (z.toNat % n) else none
def finSh (n : Nat) (R : List Int) (ws : List Nat) (i : Nat) : Sh := ⟨1 + i, lnkL n R, [if ws.length = 0 then 0 else ws.getD (i % ws.length) 0]⟩
def iniSh (R : List Int) (i : Nat) : Sh := ⟨1 + i, List.replicate (min R.length 8) none, [0]⟩
theorem upd_upd (G : Nat → Sh) (i : Nat) (s s' : Sh) : upd (upd G i s) i s' = upd G i s' := by
  funext a; unfold upd; by_cases e : a = i <;> simp [e]
theorem upd_same (G : Nat → Sh) (i : Nat) (s : Sh) : upd G i s i = s := by unfold upd; rw [if_pos rfl]
section
variable {n : Nat} {X : List Nat} {H : Hp} {G : Nat → Sh} {rs : List (Option Nat)} {b : Nat} {W w : World} {S : Mem} {F : List HP}
set_option maxHeartbeats 600000 in
theorem links_c {i : Nat} (hn : n ≤ 40) (h : Gs n X H G rs) (hi : i < n) {R : List Int} {ws : List Nat} (hG : G i = iniSh R i) {p : Option Addr} {c : Nat} {rp : Option Addr} {rl rc : Nat} {wp : Option Addr} {wl wc : Nat}
    (hrl : R.length = rl) (hr63 : rl ≤ maxLen) (hrs : 0 < rl → ∃ a, rp = some a) (hrr : ∀ a, rp = some a → ∀ (j : Nat) (z : Int), R[j]? = some z → ∀ w, Has S w → w.cell? (a.add j) = some (.int .i64 z)) (hr64 : ∀ z ∈ R, z ≤ 9223372036854775807)
    (hwl : ws.length = wl) (hw63 : wl ≤ maxLen) (hws : 0 < wl → ∃ a, wp = some a) (hwr : ∀ a, wp = some a → ∀ (j z : Nat), ws[j]? = some z → ∀ w, Has S w → w.cell? (a.add j) = some (.int .u64 (z : Int))) (hw64 : ∀ z ∈ ws, z < 18446744073709551616)
    (hS : Sat (HeapH H .nilIface b :: Own 23 1 p n c (words X) :: Ro W S :: F) w) :
    Calls Try.prog 28 #[.pointer (some ⟨b, 0, none⟩), .slice p n c, .int .i64 (i : Int), .slice rp rl rc, .slice wp wl wc] w fun e w' =>
      e = .returned (.bool true) ∧ ∃ H', Gs n X H' (upd G i (finSh n R ws i)) rs ∧ Sat (HeapH H' .nilIface b :: Own 23 1 p n c (words X) :: Ro W S :: F) w' := by
  simp only [maxLen] at hr63 hw63
  have hXl := h.len
  refine S_law9_links_ok _ _ _ _ _ _ _ _ _ _ _ _ _ ?_
  unfold S_law9_links
  intro k0 hk0
  have hX : ∀ {j : Nat}, j < n → (words X)[j * 1]? = some (.int .u64 (X.getD j 0 : Nat)) := fun {j} hj => by
    rw [Nat.mul_one]; unfold words
    rw [List.getElem?_map, List.getD_eq_getElem?_getD, List.getElem?_eq_getElem (by omega)]; rfl
  -- behind the links
  have fin : ∀ w H', Gs n X H' (upd G i ⟨1 + i, lnkL n R, [0]⟩) rs → Sat (HeapH H' .nilIface b :: Own 23 1 p n c (words X) :: Ro W S :: F) w → k0 w := by
    intro w H' h' hS'
    refine hk0 _ ?_
    unfold S_law9_links_j1
    have s1 := hS'.drew
    generalize w.drew = w1 at s1
    by_cases hwl0 : wl = 0
    · refine cond_t (by simp [hwl0]) ⟨rfl, H', ?_, s1⟩
      unfold finSh
      rw [hwl, if_pos hwl0]
      exact h'
    · refine cond_f (by simp; omega) ?_
      refine IdxC.ownAt s1 1 rfl hi fun g hg => LdI.at (s1.ownAt 1 rfl hg (hX hi)) ?_
      have hmod : Int.tmod (i : Int) (wl : Int) = ((i % wl : Nat) : Int) := by rw [Int.tmod_eq_emod_of_nonneg (by omega)]; omega
      have hml : i % wl < wl := Nat.mod_lt _ (by omega)
      rw [hmod]
      have hfin : finSh n R ws i = ⟨1 + i, lnkL n R, [ws.getD (i % wl) 0]⟩ := by unfold finSh; rw [hwl, if_neg hwl0]
      rw [hfin]
      generalize i % wl = q at hml
      obtain ⟨a, rfl⟩ := hws (by omega)
      have hzq : ws[q]? = some (ws.getD q 0) := by rw [List.getD_eq_getElem?_getD, List.getElem?_eq_getElem (by omega)]; rfl
      have hz64 : ws.getD q 0 < 18446744073709551616 := hw64 _ (List.mem_of_getElem? hzq)
      refine ⟨by omega, by omega, by omega, ?_⟩
      rw [Int.toNat_natCast]
      refine LdI.at (by rw [Nat.mul_one]; exact hwr a rfl q _ hzq _ (s1.has 2 rfl)) ?_
      obtain ⟨o, ho⟩ := Option.isSome_iff_exists.1 (h'.live hi)
      obtain ⟨g1, g2⟩ := h'.word hi hz64 (v := 0) (by rw [upd_same]) ho
      rw [upd_same, upd_upd] at g2
      refine (swd_c s1 ho (i := 0) g1 rfl hz64).mono ?_
      rintro e w2 ⟨rfl, s2⟩
      exact ⟨_, rfl, rfl, _, g2, s2⟩
  have hlk : ∀ k, k ≤ min rl 8 → (((lnkL n R).take k) ++ List.replicate (min rl 8 - k) none).length = min rl 8 := fun k hk => by
    unfold lnkL; simp; omega
  refine ⟨fun k w => ∃ (q : Nat) (H' : Hp), k = q ∧ q ≤ min rl 8 ∧ Gs n X H' (upd G i ⟨1 + i, (lnkL n R).take q ++ List.replicate (min rl 8 - q) none, [0]⟩) rs ∧ Sat (HeapH H' .nilIface b :: Own 23 1 p n c (words X) :: Ro W S :: F) w, fun k _ => (8 - k).toNat,
    ⟨0, H, rfl, by omega, ?_, hS⟩, ?_⟩
  · have : upd G i ⟨1 + i, (lnkL n R).take 0 ++ List.replicate (min rl 8 - 0) none, [0]⟩ = G := by
      funext a; unfold upd; by_cases e : a = i
      · rw [if_pos e, e, hG]; unfold iniSh; rw [hrl]; simp
      · rw [if_neg e]
    rw [this]; exact h
  clear hS
  rintro k w1 ⟨q, H', rfl, hq, h', s1⟩
  unfold S_law9_links_l0
  have hll : (lnkL n R).length = min rl 8 := by unfold lnkL; simp; omega
  by_cases hqe : q = min rl 8
  · rw [hqe, List.take_of_length_le (by omega), Nat.sub_self, List.replicate_zero, List.append_nil] at h'
    by_cases hql : q < rl
    · exact cond_t (by simp; omega) (cond_f (by simp; omega) (fin _ _ h' s1))
    · exact cond_f (by simp; omega) (fin _ _ h' s1)
  refine cond_t (by simp; omega) (cond_t (by simp; omega) ?_)
  intro k2 hk2
  have hzq : R[q]? = some R[q] := List.getElem?_eq_getElem (by omega)
  have hz64 := hr64 _ (List.mem_of_getElem? hzq)
  have hLq : (lnkL n R)[q]? = some (if R[q] ≥ 0 then some (R[q].toNat % n) else none) := by
    unfold lnkL
    rw [List.getElem?_map, List.getElem?_take_of_lt (by omega), hzq]; rfl
  generalize R[q] = z at hzq hz64 hLq
  obtain ⟨a, rfl⟩ := hrs (by omega)
  have hsplit : ∀ v, (lnkL n R)[q]? = some v → ((lnkL n R).take q ++ List.replicate (min rl 8 - q) none).set q v = (lnkL n R).take (q + 1) ++ List.replicate (min rl 8 - (q + 1)) none := fun v hv => by
    have e : min rl 8 - q = (min rl 8 - (q + 1)) + 1 := by omega
    have et : ((lnkL n R).take q).length = q := by rw [List.length_take]; omega
    rw [List.set_append_right _ _ (by omega), et, Nat.sub_self, e, List.replicate_succ, List.set_cons_zero, List.take_add_one, hv, Option.toList_some, List.append_assoc]
    rfl
  have goOn : ∀ w H2, Gs n X H2 (upd G i ⟨1 + i, (lnkL n R).take (q + 1) ++ List.replicate (min rl 8 - (q + 1)) none, [0]⟩) rs → Sat (HeapH H2 .nilIface b :: Own 23 1 p n c (words X) :: Ro W S :: F) w → k2 w := by
    intro w H2 h2 s2
    refine hk2 _ ?_
    unfold S_law9_links_j0
    rw [wrapI64 (by omega) (by omega)]
    exact ⟨⟨q + 1, H2, by omega, by omega, h2, s2⟩, by first | omega | (dsimp only; omega)⟩
  have s2 := s1.drew
  generalize w1.drew = w2 at s2
  have ix : ∀ {K : Addr → Prop}, K (a.add (q * 1)) → IdxC (some a) rl (q : Int) 1 K := fun h => ⟨by omega, by omega, by rw [Int.toNat_natCast]; exact h⟩
  have rdz : w2.cell? (a.add (q * 1)) = some (.int .i64 z) := by rw [Nat.mul_one]; exact hrr a rfl q z hzq _ (s2.has 2 rfl)
  refine ix (LdI.at rdz ?_)
  by_cases hz0 : z ≥ 0
  rotate_left
  · refine cond_f (by simpa using hz0) ?_
    rw [if_neg hz0] at hLq
    have e := hsplit _ hLq
    have e2 : ((lnkL n R).take q ++ List.replicate (min rl 8 - q) none).set q none = (lnkL n R).take q ++ List.replicate (min rl 8 - q) none := by
      have et : ((lnkL n R).take q).length = q := by rw [List.length_take]; omega
      have e3 : min rl 8 - q = (min rl 8 - (q + 1)) + 1 := by omega
      rw [List.set_append_right _ _ (by omega), et, Nat.sub_self, e3, List.replicate_succ, List.set_cons_zero]
    rw [e2] at e
    rw [e] at h'
    exact goOn _ _ h' s2
  refine cond_t (by simpa using hz0) ?_
  rw [if_pos hz0] at hLq
  refine IdxC.ownAt s2 1 rfl hi fun g hg => LdI.at (s2.ownAt 1 rfl hg (hX hi)) ?_
  refine ix (LdI.at rdz ?_)
  obtain ⟨zn, rfl⟩ := Int.eq_ofNat_of_zero_le hz0
  have hmod : Int.tmod (zn : Int) (n : Int) = ((zn % n : Nat) : Int) := by rw [Int.tmod_eq_emod_of_nonneg (by omega)]; omega
  have hml : zn % n < n := Nat.mod_lt _ (by omega)
  rw [Int.toNat_natCast] at hLq
  refine ⟨by omega, ?_⟩
  rw [hmod]
  generalize zn % n = j at hml hLq
  refine IdxC.ownAt s2 1 rfl hml fun g hg => LdI.at (s2.ownAt 1 rfl hg (hX hml)) ?_
  obtain ⟨g1, g2⟩ := h'.ref hi (k := q) (by rw [upd_same]; dsimp only; rw [hlk q hq]; omega) hml
  rw [upd_same, upd_upd] at g2
  dsimp only at g2
  rw [hsplit _ hLq] at g2
  refine (sref_c s2 (h'.small hi) (q : Int) (h'.small hml)).mono ?_
  rintro e w3 ⟨rfl, s3⟩
  rw [if_pos g1] at s3
  rw [g1]
  exact ⟨_, rfl, cond_f rfl (goOn _ _ g2 s3)⟩
end
end Go.Proofs.Ytagnepjmgkoboaa
