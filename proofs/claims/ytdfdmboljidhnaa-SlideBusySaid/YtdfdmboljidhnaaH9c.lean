
/- What the document's own heap's (ref9's) functions come to. -/
import Derived.Test.YtdfdmboljidhnaaH9
import Derived.Test.YtdfdmboljidhnaaG2
set_option maxRecDepth 100000
namespace Go.Hm
open Go Go.Lw Go.Wd Go.Am Go.Tb
theorem numAt_first {x : Nat} : ∀ {l : List Nat} {i k : Nat}, l[k]? = some x → x ∉ l.take k → numAt l i x = some (i + k)
  | [], _, _, h, _ => by simp at h
  | y :: l, i, 0, h, _ => by simp at h; subst h; simp [numAt]
  | y :: l, i, k + 1, h, hn => by
    simp only [List.getElem?_cons_succ] at h
    simp only [List.take_succ_cons, List.mem_cons, not_or] at hn
    simp only [numAt]
    rw [if_neg hn.1, numAt_first h hn.2]
    congr 1; omega
theorem numI_first {x : Nat} {l : List Nat} {k : Nat} (h : l[k]? = some x) (hn : x ∉ l.take k) : numI l x = k := by
  unfold numI num; rw [numAt_first h hn]; simp
theorem reads_CRs {S : Mem} {l : List Nat} {p : Option Addr} {n c : Nat} (h : CRs S 1 (words l) p n c) {w : World} (hw : Has S w) : Reads w p (words l) := by
  intro a ha j v hj
  obtain ⟨b, h1, h2⟩ := h.reads j v hj
  rw [ha] at h1
  cases h1
  exact h2 w hw
theorem some_CRs {S : Mem} {l : List Nat} {p : Option Addr} {n c : Nat} (h : CRs S 1 (words l) p n c) (hl : 0 < l.length) : ∃ a, p = some a := by
  obtain ⟨b, h1, _⟩ := h.reads 0 _ (List.getElem?_eq_getElem (by rw [words_len]; exact hl))
  exact ⟨b, h1⟩
theorem len_CRs {S : Mem} {l : List Nat} {p : Option Addr} {n c : Nat} (h : CRs S 1 (words l) p n c) : n = l.length := by have := h.len; rw [words_len] at this; omega
/-- a word of a slice that is read. -/
theorem rd_reads {l : List Nat} {p : Option Addr} {n : Nat} {w : World} (hr : Reads w p (words l)) (hs : 0 < l.length → ∃ a, p = some a) (hn : n = l.length) {q x : Nat} {i : Int} (hq : l[q]? = some x) (hi : i = q) {K : Addr → Prop} (hk : ∀ a, w.cell? a = some (.int .u64 (x : Int)) → K a) : IdxC p n i 1 K := by
  subst hi
  have hlt := get_lt hq
  refine IdxC.reads hr (hs (by omega)) (by omega) (by omega) fun a ha => hk a ?_
  have := ha 0 (.int .u64 (x : Int)) (by simp [words, hq])
  simpa [Addr.add] using this
/-- an object in a slice that stands. -/
theorem rd_ob {S : Mem} {H : Hp} {hs : List Nat} {r : Rh} {om : List (R9 × Gq)} (h : Mir S H hs r om) {w : World} (hw : Has S w) {q x : Nat} {i : Int} (hq : hs[q]? = some x) (hi : i = q) {K : Addr → Prop}
    (hk : ∀ a (y : R9 × Gq), om[q]? = some y → y.1 = rob H x → R9R S y → (∀ w, Has S w → w.cell? a = some (.int .u64 (x : Int)) ∧ w.cell? (a.add 1) = some (.int .i64 ((rob H x).tag : Int)) ∧
      w.cell? (a.add 2) = some (.slice y.2.pr (rob H x).refs.length y.2.cr) ∧ w.cell? (a.add 3) = some (.slice y.2.pw (rob H x).words.length y.2.cw)) → K a) : IdxC r.p r.l i 4 K := by
  subst hi
  obtain ⟨y, h1, h2, h3⟩ := h.get hq
  have hlen := h.objs.row.len
  have hol := h.omlen
  have hlt := get_lt h1
  have hll := h.len
  have hpos : q * 4 < (rcells om).length := by rw [rcells_len]; omega
  obtain ⟨a, hp, _⟩ := h.objs.row.reads (q * 4) _ (List.getElem?_eq_getElem hpos)
  rw [hp]
  refine ⟨by omega, by omega, hk _ y h1 h2 h3 fun w hw => ?_⟩
  have key : ∀ j v, j < 4 → (rcell y)[j]? = some v → w.cell? ((a.add (q * 4)).add j) = some v := fun j v hj hv => by
    obtain ⟨b, e1, e2⟩ := h.objs.row.reads (q * 4 + j) v (by rw [rcells_get h1 hj]; exact hv)
    rw [hp] at e1
    cases e1
    rw [add_add]
    exact e2 w hw
  rw [h2.symm]
  have hx : (x : Int) = (y.1.h : Int) := by rw [h2, rob_h]
  rw [hx]
  refine ⟨?_, key 1 _ (by omega) rfl, key 2 _ (by omega) rfl, key 3 _ (by omega) rfl⟩
  have := key 0 _ (by omega) rfl
  simpa [Addr.add] using this
end Go.Hm
namespace Go.Proofs.Ytdfdmboljidhnaa
open Go Go.Lw Go.Wd Go.Am Go.Tb Go.Hm

section
variable {H : Hp} {hs : List Nat} {r : Rh} {om : List (R9 × Gq)} {w W : World} {S : Mem} {L : List HP}
theorem at9_c (hS : Sat L w) (k : Nat) (hk : L[k]? = some (Ro W S)) (hM : Mir S H hs r om) (hl : hs.length ≤ 1048576) (x : Nat) : Calls Try.prog 43 #[r.agg, .int .u64 (x : Int)] w (Ret (.int .i64 (numI hs x)) (Sat L)) := by
  refine S_ref9_At_ok r.p r.l r.c r.a0 r.a1 r.a2 r.a3 r.a4 r.a5 r.a6 r.a7 r.a8 r.a9 r.a10 r.a11 r.a12 r.a13 r.a14 r.a15 x w _ ?_
  unfold S_ref9_At
  refine NewC.ofRow hS fun b0 w1 h1 => ?_
  have h1 : Sat (Row b0 r.cells 44 :: L) w1 := h1
  have hrl := hM.len
  refine ⟨fun i w => ∃ q : Nat, i = q ∧ q ≤ hs.length ∧ x ∉ hs.take q ∧ Sat (Row b0 r.cells 44 :: L) w, fun i _ => (hs.length - i).toNat, ⟨0, rfl, by omega, by simp, h1⟩, ?_⟩
  rintro i w2 ⟨q, rfl, hq, hn, h2⟩
  unfold S_ref9_At_l0
  refine LdS.of h2 0 rfl (off := 0) rfl rfl ?_
  by_cases hlt : q < hs.length
  · refine cond_t (by simp; omega) ?_
    refine LdS.of h2 0 rfl (off := 0) rfl rfl ?_
    have hx : hs[q]? = some (hs[q]'hlt) := List.getElem?_eq_getElem hlt
    generalize hs[q]'hlt = y at hx
    have hw := h2.has (k + 1) (by simpa using hk)
    refine rd_ob hM hw hx rfl fun a z _ _ _ hc => ?_
    refine LdI.cell (hc w2 hw).1 ?_
    by_cases e : y = x
    · subst e
      refine cond_t (by simp) ⟨?_, h2.drop⟩
      rw [numI_first hx hn]
    · refine cond_f (by simp; omega) ?_
      rw [wrapI64 (by omega) (by omega)]
      refine ⟨⟨q + 1, by omega, by omega, ?_, h2⟩, by first | omega | (dsimp only; omega)⟩
      rw [List.take_add_one, hx, Option.toList_some]
      intro hm
      rcases List.mem_append.1 hm with hm | hm
      · exact hn hm
      · simp only [List.mem_singleton] at hm; exact e hm.symm
  · refine cond_f (by simp; omega) ⟨?_, h2.drop⟩
    have : hs.take q = hs := List.take_of_length_le (by omega)
    rw [this] at hn
    rw [numI_none hn]

theorem number9_c (hS : Sat L w) {l : List Nat} {p : Option Addr} {c : Nat} (hr : ∀ w, Sat L w → Reads w p (words l)) (hp : 0 < l.length → ∃ a, p = some a) (hl : l.length ≤ 1048576) (x : Nat) : Calls Try.prog 60 #[.slice p l.length c, .int .u64 (x : Int)] w (Ret (.int .i64 (numI l x)) (Sat L)) := by
  refine S_ref9_number_ok _ _ _ _ _ _ ?_
  unfold S_ref9_number
  refine ⟨fun i w => ∃ q : Nat, i = q ∧ q ≤ l.length ∧ x ∉ l.take q ∧ Sat L w, fun i _ => (l.length - i).toNat, ⟨0, rfl, by omega, by simp, hS⟩, ?_⟩
  rintro i w2 ⟨q, rfl, hq, hn, h2⟩
  unfold S_ref9_number_l0
  by_cases hlt : q < l.length
  · refine cond_t (by simp; omega) ?_
    have hx : l[q]? = some (l[q]'hlt) := List.getElem?_eq_getElem hlt
    generalize l[q]'hlt = y at hx
    refine rd_reads (hr w2 h2) hp rfl hx rfl fun a ha => ?_
    refine LdI.cell ha ?_
    by_cases e : y = x
    · subst e
      refine cond_t (by simp) ⟨?_, h2⟩
      rw [numI_first hx hn]
    · refine cond_f (by simp; omega) ?_
      rw [wrapI64 (by omega) (by omega)]
      refine ⟨⟨q + 1, by omega, by omega, ?_, h2⟩, by first | omega | (dsimp only; omega)⟩
      rw [List.take_add_one, hx, Option.toList_some]
      intro hm
      rcases List.mem_append.1 hm with hm | hm
      · exact hn hm
      · simp only [List.mem_singleton] at hm; exact e hm.symm
  · refine cond_f (by simp; omega) ⟨?_, h2⟩
    have : l.take q = l := List.take_of_length_le (by omega)
    rw [this] at hn
    rw [numI_none hn]

theorem numI_neg {l : List Nat} {x : Nat} : numI l x < 0 ↔ x ∉ l := by
  by_cases h : x ∈ l
  · obtain ⟨q, e, _⟩ := numI_some h; rw [e]; exact ⟨fun hh => by omega, fun hh => absurd h hh⟩
  · rw [numI_none h]; exact ⟨fun _ => h, fun _ => by omega⟩

/-- met: those of some refs that are live and were not met. -/
theorem met9_c (hm : H.WF) {G : List HP} {p : Option Addr} {c : Nat} {out : List Nat} (hS : Sat (Own 24 1 p out.length c (words out) :: G) w) (k : Nat) (hk : G[k]? = some (Ro W S)) (hM : Mir S H hs r om) (hl : hs.length ≤ 1048576) (ho : Met H out)
    {ys : List Nat} {rp : Option Addr} {rl rc : Nat} (hrl : rl = ys.length) (hr : ∀ w, Sat G w → Reads w rp (words ys)) (hp : 0 < ys.length → ∃ a, rp = some a) (hyl : ys.length ≤ 1048576) (hcl : ∀ y ∈ ys, (H.look y).isSome = true → y ∈ hs) :
    Calls Try.prog 95 #[r.agg, .slice p out.length c, .slice rp rl rc] w fun e w' => ∃ p' c', e = .returned (.slice p' (meets H out ys).length c') ∧ Sat (Own 24 1 p' (meets H out ys).length c' (words (meets H out ys)) :: G) w' := by
  subst hrl
  have hmost := hm.tab.most
  refine S_ref9_met_ok r.p r.l r.c r.a0 r.a1 r.a2 r.a3 r.a4 r.a5 r.a6 r.a7 r.a8 r.a9 r.a10 r.a11 r.a12 r.a13 r.a14 r.a15 p out.length c rp ys.length rc w _ ?_
  unfold S_ref9_met
  refine NewC.ofRow hS fun b0 w1 h1 => ?_
  have h1 : Sat (Own 24 1 p out.length c (words out) :: Row b0 r.cells 44 :: G) w1 := Sat.pull h1 1 rfl
  refine ⟨fun p l c i w => ∃ q : Nat, i = q ∧ q ≤ ys.length ∧ l = (meets H out (ys.take q)).length ∧ Sat (Own 24 1 p l c (words (meets H out (ys.take q))) :: Row b0 r.cells 44 :: G) w, fun _ _ _ i _ => (ys.length - i).toNat, ⟨0, rfl, by omega, rfl, h1⟩, ?_⟩
  rintro p2 l2 c2 i w2 ⟨q, rfl, hq, rfl, h2⟩
  unfold S_ref9_met_l0
  by_cases hlt : q < ys.length
  · refine cond_t (by simp; omega) ?_
    intro k0 hk0
    have hx : ys[q]? = some (ys[q]'hlt) := List.getElem?_eq_getElem hlt
    generalize ys[q]'hlt = y at hx
    have hMt := ho.meets (ys.take q)
    have hml := hMt.len hm
    have hnext : meets H out (ys.take (q + 1)) = meet H (meets H out (ys.take q)) y := by rw [List.take_add_one, hx, Option.toList_some, meets_snoc]
    generalize hcur : meets H out (ys.take q) = cur at h2 hml hnext hMt ⊢
    have fin : ∀ p' c' w', Sat (Own 24 1 p' (meet H cur y).length c' (words (meet H cur y)) :: Row b0 r.cells 44 :: G) w' → k0 p' (meet H cur y).length c' w' := by
      intro p' c' w' h'
      refine hk0 _ _ _ _ ?_
      unfold S_ref9_met_j0
      rw [wrapI64 (by omega) (by omega)]
      exact ⟨⟨q + 1, by omega, by omega, by rw [hnext], by rw [hnext]; exact h'⟩, by first | omega | (dsimp only; omega)⟩
    have h3 := h2.drew
    generalize w2.drew = w3 at h3
    refine ⟨fun w => Sat (Own 24 1 p2 cur.length c2 (words cur) :: Row b0 r.cells 44 :: G) w, h3, ?_⟩
    have hrd : ∀ w, Sat (Own 24 1 p2 cur.length c2 (words cur) :: Row b0 r.cells 44 :: G) w → Reads w rp (words ys) := fun w hw => hr w hw.drop.drop
    have idx : ∀ {K : Int → Prop}, K y → IdxC rp ys.length (q : Int) 1 fun a => LdIQ .u64 (fun w => Sat (Own 24 1 p2 cur.length c2 (words cur) :: Row b0 r.cells 44 :: G) w) a K := by
      intro K hK
      obtain ⟨a, rfl⟩ := hp (by omega)
      refine ⟨by omega, by omega, (y : Int), fun w hw => ?_, hK⟩
      refine LdI.cell (n := (y : Int)) ?_ rfl
      have := hrd w hw a rfl (q * 1) (.int .u64 (y : Int)) (by simp [words, hx])
      simpa using this
    refine idx ?_
    by_cases hy0 : y = 0
    · subst hy0
      refine cond_f rfl ?_
      have hme : meet H cur 0 = cur := by unfold meet; rw [look_zero hm]; simp
      have := fin p2 c2 w3 (by rw [hme]; exact h3)
      rw [hme] at this
      exact this
    refine cond_t (by simpa using hy0) ?_
    refine qRh (r := r) (b := b0) (T := 44) (fun w hw => ⟨_, Sat.pull hw 1 rfl⟩) ?_
    refine idx ?_
    refine (at9_c (r := r) h3 (k + 2) (by simpa using hk) hM hl y).mono ?_
    rintro e w4 ⟨rfl, h4⟩
    refine ⟨_, rfl, h4, ?_⟩
    by_cases hlv : y ∈ hs
    · have hn : ¬ numI hs y < 0 := fun hh => numI_neg.1 hh hlv
      refine cond_t (by simpa using hn) ?_
      refine idx ?_
      refine (number9_c h4 (fun w hw => hw.reads 0 rfl) (fun hh => by obtain ⟨g, hg⟩ := h4.own_some 0 rfl hh; exact ⟨_, hg⟩) (by omega) y).mono ?_
      rintro e w5 ⟨rfl, h5⟩
      have hls := hM.live y hlv
      first
        | refine ⟨_, rfl, ?_⟩
        | skip
      by_cases hin : y ∈ cur
      · have hme : meet H cur y = cur := by unfold meet; rw [if_neg (fun hh => hh.2 hin)]
        have hn2 : ¬ numI cur y < 0 := fun hh => numI_neg.1 hh hin
        refine cond_f (by simpa using hn2) ?_
        have := fin p2 c2 w5 (by rw [hme]; exact h5)
        rw [hme] at this
        exact this
      · have hme : meet H cur y = cur ++ [y] := by unfold meet; rw [if_pos ⟨hls, hin⟩]
        refine cond_t (by simpa using numI_neg.2 hin) ?_
        refine rd_reads (hrd w5 h5) hp rfl hx rfl fun a ha => ?_
        refine LdI.cell ha ?_
        refine RunS.one eok_u64 h5 0 rfl (by rfl) (by rfl) (by omega) (by simp only [maxLen]; omega) fun p' c' w6 h6 => ?_
        have := fin p' c' w6 (by rw [hme, words_snoc, List.length_append, List.length_singleton]; exact h6)
        rw [hme, List.length_append, List.length_singleton] at this
        exact this
    · refine cond_f (by simpa using numI_neg.2 hlv) ?_
      have hls : ¬ (H.look y).isSome = true := fun hh => hlv (hcl y (List.mem_of_getElem? hx) hh)
      have hme : meet H cur y = cur := by unfold meet; rw [if_neg (fun hh => hls hh.1)]
      have := fin p2 c2 w4 (by rw [hme]; exact h4)
      rw [hme] at this
      exact this
  · refine cond_f (by simp; omega) ?_
    have htk : ys.take q = ys := List.take_of_length_le (by omega)
    rw [htk] at h2 ⊢
    exact ⟨p2, c2, rfl, (Sat.pull h2 1 rfl).drop⟩

theorem order9_c (hm : H.WF) (hS : Sat L w) (k : Nat) (hk : L[k]? = some (Ro W S)) (hM : Mir S H hs r om) (hl : hs.length ≤ 1048576) : Calls Try.prog 61 #[r.agg] w fun e w' =>
    ∃ p c, e = .returned (.slice p (order H).length c) ∧ Sat (Own 24 1 p (order H).length c (words (order H)) :: L) w' := by
  have hmost := hm.tab.most
  refine S_ref9_order_ok r.p r.l r.c r.a0 r.a1 r.a2 r.a3 r.a4 r.a5 r.a6 r.a7 r.a8 r.a9 r.a10 r.a11 r.a12 r.a13 r.a14 r.a15 w _ ?_
  unfold S_ref9_order
  refine NewC.ofRow hS fun b0 w1 h1 => ?_
  have h1 : Sat (Row b0 r.cells 44 :: L) w1.drew := h1.drew
  generalize w1.drew = w2 at h1
  refine ldRh h1 0 rfl ?_
  have hreads : ∀ w, Sat (Row b0 r.cells 44 :: L) w → Reads w (some (Addr.add ⟨b0, 0, none⟩ 1)) (words H.roots) := by
    intro w hw a ha j v hj
    cases ha
    rw [add_mk, add_mk, Nat.zero_add]
    refine hw.cell 0 rfl ?_
    rw [← hM.roots] at hj
    rw [Nat.add_comm]
    exact hj
  refine (met9_c hm (r := r) (out := []) (h1.ownNil 24 1) (k + 1) (by simpa using hk) hM hl ⟨List.nodup_nil, fun _ h => (by cases h)⟩ (ys := H.roots) (rl := 16) hm.rlen.symm hreads (fun _ => ⟨_, rfl⟩) (by rw [hm.rlen]; omega) (fun y hy hl => hM.cls y hl (.inl hy))).mono ?_
  rintro e w3 ⟨p, c, rfl, h3⟩
  refine ⟨_, _, _, rfl, ?_⟩
  have hwl : ∀ k, (walkTo H k).length ≤ H.t.n := fun k => (met_walk H k).len hm
  refine ⟨fun p l c i w => ∃ q : Nat, i = q ∧ q ≤ (walkTo H q).length ∧ l = (walkTo H q).length ∧ Sat (Own 24 1 p l c (words (walkTo H q)) :: Row b0 r.cells 44 :: L) w, fun _ _ _ i _ => (H.t.n - i).toNat, ⟨0, rfl, by omega, rfl, h3⟩, ?_⟩
  rintro p4 l4 c4 i w4 ⟨q, rfl, hq, rfl, h4⟩
  have hqn := hwl q
  unfold S_ref9_order_l0
  by_cases hlt : q < (walkTo H q).length
  · refine cond_t (by simp; omega) ?_
    have hx : (walkTo H q)[q]? = some ((walkTo H q)[q]'hlt) := List.getElem?_eq_getElem hlt
    generalize (walkTo H q)[q]'hlt = x at hx
    have hlv := (met_walk H q).live x (List.mem_of_getElem? hx)
    obtain ⟨o, hox⟩ := Option.isSome_iff_exists.1 hlv
    have hstep : walkTo H (q + 1) = meets H (walkTo H q) (refsOf H x) := by
      show walkStep H q (walkTo H q) = _
      unfold walkStep; rw [hx]
    have h5 := h4.drew
    generalize w4.drew = w5 at h5
    refine ⟨fun w => Sat (Own 24 1 p4 (walkTo H q).length c4 (words (walkTo H q)) :: Row b0 r.cells 44 :: L) w, h5, ?_⟩
    refine qRh (r := r) (b := b0) (T := 44) (fun w hw => ⟨_, Sat.pull hw 1 rfl⟩) ?_
    refine ⟨_, _, _, fun w hw => LdS.of hw 1 rfl (off := 0) rfl rfl rfl, ?_⟩
    refine qRh (r := r) (b := b0) (T := 44) (fun w hw => ⟨_, Sat.pull hw 1 rfl⟩) ?_
    refine own_wordQ h5 0 rfl (fun w hw => ⟨_, 0, hw, rfl⟩) rfl hx rfl ?_
    refine (at9_c (r := r) h5 (k + 2) (by simpa using hk) hM hl x).mono ?_
    rintro e w6 ⟨rfl, h6⟩
    have hxm := hM.walk q x (List.mem_of_getElem? hx)
    obtain ⟨j, hj, hjx⟩ := numI_some hxm
    rw [hj]
    refine ⟨_, rfl, h6, ?_⟩
    have hw6 := h6.has (k + 2) (by simpa using hk)
    refine rd_ob hM hw6 hjx rfl fun a y hy1 hy2 hy3 hc => ?_
    refine ⟨_, _, _, fun w hw => LdS.cell (hc w (hw.has (k + 2) (by simpa using hk))).2.2.1 rfl, ?_⟩
    have hro : (rob H x).refs = refsOf H x := by unfold rob refsOf; rw [hox]
    have hyr := hy3.refs
    rw [hy2, hro] at hyr
    rw [hro]
    have hrl := (look_ok hm hox).refs
    have hrz := (look_ok hm hox).size
    have hrlen := refsOf_len hm hox
    refine (met9_c hm (r := r) h6 (k + 1) (by simpa using hk) hM hl (met_walk H q) (ys := refsOf H x) (rl := (refsOf H x).length) rfl (fun w hw => reads_CRs hyr (hw.has (k + 1) (by simpa using hk))) (some_CRs hyr) (by omega) (fun y hy hl => hM.cls y hl (.inr ⟨x, hxm, hy⟩))).mono ?_
    rintro e w7 ⟨p', c', rfl, h7⟩
    refine ⟨_, _, _, rfl, ?_⟩
    rw [wrapI64 (by omega) (by omega)]
    have hk1 : q + 1 ≤ (walkTo H (q + 1)).length := by
      have := (walk_pre (H := H) q).length_le
      omega
    refine ⟨⟨q + 1, by omega, hk1, by rw [hstep], by rw [hstep]; exact h7⟩, by first | omega | (dsimp only; omega)⟩
  · have hke : (walkTo H q).length = q := by omega
    refine cond_f (by simp; omega) ?_
    rw [order_eq hm hke]
    exact ⟨p4, c4, rfl, (Sat.pull h4 1 rfl).drop⟩
end
end Go.Proofs.Ytdfdmboljidhnaa
