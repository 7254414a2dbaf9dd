
/- What 'Check' comes to while objects slide: the arena may be open, and only what is reached need hold live handles. -/
import Derived.Test.YtdfdmboljidhnaaKp
set_option maxRecDepth 100000
namespace Go.Am
open Go Go.Lw Go.Wd Go.Hm
/-- the places of an arena's objects, one behind the other. -/
def pos (m : Am) (j : Nat) : Nat := if j < m.low.length then osz (m.low.take j) else bif m.op then m.hi + osz (m.high.take (j - m.low.length)) else osz m.low
theorem osz_pos {l : List Ob} (h : 0 < l.length) : 0 < osz l := by
  cases l with
  | nil => simp at h
  | cons o l => simp only [osz]; omega
theorem pos_first {m : Am} (h : m.WF) : m.next 0 = pos m 0 := by
  unfold Am.next pos
  cases ho : m.op with
  | false =>
    by_cases hl : 0 < m.low.length
    · rw [if_pos hl]; simp [osz]
    · rw [if_neg hl]
      have : m.low = [] := List.eq_nil_of_length_eq_zero (by omega)
      rw [this]; rfl
  | true =>
    by_cases hl : 0 < m.low.length
    · rw [if_pos hl]
      have := osz_pos hl
      have e : (0 == osz m.low) = false := by simp; omega
      simp [e, osz]
    · rw [if_neg hl]
      have : m.low = [] := List.eq_nil_of_length_eq_zero (by omega)
      rw [this]; simp [osz]
theorem pos_last {m : Am} (h : m.WF) : pos m (m.low.length + m.high.length) = m.top := by
  unfold pos Am.top
  rw [if_neg (by omega)]
  cases ho : m.op with
  | false => rfl
  | true =>
    simp only [cond_true]
    rw [show m.low.length + m.high.length - m.low.length = m.high.length by omega, List.take_length]
theorem osz_take_lt2 : ∀ {l : List Ob} {i j : Nat}, i < j → j ≤ l.length → osz (l.take i) < osz (l.take j)
  | [], i, j, h, hj => by simp at hj; omega
  | o :: l, 0, j + 1, h, hj => by simp only [List.take_zero, List.take_succ_cons, osz]; omega
  | o :: l, i + 1, j + 1, h, hj => by
    have := osz_take_lt2 (l := l) (i := i) (j := j) (by omega) (by simpa using hj)
    simp only [List.take_succ_cons, osz]; omega
theorem pos_step {m : Am} (h : m.WF) {j : Nat} (hj : j < m.low.length + m.high.length) : ∃ o, m.find (pos m j) = some o ∧ m.next (pos m j + 1 + o.w.length) = pos m (j + 1) := by
  by_cases hl : j < m.low.length
  · have ho : m.low[j]? = some m.low[j] := List.getElem?_eq_getElem hl
    generalize m.low[j] = o at ho
    have hsu := osz_take_succ ho
    have e : pos m j = osz (m.low.take j) := by unfold pos; rw [if_pos hl]
    refine ⟨o, ?_, ?_⟩
    · rw [e]
      have := findL_pos (k := 0) ho
      rw [Nat.zero_add] at this
      unfold Am.find
      rw [this]; rfl
    · rw [e, ← hsu]
      by_cases hl2 : j + 1 < m.low.length
      · have hlt := osz_take_lt2 (l := m.low) hl2 (Nat.le_refl _)
        rw [List.take_length] at hlt
        unfold Am.next pos
        rw [if_pos hl2]
        have e2 : (osz (m.low.take (j + 1)) == osz m.low) = false := by simp; omega
        rw [e2, Bool.and_false]; rfl
      · have e3 : j + 1 = m.low.length := by omega
        rw [e3, List.take_length]
        unfold Am.next pos
        rw [if_neg (by omega), Nat.sub_self]
        cases ho2 : m.op <;> simp [osz]
  · have hop : m.op = true := by
      cases ho : m.op with
      | true => rfl
      | false => have := (h.shut ho).2; rw [this] at hj; simp at hj; omega
    have hg := h.gap hop
    obtain ⟨k, rfl⟩ := Nat.exists_eq_add_of_le (Nat.le_of_not_lt hl)
    have hk : k < m.high.length := by omega
    have ho : m.high[k]? = some m.high[k] := List.getElem?_eq_getElem hk
    generalize m.high[k] = o at ho
    have hsu := osz_take_succ ho
    have e : ∀ q, pos m (m.low.length + q) = m.hi + osz (m.high.take q) := fun q => by
      unfold pos; rw [if_neg (by omega), hop]; simp
    refine ⟨o, ?_, ?_⟩
    · rw [e]
      have := findL_pos (k := m.hi) ho
      unfold Am.find
      rw [findL_above (by omega), this]; rfl
    · rw [e, Nat.add_assoc m.low.length, e, hsu]
      unfold Am.next
      have e2 : (m.hi + osz (m.high.take k) + 1 + o.w.length == osz m.low) = false := by simp; omega
      rw [e2, Bool.and_false]
      simp only [cond_false]
      omega
theorem pos_grow {m : Am} (h : m.WF) {j : Nat} {o : Ob} (hj : j < m.low.length + m.high.length) (ho : m.find (pos m j) = some o) (hn : m.next (pos m j + 1 + o.w.length) = pos m (j + 1)) : pos m j < pos m (j + 1) := by
  rw [← hn]
  unfold Am.next
  cases hc : (m.op && (pos m j + 1 + o.w.length == osz m.low)) with
  | false => simp only [cond_false]; omega
  | true =>
    simp only [Bool.and_eq_true, beq_iff_eq] at hc
    have := h.gap hc.1
    simp only [cond_true]; omega
end Go.Am
namespace Go.Proofs.Ytdfdmboljidhnaa
open Go Go.Lw Go.Wd Go.Am Go.Tb Go.Hm
section
variable {H : Hp} {v : Value} {b : Nat} {F : List HP} {w : World}
theorem check2_c (hs : Sat (HeapH H v b :: F) w) (hcr : ∀ y ∈ H.roots, H.may y = true) (hcf : ∀ x ∈ order H, ∀ y ∈ refsOf H x, H.may y = true) : Calls Try.prog 34 #[.pointer (some ⟨b, 0, none⟩)] w (Ret (.int .i64 0) (Sat (HeapH H v b :: F))) := by
  obtain ⟨hm, ba, bt, h0⟩ := heap_open hs
  have hmost := hm.tab.most
  have hol := (order_met (H := H)).len hm
  refine S_heap_Heap_Check_ok _ _ _ ?_
  unfold S_heap_Heap_Check
  simp only [onSome_some]
  refine LdP.of h0 0 rfl (off := 1) rfl (add_mk _ _ _) ?_
  refine (live_c (h0.pull 2 rfl)).mono ?_
  rintro e w1 ⟨p, l, c, rfl, rfl, h1⟩
  refine ⟨_, _, _, rfl, ?_⟩
  have h2 : Sat (HeapH H v b :: Own 24 1 p H.t.live.length c (words H.t.live) :: F) w1 := heap_shut hm (ba := ba) (bt := bt) (((h1.pull 1 rfl).pull 3 rfl).pull 3 rfl)
  have hll := live_len H.t
  clear h0 h1
  refine ⟨fun i w => ∃ k : Nat, i = k ∧ k ≤ H.t.live.length ∧ Sat (HeapH H v b :: Own 24 1 p H.t.live.length c (words H.t.live) :: F) w, fun i _ => (H.t.live.length - i).toNat, ⟨0, rfl, by omega, h2⟩, ?_⟩
  rintro i w2 ⟨k, rfl, hk, h3⟩
  unfold S_heap_Heap_Check_l4
  simp only [onSome_some]
  by_cases hlt : k < H.t.live.length
  · refine cond_t (by simp; omega) ?_
    have hx : H.t.live[k]? = some (H.t.live[k]'hlt) := List.getElem?_eq_getElem hlt
    generalize H.t.live[k]'hlt = x at hx
    obtain ⟨i, hi⟩ := live_mem hm.tab (List.mem_of_getElem? hx)
    have hu := live_u64 hm.tab (List.mem_of_getElem? hx)
    obtain ⟨o, g1, g2, g3, g4⟩ := look_find hm hi
    refine own_word h3 1 rfl rfl hx rfl ?_
    obtain ⟨_, ba, bt, h4⟩ := heap_open h3
    refine LdP.of h4 0 rfl (off := 1) rfl (add_mk _ _ _) ?_
    refine (slot_c (h4.pull 2 rfl) hu).mono ?_
    rintro e w3 ⟨rfl, rfl⟩
    rw [hi]
    refine ⟨_, _, rfl, ?_⟩
    refine (hfind_c h3 hu).mono ?_
    rintro e w4 ⟨rfl, h5⟩
    rw [g1]
    refine ⟨_, _, _, _, _, _, _, rfl, ?_⟩
    refine NewC.ofRow h5 fun d w5 h6 => ?_
    refine st5 h6 0 rfl fun w6 h7 => ?_
    refine cond_f rfl ?_
    refine LdI.of h7 0 rfl (off := 4) rfl (add_mk _ _ _) ?_
    refine cond_f (by simp [g3]) ?_
    rw [wrapI64 (by omega) (by omega)]
    exact ⟨⟨k + 1, by omega, by omega, h7.drop⟩, by first | omega | (dsimp only; omega)⟩
  · refine cond_f (by simp; omega) ?_
    have h3 : Sat (HeapH H v b :: F) w2 := h3.p1.drop
    clear h2 hs
    obtain ⟨_, ba, bt, h4⟩ := heap_open h3
    refine LdP.of h4 0 rfl (off := 0) rfl rfl ?_
    refine (first2 (h4.pull 1 rfl)).mono ?_
    rintro e w3 ⟨rfl, rfl⟩
    refine ⟨_, rfl, ?_⟩
    clear h4
    have hle := hm.am.top
    have hmm := hm.am.most
    rw [pos_first hm.am]
    have htl := pos_last hm.am
    refine ⟨fun a w => ∃ j : Nat, a = (pos H.m j : Nat) ∧ j ≤ H.m.low.length + H.m.high.length ∧ Sat (HeapH H v b :: F) w, fun a _ => (H.m.top - a).toNat, ⟨0, rfl, by omega, h3⟩, ?_⟩
    rintro a w3 ⟨j, rfl, hj, h4⟩
    unfold S_heap_Heap_Check_l3
    simp only [onSome_some]
    obtain ⟨_, ba, bt, h5⟩ := heap_open h4
    refine LdP.of h5 0 rfl (off := 0) rfl rfl ?_
    refine (top2 (h5.pull 1 rfl)).mono ?_
    rintro e w4 ⟨rfl, rfl⟩
    refine ⟨_, rfl, ?_⟩
    by_cases hjl : j < H.m.low.length + H.m.high.length
    · obtain ⟨o, hfo, hnext⟩ := pos_step hm.am hjl
      have hft := hm.am.find_top hfo
      refine cond_t (by simp; omega) ?_
      refine LdP.of h5 0 rfl (off := 0) rfl rfl ?_
      refine (head2 (h5.pull 1 rfl) _).mono ?_
      rw [findI_nat, hfo]
      rintro e w5 ⟨rfl, h6⟩
      refine ⟨_, _, _, _, _, _, rfl, ?_⟩
      refine NewC.ofRow h6 fun d w6 h7 => ?_
      refine st5 h7 0 rfl fun w7 h8 => ?_
      refine cond_f rfl ?_
      have h9 : Sat (Row d [.int .i64 (o.tag : Nat), .int .i64 (o.refs : Nat), .int .i64 (o.w.length : Nat), .bool o.mark, .int .i64 (o.owner : Nat)] 124 :: Arena H.m ba :: Row b (hrow ba bt H.roots v) 88 :: Tbl H.t bt :: F) w7.drew := h8.drew
      generalize w7.drew = w8 at h9
      refine ⟨fun w => Sat (Row d [.int .i64 (o.tag : Nat), .int .i64 (o.refs : Nat), .int .i64 (o.w.length : Nat), .bool o.mark, .int .i64 (o.owner : Nat)] 124 :: Arena H.m ba :: Row b (hrow ba bt H.roots v) 88 :: Tbl H.t bt :: F) w, h9, ?_⟩
      refine LdPQ.row (fun w hw => ⟨_, hw.pull 2 rfl⟩) (off := 1) rfl (add_mk _ _ _) ?_
      refine LdIQ.row (fun w hw => ⟨_, hw⟩) (off := 4) rfl (add_mk _ _ _) ?_
      obtain ⟨s, k1, k2, k3⟩ := hm.back _ _ hfo
      have hown := get_lt k1
      have htl := hm.tab.len
      refine (of_c (h9.pull 3 rfl) _).mono ?_
      rintro e w9 ⟨rfl, rfl⟩
      rw [if_neg (by omega), Int.toNat_natCast, if_pos (by simp [Tab.takenAt, k1, k2])]
      refine ⟨_, _, rfl, cond_f rfl ?_⟩
      refine LdP.of h9 2 rfl (off := 1) rfl (add_mk _ _ _) ?_
      have hfd : H.t.find (hnd (H.t.genAt o.owner) o.owner) = some o.owner := find_of (by omega) k1 k2 (genAt_of k1).symm
      have hu : hnd (H.t.genAt o.owner) o.owner < 18446744073709551616 := by
        have := hm.tab.genAt_lt o.owner
        unfold hnd; omega
      refine (at_c (h9.pull 3 rfl) hu).mono ?_
      rintro e w9 ⟨rfl, rfl⟩
      rw [hfd]
      refine ⟨_, _, rfl, ?_⟩
      rw [tfind_at hfd k1, k3]
      refine cond_f (by simp) ?_
      refine LdP.of h9 2 rfl (off := 0) rfl rfl ?_
      refine (next2 (h9.pull 1 rfl) _).mono ?_
      rw [findI_nat, hfo]
      rintro e w9 ⟨rfl, h10⟩
      refine ⟨_, _, rfl, cond_f rfl ?_⟩
      rw [Int.toNat_natCast, hnext]
      have h11 : Sat (Arena H.m ba :: Row d _ _ :: Row b (hrow ba bt H.roots v) 88 :: Tbl H.t bt :: F) w9 := h10
      have hgr := pos_grow hm.am hjl hfo hnext
      refine ⟨⟨j + 1, rfl, by omega, heap_shut hm (ba := ba) (bt := bt) (h11.p1.drop.p1)⟩, by first | omega | (dsimp only; omega)⟩
    · have hjl : j = H.m.low.length + H.m.high.length := by omega
      subst hjl
      rw [htl]
      refine cond_f (by simp) ?_
      refine roots_ld h5 0 rfl hm.rlen fun n0 n1 n2 n3 n4 n5 n6 n7 n8 n9 n10 n11 n12 n13 n14 n15 hv => ?_
      clear h5
      refine ⟨fun i w => ∃ k : Nat, i = k ∧ k ≤ 16 ∧ Sat (HeapH H v b :: F) w, fun i _ => (16 - i).toNat, ⟨0, rfl, by omega, h4⟩, ?_⟩
      rintro i w4 ⟨k, rfl, hk, h5⟩
      unfold S_heap_Heap_Check_l2
      by_cases hlt : k < 16
      · refine cond_t (by simp; omega) ?_
        have hr := hm.rlen
        have hx : H.roots[k]? = some (H.roots[k]'(by omega)) := List.getElem?_eq_getElem (by omega)
        have hmem := List.getElem_mem (l := H.roots) (n := k) (by omega)
        refine idx_roots hv hr hx ?_
        refine (may_c h5 (hm.r64 _ hmem)).mono ?_
        rintro e w5 ⟨rfl, rfl⟩
        rw [hcr _ hmem, if_pos rfl]
        refine ⟨_, rfl, cond_f rfl ?_⟩
        rw [wrapI64 (by omega) (by omega)]
        exact ⟨⟨k + 1, by omega, by omega, h5⟩, by first | omega | (dsimp only; omega)⟩
      · refine cond_f (by simp; omega) ?_
        refine (walk_c h5).mono ?_
        rintro e w5 ⟨p, c, r, rfl, h6⟩
        refine ⟨_, _, _, _, rfl, ?_⟩
        refine ⟨fun i w => ∃ k : Nat, i = k ∧ k ≤ (order H).length ∧ Sat (HeapH H v b :: Own 24 1 p (order H).length c (words (order H)) :: Blk r (numObj (order H)) :: F) w, fun i _ => ((order H).length - i).toNat, ⟨0, rfl, by omega, h6⟩, ?_⟩
        rintro i w6 ⟨k, rfl, hk, h7⟩
        unfold S_heap_Heap_Check_l1
        by_cases hlt : k < (order H).length
        · refine cond_t (by simp; omega) ?_
          have hx : (order H)[k]? = some ((order H)[k]'hlt) := List.getElem?_eq_getElem hlt
          generalize (order H)[k]'hlt = x at hx
          obtain ⟨o, ho⟩ := order_look (List.mem_of_getElem? hx)
          have hro := (look_ok hm ho).refs; have hzo := (look_ok hm ho).size
          refine own_word h7 1 rfl rfl hx rfl ?_
          refine (hhead_c h7 (look_lt hm ho)).mono ?_
          rintro e w7 ⟨rfl, h8⟩
          rw [ho]
          refine ⟨_, _, _, _, rfl, ?_⟩
          refine ⟨fun j w => ∃ q : Nat, j = q ∧ q ≤ o.refs ∧ Sat (HeapH H v b :: Own 24 1 p (order H).length c (words (order H)) :: Blk r (numObj (order H)) :: F) w, fun j _ => (o.refs - j).toNat, ⟨0, rfl, by omega, h8⟩, ?_⟩
          rintro j w8 ⟨q, rfl, hq, h9⟩
          unfold S_heap_Heap_Check_l0
          by_cases hqr : q < o.refs
          · refine cond_t (by simp; omega) ?_
            have href : Hp.ref H x (q : Int) = (o.w.getD q 0, 0) := by simp only [Hp.ref, ho]; rw [if_pos (by omega), Int.toNat_natCast]
            refine (href_c h9 (look_lt hm ho) q).mono ?_
            rw [href]
            rintro e w9 ⟨rfl, h10⟩
            refine ⟨_, _, rfl, ?_⟩
            refine (may_c h10 (w_u64 hm ho q)).mono ?_
            rintro e w10 ⟨rfl, rfl⟩
            rw [hcf x (List.mem_of_getElem? hx) _ (List.mem_of_getElem? (refsOf_get hm ho hqr)), if_pos rfl]
            refine ⟨_, rfl, cond_f rfl ?_⟩
            rw [wrapI64 (by omega) (by omega)]
            exact ⟨⟨q + 1, by omega, by omega, h10⟩, by first | omega | (dsimp only; omega)⟩
          · refine cond_f (by simp; omega) ?_
            rw [wrapI64 (by omega) (by omega)]
            exact ⟨⟨k + 1, by omega, by omega, h9⟩, by first | omega | (dsimp only; omega)⟩
        · exact cond_f (by simp; omega) ⟨rfl, h7.p1.drop.p1.drop⟩
end
end Go.Proofs.Ytdfdmboljidhnaa
