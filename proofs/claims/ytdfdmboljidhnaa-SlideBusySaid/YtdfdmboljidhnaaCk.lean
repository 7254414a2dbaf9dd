
/- What 'Live' and 'Check' come to. -/
import Derived.Test.YtdfdmboljidhnaaWk
import Derived.Test.YtdfdmboljidhnaaHB
set_option maxRecDepth 100000
namespace Go.Hm
open Go Go.Lw Go.Wd Go.Am Go.Tb
/-- how many words an object takes. -/
def sz (H : Hp) (x : Nat) : Nat := match H.look x with | some o => o.w.length + 1 | none => 1
def wordsOf (H : Hp) (l : List Nat) : Nat := (l.map (sz H)).foldl (· + ·) 0
theorem foldl_add (l : List Nat) (a : Nat) : l.foldl (· + ·) a = a + l.foldl (· + ·) 0 := by
  induction l generalizing a with
  | nil => rfl
  | cons x l ih => rw [List.foldl_cons, ih, List.foldl_cons, ih (0 + x)]; omega
theorem wordsOf_snoc (H : Hp) (l : List Nat) (x : Nat) : wordsOf H (l ++ [x]) = wordsOf H l + sz H x := by simp [wordsOf]
theorem wordsOf_le {H : Hp} (hm : H.WF) (l : List Nat) : wordsOf H l ≤ 8192 * l.length := by
  induction l with
  | nil => simp [wordsOf]
  | cons x l ih =>
    have : sz H x ≤ 8192 := by
      unfold sz
      cases h : H.look x with
      | none => simp
      | some o => have := (look_ok hm h).size; simp only; omega
    unfold wordsOf at ih ⊢
    rw [List.map_cons, List.foldl_cons, foldl_add, List.length_cons]
    omega
/-- what is stored is live. -/
structure Hp.Closed (H : Hp) : Prop where
  roots : ∀ x ∈ H.roots, H.may x = true
  refs : ∀ x, ∀ y ∈ refsOf H x, H.may y = true
theorem live_mem {t : Tab} (h : t.WF) {x : Nat} (hx : x ∈ t.live) : ∃ i, t.find x = some i := by
  unfold Tab.live at hx
  obtain ⟨i, hi, h1⟩ := List.mem_filterMap.1 hx
  have hin := List.mem_range.1 hi
  have hmo := h.most
  split at h1
  · rename_i ht
    cases h1
    unfold Tab.takenAt at ht
    cases hs : t.L[i]? with
    | none => rw [hs] at ht; cases ht
    | some s =>
      rw [hs] at ht
      exact ⟨i, find_of (by omega) hs ht (genAt_of hs).symm⟩
  · cases h1
theorem live_len (t : Tab) : t.live.length ≤ t.n := by rw [live_eq]; exact liveTo_len t _
theorem live_u64 {t : Tab} (h : t.WF) {x : Nat} (hx : x ∈ t.live) : x < 18446744073709551616 := by
  obtain ⟨i, hi⟩ := live_mem h hx
  obtain ⟨h1, s, h2, h3, h4⟩ := tfind_iff.1 hi
  have := h.gen _ _ h2
  omega
/-! Places of objects, one behind the other. -/
theorem findL_pos : ∀ {l : List Ob} {k j : Nat} {o : Ob}, l[j]? = some o → findL k l (k + osz (l.take j)) = some o
  | [], _, _, _, h => by simp at h
  | p :: l, k, 0, o, h => by simp at h; subst h; simp [findL, osz]
  | p :: l, k, j + 1, o, h => by
    simp only [List.getElem?_cons_succ] at h
    simp only [findL, List.take_succ_cons, osz]
    rw [if_neg (by omega)]
    have := findL_pos (k := k + 1 + p.w.length) h
    rw [show k + (1 + p.w.length + osz (l.take j)) = k + 1 + p.w.length + osz (l.take j) by omega]
    exact this
theorem osz_take_succ : ∀ {l : List Ob} {j : Nat} {o : Ob}, l[j]? = some o → osz (l.take (j + 1)) = osz (l.take j) + 1 + o.w.length
  | [], _, _, h => by simp at h
  | p :: l, 0, o, h => by simp at h; subst h; simp [osz]
  | p :: l, j + 1, o, h => by
    simp only [List.getElem?_cons_succ] at h
    have := osz_take_succ h
    simp only [List.take_succ_cons, osz] at this ⊢
    omega
end Go.Hm
namespace Go.Proofs.Ytdfdmboljidhnaa
open Go Go.Lw Go.Wd Go.Am Go.Tb Go.Hm
section
variable {H : Hp} {v : Value} {b : Nat} {F : List HP} {w : World}
theorem check_c (hs : Sat (HeapH H v b :: F) w) (hc : H.Closed) (hop : H.m.op = false) : Calls Try.prog 34 #[.pointer (some ⟨b, 0, none⟩)] w (Ret (.int .i64 0) (Sat (HeapH H v b :: F))) := by
  obtain ⟨hm, ba, bt, h0⟩ := heap_open hs
  have hmost := hm.tab.most
  have hol := (order_met (H := H)).len hm
  refine S_heap_Heap_Check_ok _ _ _ ?_
  unfold S_heap_Heap_Check
  simp only [onSome_some]
  refine LdP.of h0 0 rfl (off := 1) rfl (add_mk _ _ _) ?_
  refine (live_c (h0.pull 2 rfl)).mono ?_
  rintro e w1 ⟨p, l, c, rfl, rfl, h1⟩
  refine ⟨_, _, _, rfl, ?_⟩
  have h2 : Sat (HeapH H v b :: Own 24 1 p H.t.live.length c (words H.t.live) :: F) w1 := heap_shut hm (ba := ba) (bt := bt) (((h1.pull 1 rfl).pull 3 rfl).pull 3 rfl)
  have hll := live_len H.t
  clear h0 h1
  refine ⟨fun i w => ∃ k : Nat, i = k ∧ k ≤ H.t.live.length ∧ Sat (HeapH H v b :: Own 24 1 p H.t.live.length c (words H.t.live) :: F) w, fun i _ => (H.t.live.length - i).toNat, ⟨0, rfl, by omega, h2⟩, ?_⟩
  rintro i w2 ⟨k, rfl, hk, h3⟩
  unfold S_heap_Heap_Check_l4
  simp only [onSome_some]
  by_cases hlt : k < H.t.live.length
  · refine cond_t (by simp; omega) ?_
    have hx : H.t.live[k]? = some (H.t.live[k]'hlt) := List.getElem?_eq_getElem hlt
    generalize H.t.live[k]'hlt = x at hx
    obtain ⟨i, hi⟩ := live_mem hm.tab (List.mem_of_getElem? hx)
    have hu := live_u64 hm.tab (List.mem_of_getElem? hx)
    obtain ⟨o, g1, g2, g3, g4⟩ := look_find hm hi
    refine own_word h3 1 rfl rfl hx rfl ?_
    obtain ⟨_, ba, bt, h4⟩ := heap_open h3
    refine LdP.of h4 0 rfl (off := 1) rfl (add_mk _ _ _) ?_
    refine (slot_c (h4.pull 2 rfl) hu).mono ?_
    rintro e w3 ⟨rfl, rfl⟩
    rw [hi]
    refine ⟨_, _, rfl, ?_⟩
    refine (hfind_c h3 hu).mono ?_
    rintro e w4 ⟨rfl, h5⟩
    rw [g1]
    refine ⟨_, _, _, _, _, _, _, rfl, ?_⟩
    refine NewC.ofRow h5 fun d w5 h6 => ?_
    refine st5 h6 0 rfl fun w6 h7 => ?_
    refine cond_f rfl ?_
    refine LdI.of h7 0 rfl (off := 4) rfl (add_mk _ _ _) ?_
    refine cond_f (by simp [g3]) ?_
    rw [wrapI64 (by omega) (by omega)]
    exact ⟨⟨k + 1, by omega, by omega, h7.drop⟩, by first | omega | (dsimp only; omega)⟩
  · refine cond_f (by simp; omega) ?_
    have h3 : Sat (HeapH H v b :: F) w2 := h3.p1.drop
    clear h2 hs
    obtain ⟨_, ba, bt, h4⟩ := heap_open h3
    refine LdP.of h4 0 rfl (off := 0) rfl rfl ?_
    refine (first2 (h4.pull 1 rfl)).mono ?_
    rintro e w3 ⟨rfl, rfl⟩
    refine ⟨_, rfl, ?_⟩
    clear h4
    have hnx : ∀ k, H.m.next k = k := fun k => by simp [Am.next, hop]
    have htop : H.m.top = osz H.m.low := by simp [Am.top, hop]
    have hhigh := (hm.am.shut hop).2
    rw [hnx]
    have hle := hm.am.top
    have hmm := hm.am.most
    refine ⟨fun a w => ∃ j : Nat, a = (osz (H.m.low.take j) : Nat) ∧ j ≤ H.m.low.length ∧ Sat (HeapH H v b :: F) w, fun a _ => (H.m.top - a).toNat, ⟨0, rfl, by omega, h3⟩, ?_⟩
    rintro a w3 ⟨j, rfl, hj, h4⟩
    unfold S_heap_Heap_Check_l3
    simp only [onSome_some]
    obtain ⟨_, ba, bt, h5⟩ := heap_open h4
    refine LdP.of h5 0 rfl (off := 0) rfl rfl ?_
    refine (top2 (h5.pull 1 rfl)).mono ?_
    rintro e w4 ⟨rfl, rfl⟩
    refine ⟨_, rfl, ?_⟩
    by_cases hjl : j < H.m.low.length
    · have ho : H.m.low[j]? = some (H.m.low[j]'hjl) := List.getElem?_eq_getElem hjl
      generalize H.m.low[j]'hjl = o at ho
      have hsu := osz_take_succ ho
      have hup : osz (H.m.low.take (j + 1)) ≤ osz H.m.low := by
        have : ∀ (l : List Ob) (k : Nat), osz (l.take k) ≤ osz l := fun l => by
          induction l with
          | nil => intro k; simp [osz]
          | cons p l ih =>
            intro k
            cases k with
            | zero => simp [osz]
            | succ k => simp only [List.take_succ_cons, osz]; have := ih k; omega
        exact this _ _
      have hfo : H.m.find (osz (H.m.low.take j)) = some o := by
        have := findL_pos (k := 0) ho
        rw [Nat.zero_add] at this
        simp [Am.find, this]
      refine cond_t (by simp; omega) ?_
      refine LdP.of h5 0 rfl (off := 0) rfl rfl ?_
      refine (head2 (h5.pull 1 rfl) _).mono ?_
      rw [findI_nat, hfo]
      rintro e w5 ⟨rfl, h6⟩
      refine ⟨_, _, _, _, _, _, rfl, ?_⟩
      refine NewC.ofRow h6 fun d w6 h7 => ?_
      refine st5 h7 0 rfl fun w7 h8 => ?_
      refine cond_f rfl ?_
      have h9 : Sat (Row d [.int .i64 (o.tag : Nat), .int .i64 (o.refs : Nat), .int .i64 (o.w.length : Nat), .bool o.mark, .int .i64 (o.owner : Nat)] 124 :: Arena H.m ba :: Row b (hrow ba bt H.roots v) 88 :: Tbl H.t bt :: F) w7.drew := h8.drew
      generalize w7.drew = w8 at h9
      refine ⟨fun w => Sat (Row d [.int .i64 (o.tag : Nat), .int .i64 (o.refs : Nat), .int .i64 (o.w.length : Nat), .bool o.mark, .int .i64 (o.owner : Nat)] 124 :: Arena H.m ba :: Row b (hrow ba bt H.roots v) 88 :: Tbl H.t bt :: F) w, h9, ?_⟩
      refine LdPQ.row (fun w hw => ⟨_, hw.pull 2 rfl⟩) (off := 1) rfl (add_mk _ _ _) ?_
      refine LdIQ.row (fun w hw => ⟨_, hw⟩) (off := 4) rfl (add_mk _ _ _) ?_
      obtain ⟨s, k1, k2, k3⟩ := hm.back _ _ hfo
      have hown := get_lt k1
      have htl := hm.tab.len
      refine (of_c (h9.pull 3 rfl) _).mono ?_
      rintro e w9 ⟨rfl, rfl⟩
      rw [if_neg (by omega), Int.toNat_natCast, if_pos (by simp [Tab.takenAt, k1, k2])]
      refine ⟨_, _, rfl, cond_f rfl ?_⟩
      refine LdP.of h9 2 rfl (off := 1) rfl (add_mk _ _ _) ?_
      have hfd : H.t.find (hnd (H.t.genAt o.owner) o.owner) = some o.owner := find_of (by omega) k1 k2 (genAt_of k1).symm
      have hu : hnd (H.t.genAt o.owner) o.owner < 18446744073709551616 := by
        have := hm.tab.genAt_lt o.owner
        unfold hnd; omega
      refine (at_c (h9.pull 3 rfl) hu).mono ?_
      rintro e w9 ⟨rfl, rfl⟩
      rw [hfd]
      refine ⟨_, _, rfl, ?_⟩
      rw [tfind_at hfd k1, k3]
      refine cond_f (by simp) ?_
      refine LdP.of h9 2 rfl (off := 0) rfl rfl ?_
      refine (next2 (h9.pull 1 rfl) _).mono ?_
      rw [findI_nat, hfo]
      rintro e w9 ⟨rfl, h10⟩
      refine ⟨_, _, rfl, cond_f rfl ?_⟩
      rw [hnx, Int.toNat_natCast]
      have h11 : Sat (Arena H.m ba :: Row d _ _ :: Row b (hrow ba bt H.roots v) 88 :: Tbl H.t bt :: F) w9 := h10
      refine ⟨⟨j + 1, by omega, by omega, heap_shut hm (ba := ba) (bt := bt) (h11.p1.drop.p1)⟩, by first | omega | (dsimp only; omega)⟩
    · have hjl : j = H.m.low.length := by omega
      subst hjl
      rw [List.take_length]
      refine cond_f (by simp [htop]) ?_
      refine roots_ld h5 0 rfl hm.rlen fun n0 n1 n2 n3 n4 n5 n6 n7 n8 n9 n10 n11 n12 n13 n14 n15 hv => ?_
      clear h5
      refine ⟨fun i w => ∃ k : Nat, i = k ∧ k ≤ 16 ∧ Sat (HeapH H v b :: F) w, fun i _ => (16 - i).toNat, ⟨0, rfl, by omega, h4⟩, ?_⟩
      rintro i w4 ⟨k, rfl, hk, h5⟩
      unfold S_heap_Heap_Check_l2
      by_cases hlt : k < 16
      · refine cond_t (by simp; omega) ?_
        have hr := hm.rlen
        have hx : H.roots[k]? = some (H.roots[k]'(by omega)) := List.getElem?_eq_getElem (by omega)
        have hmem := List.getElem_mem (l := H.roots) (n := k) (by omega)
        refine idx_roots hv hr hx ?_
        refine (may_c h5 (hm.r64 _ hmem)).mono ?_
        rintro e w5 ⟨rfl, rfl⟩
        rw [hc.roots _ hmem, if_pos rfl]
        refine ⟨_, rfl, cond_f rfl ?_⟩
        rw [wrapI64 (by omega) (by omega)]
        exact ⟨⟨k + 1, by omega, by omega, h5⟩, by first | omega | (dsimp only; omega)⟩
      · refine cond_f (by simp; omega) ?_
        refine (walk_c h5).mono ?_
        rintro e w5 ⟨p, c, r, rfl, h6⟩
        refine ⟨_, _, _, _, rfl, ?_⟩
        refine ⟨fun i w => ∃ k : Nat, i = k ∧ k ≤ (order H).length ∧ Sat (HeapH H v b :: Own 24 1 p (order H).length c (words (order H)) :: Blk r (numObj (order H)) :: F) w, fun i _ => ((order H).length - i).toNat, ⟨0, rfl, by omega, h6⟩, ?_⟩
        rintro i w6 ⟨k, rfl, hk, h7⟩
        unfold S_heap_Heap_Check_l1
        by_cases hlt : k < (order H).length
        · refine cond_t (by simp; omega) ?_
          have hx : (order H)[k]? = some ((order H)[k]'hlt) := List.getElem?_eq_getElem hlt
          generalize (order H)[k]'hlt = x at hx
          obtain ⟨o, ho⟩ := order_look (List.mem_of_getElem? hx)
          have hro := (look_ok hm ho).refs; have hzo := (look_ok hm ho).size
          refine own_word h7 1 rfl rfl hx rfl ?_
          refine (hhead_c h7 (look_lt hm ho)).mono ?_
          rintro e w7 ⟨rfl, h8⟩
          rw [ho]
          refine ⟨_, _, _, _, rfl, ?_⟩
          refine ⟨fun j w => ∃ q : Nat, j = q ∧ q ≤ o.refs ∧ Sat (HeapH H v b :: Own 24 1 p (order H).length c (words (order H)) :: Blk r (numObj (order H)) :: F) w, fun j _ => (o.refs - j).toNat, ⟨0, rfl, by omega, h8⟩, ?_⟩
          rintro j w8 ⟨q, rfl, hq, h9⟩
          unfold S_heap_Heap_Check_l0
          by_cases hqr : q < o.refs
          · refine cond_t (by simp; omega) ?_
            have href : Hp.ref H x (q : Int) = (o.w.getD q 0, 0) := by simp only [Hp.ref, ho]; rw [if_pos (by omega), Int.toNat_natCast]
            refine (href_c h9 (look_lt hm ho) q).mono ?_
            rw [href]
            rintro e w9 ⟨rfl, h10⟩
            refine ⟨_, _, rfl, ?_⟩
            refine (may_c h10 (w_u64 hm ho q)).mono ?_
            rintro e w10 ⟨rfl, rfl⟩
            rw [hc.refs x _ (List.mem_of_getElem? (refsOf_get hm ho hqr)), if_pos rfl]
            refine ⟨_, rfl, cond_f rfl ?_⟩
            rw [wrapI64 (by omega) (by omega)]
            exact ⟨⟨q + 1, by omega, by omega, h10⟩, by first | omega | (dsimp only; omega)⟩
          · refine cond_f (by simp; omega) ?_
            rw [wrapI64 (by omega) (by omega)]
            exact ⟨⟨k + 1, by omega, by omega, h9⟩, by first | omega | (dsimp only; omega)⟩
        · exact cond_f (by simp; omega) ⟨rfl, h7.p1.drop.p1.drop⟩
end
end Go.Proofs.Ytdfdmboljidhnaa
