
/- What the package mark's functions come to, over a marking as data. -/
import Derived.Test.YtdfdmboljidhnaaMm
import Derived.Test.YtdfdmboljidhnaaHB
import Derived.Test.YtdfdmboljidhnaaRl
set_option maxRecDepth 100000
namespace Go.Proofs.Ytdfdmboljidhnaa
open Go Go.Lw Go.Wd Go.Am Go.Tb Go.Hm

/-- A marker in memory. -/
def MkH (b mb : Nat) (st : List Nat) (run : Bool) : HP := HEx fun q : Option Addr × Nat => star (Row mb [.pointer (some ⟨b, 0, none⟩), .slice q.1 st.length q.2, .bool run] 138) (Own 24 1 q.1 st.length q.2 (words st))
theorem mk_open {b mb : Nat} {st : List Nat} {run : Bool} {F : List HP} {w : World} (hs : Sat (MkH b mb st run :: F) w) : ∃ p c, Sat (Row mb [.pointer (some ⟨b, 0, none⟩), .slice p st.length c, .bool run] 138 :: Own 24 1 p st.length c (words st) :: F) w := by
  obtain ⟨⟨p, c⟩, h⟩ := hs.ex
  exact ⟨p, c, h.split⟩
theorem mk_shut {b mb : Nat} {st : List Nat} {run : Bool} {F : List HP} {w : World} {p : Option Addr} {c : Nat} (hs : Sat (Row mb [.pointer (some ⟨b, 0, none⟩), .slice p st.length c, .bool run] 138 :: Own 24 1 p st.length c (words st) :: F) w) : Sat (MkH b mb st run :: F) w :=
  Sat.mkEx (p, c) hs.join

section
variable {H : Hp} {v : Value} {b mb : Nat} {st : List Nat} {run : Bool} {F : List HP} {w : World}

theorem mset_c (hs : Sat (HeapH H v b :: MkH b mb st run :: F) w) {x : Nat} (hx : x < 18446744073709551616) (on : Bool) : Calls Try.prog 108 #[.pointer (some ⟨mb, 0, none⟩), .int .u64 (x : Int), .bool on] w
    (Ret (.tuple #[]) (Sat (HeapH (H.paint x on) v b :: MkH b mb st run :: F))) := by
  have hm := sat_wf hs
  refine S_mark_Marker_set_ok _ _ _ _ _ ?_
  unfold S_mark_Marker_set
  obtain ⟨p, c, h1⟩ := mk_open hs.p1
  simp only [onSome_some]
  refine LdP.of h1 0 rfl (off := 0) rfl rfl ?_
  have h2 : Sat (HeapH H v b :: Row mb [.pointer (some ⟨b, 0, none⟩), .slice p st.length c, .bool run] 138 :: Own 24 1 p st.length c (words st) :: F) w := h1.pull 2 rfl
  refine (htable_c h2).mono ?_
  rintro e w1 ⟨rfl, ba, bt, rfl, h3⟩
  refine ⟨_, rfl, ?_⟩
  refine (at_c (h3.pull 2 rfl) hx).mono ?_
  rintro e w1 ⟨rfl, rfl⟩
  cases hf : H.t.find x with
  | none =>
    have hl := (look_none hm).2 hf
    have e : H.paint x on = H := by unfold Hp.paint; rw [hl]
    refine ⟨_, _, rfl, cond_f rfl ⟨rfl, ?_⟩⟩
    rw [e]; exact hs
  | some i =>
    obtain ⟨o, g1, g2, g3, g4⟩ := look_find hm hf
    refine ⟨_, _, rfl, cond_t rfl ?_⟩
    refine LdP.of h1 0 rfl (off := 0) rfl rfl ?_
    refine (harena_c h2).mono ?_
    rintro e w1 ⟨rfl, ba, bt, rfl, h4⟩
    refine ⟨_, rfl, ?_⟩
    refine (mark2 (h4.pull 1 rfl) _ on).mono ?_
    intro e w1 hp
    rcases hp with ⟨h5, _⟩ | ⟨k, o', e1, h5, h6⟩
    · rw [findI_nat, g2] at h5; cases h5
    · have e1 : k = H.t.atOf i := by omega
      subst e1
      rw [g2] at h5
      cases h5
      obtain ⟨h6, h7⟩ := h6
      have e : H.paint x on = H.set x (o.paint on) := by unfold Hp.paint; rw [g1]
      refine ⟨0, h6, rfl, ?_⟩
      have hpw := paint_wf hm x on
      rw [e] at hpw ⊢
      have em : (H.set x (o.paint on)).m = H.m.set (H.t.atOf i) (o.marked on) := by unfold Hp.set; rw [g4]; rfl
      have h8 : Sat (Arena (H.set x (o.paint on)).m ba :: Row b (hrow ba bt H.roots v) 88 :: Tbl H.t bt :: Row mb [.pointer (some ⟨b, 0, none⟩), .slice p st.length c, .bool run] 138 :: Own 24 1 p st.length c (words st) :: F) w1 := by rw [em]; exact h7
      have h9 := heap_shut (H := H.set x (o.paint on)) hpw (ba := ba) (bt := bt) (v := v) (b := b) (Sat.p1 h8)
      exact (mk_shut (h9.pull 2 rfl |>.pull 2 rfl)).p1

theorem mmarked_c (hs : Sat (HeapH H v b :: MkH b mb st run :: F) w) {x : Nat} (hx : x < 18446744073709551616) : Calls Try.prog 107 #[.pointer (some ⟨mb, 0, none⟩), .int .u64 (x : Int)] w
    (Ret (.tuple #[.bool (isM H x), .int .i64 (if (H.look x).isSome = true then 0 else 6)]) (Sat (HeapH H v b :: MkH b mb st run :: F))) := by
  have hm := sat_wf hs
  refine S_mark_Marker_Marked_ok _ _ _ _ ?_
  unfold S_mark_Marker_Marked
  obtain ⟨p, c, h1⟩ := mk_open hs.p1
  simp only [onSome_some]
  refine LdP.of h1 0 rfl (off := 0) rfl rfl ?_
  have h2 : Sat (HeapH H v b :: Row mb [.pointer (some ⟨b, 0, none⟩), .slice p st.length c, .bool run] 138 :: Own 24 1 p st.length c (words st) :: F) w := h1.pull 2 rfl
  refine (htable_c h2).mono ?_
  rintro e w1 ⟨rfl, ba, bt, rfl, h3⟩
  refine ⟨_, rfl, ?_⟩
  refine (at_c (h3.pull 2 rfl) hx).mono ?_
  rintro e w1 ⟨rfl, rfl⟩
  unfold isM
  cases hf : H.t.find x with
  | none =>
    have hl := (look_none hm).2 hf
    refine ⟨_, _, rfl, cond_t rfl ⟨?_, hs⟩⟩
    rw [hl]; rfl
  | some i =>
    obtain ⟨o, g1, g2, g3, g4⟩ := look_find hm hf
    refine ⟨_, _, rfl, cond_f rfl ?_⟩
    refine LdP.of h1 0 rfl (off := 0) rfl rfl ?_
    refine (harena_c h2).mono ?_
    rintro e w1 ⟨rfl, ba, bt, rfl, h4⟩
    refine ⟨_, rfl, ?_⟩
    refine (head2 (h4.pull 1 rfl) _).mono ?_
    rw [findI_nat, g2]
    rintro e w2 ⟨rfl, h5⟩
    refine ⟨_, _, _, _, _, _, rfl, ?_⟩
    refine NewC.ofRow h5 fun d w3 h6 => ?_
    refine st5 h6 0 rfl fun w4 h7 => ?_
    refine cond_f rfl ?_
    refine LdB.of h7 0 rfl (off := 3) rfl (add_mk _ _ _) ?_
    have h8 : Sat (Arena H.m ba :: Row b (hrow ba bt H.roots v) 88 :: Tbl H.t bt :: Row mb [.pointer (some ⟨b, 0, none⟩), .slice p st.length c, .bool run] 138 :: Own 24 1 p st.length c (words st) :: F) w4 := h7.drop
    have h9 := heap_shut hm (ba := ba) (bt := bt) h8.p1
    refine ⟨?_, (mk_shut (h9.pull 2 rfl |>.pull 2 rfl)).p1⟩
    rw [g1]; rfl

theorem mmade_c (hs : Sat (HeapH H v b :: MkH b mb st run :: F) w) {x : Nat} (hx : x < 18446744073709551616) : Calls Try.prog 126 #[.pointer (some ⟨mb, 0, none⟩), .int .u64 (x : Int)] w
    (Ret (.tuple #[]) (Sat (HeapH (H.paint x true) v b :: MkH b mb st run :: F))) := by
  refine S_mark_Marker_Made_ok _ _ _ _ ?_
  unfold S_mark_Marker_Made
  refine (mset_c hs hx true).mono ?_
  rintro e w1 ⟨rfl, h1⟩
  exact ⟨rfl, rfl, h1⟩

theorem mlinked_c (hs : Sat (HeapH H v b :: MkH b mb st run :: F) w) (hst : st.length ≤ 1048576) {x : Nat} (hx : x < 18446744073709551616) : Calls Try.prog 93 #[.pointer (some ⟨mb, 0, none⟩), .int .u64 (x : Int)] w
    (Ret (.tuple #[]) (Sat (HeapH (lnk (H, st) x).1 v b :: MkH b mb (lnk (H, st) x).2 run :: F))) := by
  refine S_mark_Marker_Linked_ok _ _ _ _ ?_
  unfold S_mark_Marker_Linked
  refine (mmarked_c hs hx).mono ?_
  rintro e w1 ⟨rfl, h1⟩
  refine ⟨_, _, rfl, ?_⟩
  unfold lnk isM
  dsimp only
  cases hl : H.look x with
  | none => exact cond_f rfl ⟨rfl, h1⟩
  | some o =>
    refine cond_t rfl ?_
    dsimp only
    cases hmk : o.mark with
    | true => exact cond_f rfl ⟨rfl, by rw [if_pos rfl]; exact h1⟩
    | false =>
      refine cond_t rfl ?_
      refine (mset_c h1 hx true).mono ?_
      rintro e w2 ⟨rfl, h2⟩
      refine ⟨rfl, ?_⟩
      simp only [onSome_some]
      obtain ⟨p, c, h3⟩ := mk_open h2.p1
      refine LdS.of h3 0 rfl (off := 1) rfl (add_mk _ _ _) ?_
      refine RunS.one eok_u64 h3 1 rfl (by rfl) (by rfl) (by omega) (by simp only [maxLen]; omega) fun p' c' w3 h4 => ?_
      refine StC.of h4 0 rfl (off := 1) rfl (add_mk _ _ _) fun w4 h5 => ?_
      refine ⟨rfl, ?_⟩
      rw [if_neg (by decide)]
      dsimp only
      refine (mk_shut (p := p') (c := c') ?_).p1
      rw [words_snoc, List.length_append, List.length_singleton]
      exact h5

theorem mwaiting_c (hs : Sat (HeapH H v b :: MkH b mb st run :: F) w) : Calls Try.prog 46 #[.pointer (some ⟨mb, 0, none⟩)] w fun e w' => e = .returned (.int .i64 (st.length : Nat)) ∧ w = w' := by
  refine S_mark_Marker_Waiting_ok _ _ _ ?_
  unfold S_mark_Marker_Waiting
  obtain ⟨p, c, h1⟩ := mk_open hs.p1
  simp only [onSome_some]
  refine LdS.of h1 0 rfl (off := 1) rfl (add_mk _ _ _) ?_
  exact ⟨rfl, trivial⟩

theorem mstop_c (hs : Sat (HeapH H v b :: MkH b mb st run :: F) w) : Calls Try.prog 47 #[.pointer (some ⟨mb, 0, none⟩)] w fun e w' =>
    if run = true then Ret (.int .i64 0) (Sat (HeapH H .nilIface b :: MkH b mb [] false :: F)) e w' else Ret (.int .i64 16) (Sat (HeapH H v b :: MkH b mb st false :: F)) e w' := by
  refine S_mark_Marker_Stop_ok _ _ _ ?_
  unfold S_mark_Marker_Stop
  obtain ⟨p, c, h1⟩ := mk_open hs.p1
  simp only [onSome_some]
  refine LdB.of h1 0 rfl (off := 2) rfl (add_mk _ _ _) ?_
  cases run with
  | false => exact cond_t rfl ⟨rfl, hs⟩
  | true =>
    refine cond_f rfl ?_
    refine StC.of h1 0 rfl (off := 2) rfl (add_mk _ _ _) fun w1 h2 => ?_
    refine StC.of h2 0 rfl (off := 1) rfl (add_mk _ _ _) fun w2 h3 => ?_
    refine LdP.of h3 0 rfl (off := 0) rfl rfl ?_
    have h4 : Sat (Own 24 1 p st.length c (words st) :: Row mb [.pointer (some ⟨b, 0, none⟩), .slice none 0 0, .bool false] 138 :: HeapH H v b :: F) w2 := Sat.pull h3 1 rfl
    have h5 : Sat (HeapH H v b :: MkH b mb [] false :: F) w2 := (mk_shut (st := []) ((h4.drop.ownNil 24 1).p1)).p1
    refine (watch_c (v' := .nilIface) rfl h5).mono ?_
    rintro e w3 ⟨rfl, h6⟩
    exact ⟨rfl, rfl, h6⟩

theorem mnew_c (hs : Sat (HeapH H v b :: F) w) : Calls Try.prog 45 #[.pointer (some ⟨b, 0, none⟩)] w fun e w' => ∃ mb, e = .returned (.pointer (some ⟨mb, 0, none⟩)) ∧ Sat (HeapH H v b :: MkH b mb [] false :: F) w' := by
  refine S_mark_New_ok _ _ _ ?_
  unfold S_mark_New
  refine NewC.ofRow hs fun mb w1 h1 => ?_
  exact ⟨mb, rfl, (mk_shut (st := []) ((h1.ownNil 24 1).p1)).p1⟩

/-- the marker as a watcher. -/
def mkW (mb : Nat) : Value := .iface 80 (.pointer (some ⟨mb, 0, none⟩))
theorem mk_meth (n : Nat) (h : n = 0 ∨ n = 1) : True := trivial

theorem munit_c (hs : Sat (HeapH H v b :: MkH b mb st run :: F) w) (hne : st ≠ []) (hp : pot (H, st) ≤ 1048576) (hu : ∀ x ∈ st, x < 18446744073709551616) : Calls Try.prog 84 #[.pointer (some ⟨mb, 0, none⟩)] w
    (Ret (.tuple #[]) (Sat (HeapH (unit (H, st)).1 v b :: MkH b mb (unit (H, st)).2 run :: F))) := by
  have hm := sat_wf hs
  refine S_mark_Marker_unit_ok _ _ _ ?_
  unfold S_mark_Marker_unit
  have hlast : st.getLast? = some (st.getLast hne) := List.getLast?_eq_some_getLast hne
  have hdl : st = st.dropLast ++ [st.getLast hne] := (List.dropLast_concat_getLast hne).symm
  have hxu := hu _ (List.getLast_mem hne)
  have hun : unit (H, st) = (refsOf H (st.getLast hne)).foldl lnk (H, st.dropLast) := by unfold unit; dsimp only; rw [hlast]
  have hlen : 0 < st.length := by
    cases st with
    | nil => exact absurd rfl hne
    | cons a l => simp
  have hgl : st[st.length - 1]? = some (st.getLast hne) := by rw [← List.getLast?_eq_getElem?, hlast]
  generalize st.getLast hne = x at hlast hdl hxu hun hgl
  have hp' : st.length + unm H ≤ 1048576 := hp
  simp only [onSome_some]
  obtain ⟨p, c, h1⟩ := mk_open hs.drew.p1
  refine LdS.of h1 0 rfl (off := 1) rfl (add_mk _ _ _) ?_
  refine LdS.of h1 0 rfl (off := 1) rfl (add_mk _ _ _) ?_
  have hi : IntKind.wrap .i64 ((st.length : Int) - 1) = ((st.length - 1 : Nat) : Int) := by rw [wrapI64 (by omega) (by omega)]; omega
  refine own_word h1 1 rfl rfl hgl hi ?_
  have h2 := h1.drew
  refine LdS.of h2 0 rfl (off := 1) rfl (add_mk _ _ _) ?_
  refine LdS.of h2 0 rfl (off := 1) rfl (add_mk _ _ _) ?_
  rw [hi]
  have hcap := h2.own_cap 1 rfl
  refine SlC.of 0 (st.length - 1) c rfl rfl rfl (by omega) (by omega) (by omega) ?_
  rw [slAddr_zero, Nat.sub_zero, Nat.sub_zero]
  refine StC.of h2 0 rfl (off := 1) rfl (add_mk _ _ _) fun w1 h3 => ?_
  have h4 := h3.ownTake 1 rfl (l' := st.length - 1) (by omega)
  have hdw : (words st).take ((st.length - 1) * 1) = words st.dropLast := by
    rw [Nat.mul_one, List.dropLast_eq_take]; simp [words, List.map_take]
  have hdlen : st.dropLast.length = st.length - 1 := List.length_dropLast
  have h5 : Sat (HeapH H v b :: MkH b mb st.dropLast run :: F) w1 := by
    refine (mk_shut (p := p) (c := c) ?_).p1
    rw [← hdw, hdlen]
    exact h4
  clear h1 h2 h3 h4
  obtain ⟨p2, c2, h6⟩ := mk_open h5.p1
  refine LdP.of h6 0 rfl (off := 0) rfl rfl ?_
  clear h6
  refine (hhead_c h5 hxu).mono ?_
  rintro e w2 ⟨rfl, h6⟩
  cases ho : H.look x with
  | none =>
    refine ⟨_, _, _, _, rfl, ?_⟩
    refine ⟨fun i w => i = 0 ∧ Sat (HeapH H v b :: MkH b mb st.dropLast run :: F) w, fun _ _ => 0, ⟨rfl, h6⟩, ?_⟩
    rintro i w3 ⟨rfl, h7⟩
    unfold S_mark_Marker_unit_l0
    refine cond_f (by simp) ⟨rfl, ?_⟩
    rw [hun]
    have : refsOf H x = [] := by unfold refsOf; rw [ho]
    rw [this]
    exact h7
  | some o =>
    have hro := (look_ok hm ho).refs; have hzo := (look_ok hm ho).size
    refine ⟨_, _, _, _, rfl, ?_⟩
    have hrl := refsOf_len hm ho
    refine ⟨fun i w => ∃ k : Nat, i = k ∧ k ≤ o.refs ∧ Sat (HeapH (((refsOf H x).take k).foldl lnk (H, st.dropLast)).1 v b :: MkH b mb (((refsOf H x).take k).foldl lnk (H, st.dropLast)).2 run :: F) w, fun i _ => (o.refs - i).toNat, ⟨0, rfl, by omega, h6⟩, ?_⟩
    rintro i w3 ⟨k, rfl, hk, h7⟩
    unfold S_mark_Marker_unit_l0
    by_cases hlt : k < o.refs
    · refine cond_t (by simp; omega) ?_
      simp only [onSome_some]
      obtain ⟨g1, g2, g3⟩ := lnks_ok (s := (H, st.dropLast)) hm ((refsOf H x).take k)
      have hgx := refsOf_get hm ho hlt
      have hyu := w_u64 hm ho k
      generalize hS : ((refsOf H x).take k).foldl lnk (H, st.dropLast) = s at h7 g1 g2 g3
      obtain ⟨o', ho', e1, e2, _⟩ := g2.some ho
      obtain ⟨p2, c2, h8⟩ := mk_open h7.p1
      refine LdP.of h8 0 rfl (off := 0) rfl rfl ?_
      clear h8
      have href : Hp.ref s.1 x (k : Int) = (o.w.getD k 0, 0) := by simp only [Hp.ref, ho']; rw [if_pos (by omega), Int.toNat_natCast, e2]
      refine (href_c h7 hxu k).mono ?_
      rw [href]
      rintro e w4 ⟨rfl, h8⟩
      refine ⟨_, _, rfl, ?_⟩
      have hsl : s.2.length ≤ 1048576 := by
        have : s.2.length + unm s.1 = st.dropLast.length + unm H := g3
        omega
      refine (mlinked_c h8 hsl hyu).mono ?_
      rintro e w5 ⟨rfl, h9⟩
      refine ⟨rfl, ?_⟩
      rw [wrapI64 (by omega) (by omega)]
      refine ⟨⟨k + 1, by omega, by omega, ?_⟩, by first | omega | (dsimp only; omega)⟩
      rw [List.take_add_one, hgx, Option.toList_some, List.foldl_append, hS]
      exact h9
    · refine cond_f (by simp; omega) ⟨rfl, ?_⟩
      have htk : (refsOf H x).take k = refsOf H x := List.take_of_length_le (by omega)
      rw [htk] at h7
      rw [hun]
      exact h7

theorem lnks_u64 {s : Ms} (h : s.1.WF) {ys : List Nat} (hs : ∀ x ∈ s.2, x < 18446744073709551616) : ∀ x ∈ (ys.foldl lnk s).2, x < 18446744073709551616 := by
  intro x hx
  rcases (lnks_stack h x).1 hx with a | ⟨_, a, _⟩
  · exact hs x a
  · obtain ⟨o, ho⟩ := Option.isSome_iff_exists.1 a
    exact look_lt h ho
theorem unit_u64 {s : Ms} (h : s.1.WF) (hs : ∀ x ∈ s.2, x < 18446744073709551616) : ∀ x ∈ (unit s).2, x < 18446744073709551616 := by
  unfold unit
  split
  · exact hs
  · exact lnks_u64 (s := (s.1, s.2.dropLast)) h fun x hx => hs x ((List.dropLast_sublist _).subset hx)

theorem mstep_c (hs : Sat (HeapH H v b :: MkH b mb st true :: F) w) {n : Nat} (hn : 1 ≤ n) (hn2 : n < 9223372036854775808) (hp : pot (H, st) ≤ 1048576) (hu : ∀ x ∈ st, x < 18446744073709551616) : Calls Try.prog 50 #[.pointer (some ⟨mb, 0, none⟩), .int .i64 (n : Int)] w
    (Ret (.tuple #[.bool (decide ((units n (H, st)).2 = [])), .int .i64 0]) (Sat (HeapH (units n (H, st)).1 v b :: MkH b mb (units n (H, st)).2 true :: F))) := by
  have hm := sat_wf hs
  refine S_mark_Marker_Step_ok _ _ _ _ ?_
  unfold S_mark_Marker_Step
  obtain ⟨p, c, h1⟩ := mk_open hs.p1
  simp only [onSome_some]
  refine LdB.of h1 0 rfl (off := 2) rfl (add_mk _ _ _) ?_
  refine cond_f rfl (cond_f (by simp; omega) ?_)
  clear h1
  intro k0 hk0
  have fin : ∀ w s, units n (H, st) = s → Sat (HeapH s.1 v b :: MkH b mb s.2 true :: F) w → k0 w := by
    intro w s he h
    refine hk0 _ ?_
    unfold S_mark_Marker_Step_j0
    obtain ⟨p, c, h1⟩ := mk_open h.p1
    simp only [onSome_some]
    refine LdS.of h1 0 rfl (off := 1) rfl (add_mk _ _ _) ?_
    refine ⟨?_, by rw [he]; exact h⟩
    rw [he]
    cases s.2 with
    | nil => rfl
    | cons a l =>
      have : ((((a :: l).length : Nat) : Int) == 0) = false := by simp; omega
      rw [this]; simp
  refine ⟨fun i w => ∃ (k : Nat) (s : Ms), i = k ∧ k ≤ n ∧ units k s = units n (H, st) ∧ s.1.WF ∧ pot s ≤ 1048576 ∧ (∀ x ∈ s.2, x < 18446744073709551616) ∧ Sat (HeapH s.1 v b :: MkH b mb s.2 true :: F) w, fun i _ => i.toNat, ⟨n, (H, st), rfl, Nat.le_refl _, rfl, hm, hp, hu, hs⟩, ?_⟩
  rintro i w1 ⟨k, s, rfl, hk, he, hw, hps, hus, h1⟩
  unfold S_mark_Marker_Step_l0
  cases k with
  | zero => exact cond_f (by simp) (fin _ s he.symm h1)
  | succ k =>
    refine cond_t (by simp) ?_
    obtain ⟨p, c, h2⟩ := mk_open h1.p1
    simp only [onSome_some]
    refine LdS.of h2 0 rfl (off := 1) rfl (add_mk _ _ _) ?_
    clear h2
    by_cases hne : s.2 = []
    · refine cond_f (by simp [hne]) (fin _ s ?_ h1)
      rw [← he, units_nil hne]
    · refine cond_t ?_ ?_
      · cases hsl : s.2 with
        | nil => exact absurd hsl hne
        | cons a l => simp
      refine (munit_c h1 hne hps hus).mono ?_
      rintro e w2 ⟨rfl, h2⟩
      refine ⟨rfl, ?_⟩
      rw [wrapI64 (by omega) (by omega)]
      obtain ⟨g1, g2, g3⟩ := unit_ok hw
      have := g3 hne
      refine ⟨⟨k, unit s, by omega, by omega, he, g1, by omega, unit_u64 hw hus, h2⟩, by first | omega | (dsimp only; omega)⟩
theorem mstep_no (hs : Sat (HeapH H v b :: MkH b mb st run :: F) w) {n : Int} (h : run = false ∨ n < 1) : Calls Try.prog 50 #[.pointer (some ⟨mb, 0, none⟩), .int .i64 n] w
    (Ret (.tuple #[.bool false, .int .i64 (if run = true then 1 else 16)]) (Sat (HeapH H v b :: MkH b mb st run :: F))) := by
  refine S_mark_Marker_Step_ok _ _ _ _ ?_
  unfold S_mark_Marker_Step
  obtain ⟨p, c, h1⟩ := mk_open hs.p1
  simp only [onSome_some]
  refine LdB.of h1 0 rfl (off := 2) rfl (add_mk _ _ _) ?_
  cases run with
  | false => exact cond_t rfl ⟨rfl, hs⟩
  | true =>
    have hn := h.resolve_left (by decide)
    exact cond_f rfl (cond_t (by simpa using hn) ⟨rfl, hs⟩)

theorem mstart_no (hs : Sat (HeapH H v b :: MkH b mb st true :: F) w) : Calls Try.prog 54 #[.pointer (some ⟨mb, 0, none⟩)] w (Ret (.int .i64 16) (Sat (HeapH H v b :: MkH b mb st true :: F))) := by
  refine S_mark_Marker_Start_ok _ _ _ ?_
  unfold S_mark_Marker_Start
  obtain ⟨p, c, h1⟩ := mk_open hs.p1
  simp only [onSome_some]
  refine LdB.of h1 0 rfl (off := 2) rfl (add_mk _ _ _) ?_
  exact cond_t rfl ⟨rfl, hs⟩

/-- marks taken off the first 'j' objects. -/
def clr (m : Am) (j : Nat) : Am := { m with low := (m.low.take j).map Ob.plain ++ m.low.drop j }
theorem clr_osz (m : Am) (j i : Nat) : osz (((m.low.take j).map Ob.plain ++ m.low.drop j).take i) = osz (m.low.take i) := by
  have key : ∀ (l : List Ob) (j i : Nat), osz (((l.take j).map Ob.plain ++ l.drop j).take i) = osz (l.take i) := by
    intro l
    induction l with
    | nil => intro j i; simp
    | cons p l ih =>
      intro j i
      cases i with
      | zero => simp [osz]
      | succ i =>
        cases j with
        | zero => rfl
        | succ j =>
          simp only [List.take_succ_cons, List.map_cons, List.drop_succ_cons, List.cons_append, osz, ih j i]
          rfl
  exact key m.low j i
theorem mstart_c (hs : Sat (HeapH H v b :: MkH b mb st false :: F) w) (hop : H.m.op = false) : Calls Try.prog 54 #[.pointer (some ⟨mb, 0, none⟩)] w
    (Ret (.int .i64 0) (Sat (HeapH (began H).1 (mkW mb) b :: MkH b mb (began H).2 true :: F))) := by
  have hm := sat_wf hs
  refine S_mark_Marker_Start_ok _ _ _ ?_
  unfold S_mark_Marker_Start
  obtain ⟨p, c, h1⟩ := mk_open hs.p1
  simp only [onSome_some]
  refine LdB.of h1 0 rfl (off := 2) rfl (add_mk _ _ _) ?_
  refine cond_f rfl ?_
  refine StC.of h1 0 rfl (off := 2) rfl (add_mk _ _ _) fun w1 h2 => ?_
  refine StC.of h2 0 rfl (off := 1) rfl (add_mk _ _ _) fun w2 h3 => ?_
  refine LdP.of h3 0 rfl (off := 0) rfl rfl ?_
  have h4 : Sat (Own 24 1 p st.length c (words st) :: Row mb [.pointer (some ⟨b, 0, none⟩), .slice none 0 0, .bool true] 138 :: HeapH H v b :: F) w2 := Sat.pull h3 1 rfl
  have h5 : Sat (HeapH H v b :: MkH b mb [] true :: F) w2 := (mk_shut (st := []) ((h4.drop.ownNil 24 1).p1)).p1
  clear h1 h2 h3 h4
  refine (harena_c h5).mono ?_
  rintro e w3 ⟨rfl, ba, bt, rfl, h6⟩
  refine ⟨_, rfl, ?_⟩
  refine (first2 (h6.pull 1 rfl)).mono ?_
  rintro e w3 ⟨rfl, rfl⟩
  refine ⟨_, rfl, ?_⟩
  intro k0 hk0
  have hnx : ∀ (m : Am) (k : Nat), m.op = false → m.next k = k := fun m k h => by simp [Am.next, h]
  have hhigh := (hm.am.shut hop).2
  rw [hnx _ _ hop]
  have hct : ∀ j, (clr H.m j).top = H.m.top := fun j => by
    have := clr_osz H.m j H.m.low.length
    rw [List.take_of_length_le (by simp; omega), List.take_length] at this
    simp only [Am.top, clr, hop, cond_false, this]
  have htop : H.m.top = osz H.m.low := by simp [Am.top, hop]
  have hle := hm.am.top
  have hmm := hm.am.most
  have fin : ∀ w, Sat (Row b (hrow ba bt H.roots v) 88 :: Arena (clr H.m H.m.low.length) ba :: Tbl H.t bt :: MkH b mb [] true :: F) w → k0 w := by
    intro w h7
    refine hk0 _ ?_
    have ecl : clr H.m H.m.low.length = H.clear.m := by
      unfold clr Hp.clear
      rw [List.take_length, List.drop_length, List.append_nil, hhigh]
      rfl
    rw [ecl] at h7
    have h8 : Sat (HeapH H.clear v b :: MkH b mb [] true :: F) w := heap_shut (clear_wf hm) h7
    unfold S_mark_Marker_Start_j0
    refine ⟨fun i w => ∃ k : Nat, i = k ∧ k ≤ 16 ∧ Sat (HeapH ((H.roots.take k).foldl lnk (H.clear, [])).1 v b :: MkH b mb ((H.roots.take k).foldl lnk (H.clear, [])).2 true :: F) w, fun i _ => (16 - i).toNat, ⟨0, rfl, by omega, h8⟩, ?_⟩
    clear h7 h8
    rintro i w4 ⟨k, rfl, hk, h9⟩
    unfold S_mark_Marker_Start_l1
    simp only [onSome_some]
    obtain ⟨g1, g2, g3⟩ := lnks_ok (s := (H.clear, [])) (clear_wf hm) (H.roots.take k)
    by_cases hlt : k < 16
    · refine cond_t (by simp; omega) ?_
      generalize hS : (H.roots.take k).foldl lnk (H.clear, []) = s at h9 g1 g2 g3
      obtain ⟨p2, c2, h10⟩ := mk_open h9.p1
      refine LdP.of h10 0 rfl (off := 0) rfl rfl ?_
      clear h10
      have hr := hm.rlen
      have hx : H.roots[k]? = some (H.roots[k]'(by omega)) := List.getElem?_eq_getElem (by omega)
      have hxu := hm.r64 _ (List.getElem_mem (l := H.roots) (n := k) (by omega))
      generalize H.roots[k]'(by omega) = x at hx hxu
      refine (grt_c h9 (i := k) (y := x) (by rw [g2.roots]; exact hx) rfl).mono ?_
      rintro e w5 ⟨rfl, h10⟩
      refine ⟨_, _, rfl, ?_⟩
      have hpot : s.2.length + unm s.1 = [].length + unm H.clear := g3
      rw [clear_unm] at hpot
      have hob := objs_le hm
      refine (mlinked_c h10 (by simp at hpot; omega) hxu).mono ?_
      rintro e w6 ⟨rfl, h11⟩
      refine ⟨rfl, ?_⟩
      rw [wrapI64 (by omega) (by omega)]
      refine ⟨⟨k + 1, by omega, by omega, ?_⟩, by first | omega | (dsimp only; omega)⟩
      rw [List.take_add_one, hx, Option.toList_some, List.foldl_append, hS]
      exact h11
    · refine cond_f (by simp; omega) ?_
      have htk : H.roots.take k = H.roots := List.take_of_length_le (by have := hm.rlen; omega)
      rw [htk] at h9
      obtain ⟨p2, c2, h10⟩ := mk_open h9.p1
      refine LdP.of h10 0 rfl (off := 0) rfl rfl ?_
      clear h10
      refine (watch_c (v' := mkW mb) rfl h9).mono ?_
      rintro e w5 ⟨rfl, h10⟩
      exact ⟨rfl, rfl, h10⟩
  have hc0 : clr H.m 0 = H.m := by unfold clr; simp
  refine ⟨fun a w => ∃ j : Nat, a = (osz (H.m.low.take j) : Nat) ∧ j ≤ H.m.low.length ∧ Sat (Row b (hrow ba bt H.roots v) 88 :: Arena (clr H.m j) ba :: Tbl H.t bt :: MkH b mb [] true :: F) w, fun a _ => (H.m.top - a).toNat, ⟨0, rfl, by omega, by rw [hc0]; exact h6⟩, ?_⟩
  clear h5 h6
  rintro a w4 ⟨j, rfl, hj, h7⟩
  unfold S_mark_Marker_Start_l0
  refine (top2 (h7.pull 1 rfl)).mono ?_
  rintro e w5 ⟨rfl, rfl⟩
  rw [hct]
  refine ⟨_, rfl, ?_⟩
  by_cases hjl : j < H.m.low.length
  · have ho : H.m.low[j]? = some (H.m.low[j]'hjl) := List.getElem?_eq_getElem hjl
    generalize H.m.low[j]'hjl = o at ho
    have hsu := osz_take_succ ho
    have hup : ∀ (l : List Ob) (k : Nat), osz (l.take k) ≤ osz l := fun l => by
      induction l with
      | nil => intro k; simp [osz]
      | cons p l ih =>
        intro k
        cases k with
        | zero => simp [osz]
        | succ k => simp only [List.take_succ_cons, osz]; have := ih k; omega
    have hup := hup H.m.low (j + 1)
    refine cond_t (by simp; omega) ?_
    have hcj : (clr H.m j).low[j]? = some o := by
      unfold clr
      dsimp only
      rw [List.getElem?_append_right (by simp; omega)]
      simp only [List.length_map, List.length_take, List.getElem?_drop]
      rw [show j + (j - min j H.m.low.length) = j by omega]
      exact ho
    have hpj : osz ((clr H.m j).low.take j) = osz (H.m.low.take j) := clr_osz H.m j j
    have hfj : (clr H.m j).find (osz (H.m.low.take j)) = some o := by
      have := findL_pos (k := 0) hcj
      rw [Nat.zero_add, hpj] at this
      simp [Am.find, this]
    refine (mark2 (h7.pull 1 rfl) _ false).mono ?_
    intro e w5 hp
    rcases hp with ⟨h8, _⟩ | ⟨k, o', e1, h8, h9⟩
    · rw [findI_nat, hfj] at h8; cases h8
    · have e1 : k = osz (H.m.low.take j) := by omega
      subst e1
      rw [hfj] at h8
      cases h8
      obtain ⟨h9, h10⟩ := h9
      refine ⟨0, h9, ?_⟩
      have hset : (clr H.m j).set (osz (H.m.low.take j)) (o.marked false) = clr H.m (j + 1) := by
        have hs1 := setL_pos (k := 0) (o' := o.marked false) hcj
        rw [Nat.zero_add, hpj] at hs1
        have hf1 := findL_pos (k := 0) hcj
        rw [Nat.zero_add, hpj] at hf1
        unfold Am.set
        rw [hf1, hs1]
        simp only [Option.isSome_some, if_true]
        unfold clr
        dsimp only
        congr 1
        rw [List.set_append_right _ _ (by simp; omega)]
        simp only [List.length_map, List.length_take]
        rw [show j - min j H.m.low.length = 0 by omega, List.drop_eq_getElem_cons hjl, List.set_cons_zero, List.take_add_one, List.map_append, List.append_assoc]
        have : H.m.low[j]?.toList.map Ob.plain = [o.marked false] := by rw [ho]; rfl
        rw [this]
        rfl
      rw [hset] at h10
      refine (next2 h10 _).mono ?_
      have hfj2 : (clr H.m (j + 1)).find (osz (H.m.low.take j)) = some (o.marked false) := by
        have hcj2 : (clr H.m (j + 1)).low[j]? = some (o.marked false) := by
          unfold clr
          dsimp only
          rw [List.getElem?_append_left (by simp; omega), List.getElem?_map, List.getElem?_take_of_lt (by omega), ho]
          rfl
        have := findL_pos (k := 0) hcj2
        rw [Nat.zero_add, show osz ((clr H.m (j + 1)).low.take j) = osz (H.m.low.take j) from clr_osz H.m (j + 1) j] at this
        simp [Am.find, this]
      rw [findI_nat, hfj2]
      rintro e w6 ⟨rfl, h11⟩
      refine ⟨_, _, rfl, cond_f rfl ?_⟩
      rw [hnx _ _ (show (clr H.m (j + 1)).op = false from hop), Int.toNat_natCast]
      refine ⟨⟨j + 1, ?_, by omega, Sat.p1 h11⟩, ?_⟩
      · rw [hsu]; rfl
      · have : (o.marked false).w.length = o.w.length := rfl
        rw [this]
        first | omega | (dsimp only; omega)
  · have hjl : j = H.m.low.length := by omega
    subst hjl
    rw [List.take_length]
    exact cond_f (by simp [htop]) (fin _ h7)
end
end Go.Proofs.Ytdfdmboljidhnaa
