
/- What the package heap's functions come to, over a heap as data. -/
import Derived.Test.YtpicofkhioalkaaGreatTc
import Derived.Test.YtpicofkhioalkaaGreatBc
import Derived.Test.YtpicofkhioalkaaGreatHm
set_option maxRecDepth 100000
namespace Go.Proofs.YtpicofkhioalkaaGreat
open Go Go.Lw Go.Wd Go.Am Go.Tb Go.Hm
section
variable {w : World} {b off : Nat} {cs : List Value} {T : TypeId} {a : Addr} {C : World -> Prop}
theorem LdPQ.row {n : Option Addr} {K : Option Addr -> Prop} (hC : ∀ w, C w -> ∃ L, Sat (Row b cs T :: L) w) (hc : cs[off]? = some (.pointer n)) (ha : a = ⟨b, off, none⟩) (h : K n) : LdPQ C a K :=
 ⟨n, fun w hw => by obtain ⟨L, hs⟩ := hC w hw; exact LdP.of hs 0 rfl hc ha rfl, h⟩
theorem LdIQ.row {k : IntKind} {n : Int} {K : Int -> Prop} (hC : ∀ w, C w -> ∃ L, Sat (Row b cs T :: L) w) (hc : cs[off]? = some (.int k n)) (ha : a = ⟨b, off, none⟩) (h : K n) : LdIQ k C a K :=
 ⟨n, fun w hw => by obtain ⟨L, hs⟩ := hC w hw; exact LdI.of hs 0 rfl hc ha rfl, h⟩
theorem LdV.of {n : Value} {K : Value -> Prop} {L : List HP} (hs : Sat L w) (i : Nat) (hi : L[i]? = some (Row b cs T)) (hc : cs[off]? = some n) (ha : a = ⟨b, off, none⟩) (h : K n) : LdV w a K :=
 ⟨n, by rw [ha]; exact hs.cell i hi hc, h⟩
theorem _root_.Go.Lw.Sat.p1 {A B : HP} {L : List HP} (hs : Sat (A :: B :: L) w) : Sat (B :: A :: L) w := hs.pull 1 rfl
theorem _root_.Go.Lw.Sat.p2 {A B D : HP} {L : List HP} (hs : Sat (A :: B :: D :: L) w) : Sat (D :: A :: B :: L) w := hs.pull 2 rfl
theorem IdxF.of {n : Nat} {i : Int} {K : Prop} (h0 : 0 <= i) (h1 : i < n) (h : K) : IdxF n i K := ⟨h0, h1, h⟩
end
def hrow (ba bt : Nat) (rs : List Nat) (v : Value) : List Value := .pointer (some ⟨ba, 0, none⟩) :: .pointer (some ⟨bt, 0, none⟩) :: (words rs ++ [v])
theorem hrow_root {ba bt : Nat} {rs : List Nat} {v : Value} {i x : Nat} (h : rs[i]? = some x) : (hrow ba bt rs v)[2 + i]? = some (.int .u64 (x : Int)) := by
 have hl := get_lt h
 unfold hrow
 rw [Nat.add_comm, List.getElem?_cons_succ, List.getElem?_cons_succ, List.getElem?_append_left (by rw [words_len]; exact hl)]
 simp [words, h]
theorem hrow_v {ba bt : Nat} {rs : List Nat} {v : Value} (h : rs.length = 16) : (hrow ba bt rs v)[18]? = some v := by
 unfold hrow
 rw [List.getElem?_cons_succ, List.getElem?_cons_succ, List.getElem?_append_right (by rw [words_len]; omega), words_len, h]
 rfl
theorem hrow_set {ba bt : Nat} {rs : List Nat} {v : Value} {i : Nat} (x : Nat) (h : i < rs.length) : (hrow ba bt rs v).set (2 + i) (.int .u64 (x : Int)) = hrow ba bt (rs.set i x) v := by
 unfold hrow
 rw [Nat.add_comm, List.set_cons_succ, List.set_cons_succ, List.set_append_left _ _ (by rw [words_len]; exact h)]
 congr 3
 simp [words, List.map_set]
theorem hrow_setv {ba bt : Nat} {rs : List Nat} {v v' : Value} (h : rs.length = 16) : (hrow ba bt rs v).set 18 v' = hrow ba bt rs v' := by
 unfold hrow
 rw [List.set_cons_succ, List.set_cons_succ, List.set_append_right _ _ (by rw [words_len]; omega), words_len, h]
 rfl
def HeapH (H : Hp) (v : Value) (b : Nat) : HP := HAnd H.WF (HEx fun p : Nat × Nat => star (Row b (hrow p.1 p.2 H.roots v) 106) (star (Arena H.m p.1) (Tbl H.t p.2)))
theorem heap_open {H : Hp} {v : Value} {b : Nat} {F : List HP} {w : World} (hs : Sat (HeapH H v b :: F) w) : H.WF /\ ∃ ba bt, Sat (Row b (hrow ba bt H.roots v) 106 :: Arena H.m ba :: Tbl H.t bt :: F) w := by
 obtain ⟨hm, h⟩ := hs.pureOf
 obtain ⟨⟨ba, bt⟩, h⟩ := h.ex
 exact ⟨hm, ba, bt, h.split.p1.split.p2⟩
theorem heap_shut {H : Hp} {v : Value} {b ba bt : Nat} {F : List HP} {w : World} (hm : H.WF) (hs : Sat (Row b (hrow ba bt H.roots v) 106 :: Arena H.m ba :: Tbl H.t bt :: F) w) : Sat (HeapH H v b :: F) w :=
 Sat.mkPure hm (Sat.mkEx (ba, bt) (hs.p2.p2.join.p1.join))
def Tell (v : Value) (name : String) (x : Nat) (w : World) (Q : World -> Prop) : Prop := ∃ b, isNilI v = some b /\ cond b (Q w) (InvC Tryz.prog v name #[.int .u64 (x : Int)] w Q)
theorem Tell.none {name : String} {x : Nat} {w : World} {Q : World -> Prop} (h : Q w) : Tell .nilIface name x w Q := ⟨true, rfl, h⟩
def Post (E : Nat) (Q S : World -> Prop) (w : World) : Prop := if E = 0 then Q w else S w
theorem post_no {E k : Nat} {Q S : World -> Prop} {w : World} (hE : E = k) (hk : k ≠ 0) (h : S w) : Ret (.int .i64 (E : Nat)) (Post E Q S) (.returned (.int .i64 (k : Nat))) w := by
 subst hE; exact ⟨rfl, by unfold Post; rw [if_neg hk]; exact h⟩
theorem post_yes {E : Nat} {Q S : World -> Prop} {w : World} (hE : E = 0) (h : Q w) : Ret (.int .i64 (E : Nat)) (Post E Q S) (.returned (.int .i64 0)) w := by
 subst hE; exact ⟨rfl, h⟩
def headH (o : Option Ob) (at_ : Nat) : Value := match o with | some o => .tuple #[.int .i64 (at_ : Int), headO o, .int .i64 0] | none => .tuple #[.int .i64 0, head0, .int .i64 6]
section
variable {H : Hp} {v : Value} {b : Nat} {F : List HP} {w : World}
theorem hfind_c (hs : Sat (HeapH H v b :: F) w) {x : Nat} (hx : x < 18446744073709551616) : Calls Tryz.prog 75 #[.pointer (some ⟨b, 0, none⟩), .int .u64 (x : Int)] w
  (Ret (headH (H.look x) (H.place x)) (Sat (HeapH H v b :: F))) := by
 obtain ⟨hm, ba, bt, h0⟩ := heap_open hs
 refine S_heap_Heap_find_ok _ _ _ _ ?_
 unfold S_heap_Heap_find
 refine NewC.ofRow h0 fun c w1 h1 => ?_
 simp only [onSome_some]
 refine LdP.of h1 1 rfl (off := 1) rfl (add_mk _ _ _) ?_
 refine (at_c (h1.pull 3 rfl) hx).mono ?_
 rintro e w2 ⟨rfl, rfl⟩
 cases hf : H.t.find x with
 | none =>
  refine ⟨_, _, rfl, cond_t rfl ?_⟩
  refine st5 h1 0 rfl fun w2 h2 => ?_
  refine ld5 h2 0 rfl ?_
  refine ⟨?_, heap_shut hm (ba := ba) (bt := bt) h2.drop⟩
  rw [(look_none hm).2 hf]; rfl
 | some i =>
  obtain ⟨o, g1, g2, g3, g4⟩ := look_find hm hf
  refine ⟨_, _, rfl, cond_f rfl ?_⟩
  refine LdP.of h1 1 rfl (off := 0) rfl rfl ?_
  refine (head2 (h1.pull 2 rfl) _).mono ?_
  rw [findI_nat, g2]
  rintro e w2 ⟨rfl, h2⟩
  refine ⟨_, _, _, _, _, _, rfl, ?_⟩
  refine NewC.ofRow h2 fun d w3 h3 => ?_
  refine st5 h3 0 rfl fun w4 h4 => ?_
  refine cond_f rfl ?_
  have h5 := h4.drew
  refine ld5 h5 0 rfl ?_
  refine st5 h5 2 rfl fun w6 h6 => ?_
  refine ld5 h6 2 rfl ?_
  refine ⟨?_, heap_shut hm (ba := ba) (bt := bt) ?_⟩
  ·rw [g1, g4]; rfl
  ·have h7 : Sat (Arena H.m ba :: Row c _ _ :: Row b (hrow ba bt H.roots v) 106 :: Tbl H.t bt :: F) w6 := h6.drop
   exact h7.p1.drop.p1
theorem hhead_c (hs : Sat (HeapH H v b :: F) w) {x : Nat} (hx : x < 18446744073709551616) : Calls Tryz.prog 82 #[.pointer (some ⟨b, 0, none⟩), .int .u64 (x : Int)] w
  (Ret (match H.look x with | some o => .tuple #[.int .i64 (o.tag : Nat), .int .i64 (o.refs : Nat), .int .i64 (o.w.length : Nat), .int .i64 0] | none => .tuple #[.int .i64 0, .int .i64 0, .int .i64 0, .int .i64 6]) (Sat (HeapH H v b :: F))) := by
 refine S_heap_Heap_Head_ok _ _ _ _ ?_
 unfold S_heap_Heap_Head
 refine (hfind_c hs hx).mono ?_
 rintro e w1 ⟨rfl, h1⟩
 cases hl : H.look x with
 | none =>
  refine ⟨_, _, _, _, _, _, _, rfl, ?_⟩
  refine NewC.ofRow h1 fun d w3 h3 => ?_
  refine st5 h3 0 rfl fun w4 h4 => ?_
  have h5 := h4.drew
  refine LdI.of h5 0 rfl (off := 0) rfl rfl (LdI.of h5 0 rfl (off := 1) rfl (add_mk _ _ _) (LdI.of h5 0 rfl (off := 2) rfl (add_mk _ _ _) ⟨rfl, h5.drop⟩))
 | some o =>
  refine ⟨_, _, _, _, _, _, _, rfl, ?_⟩
  refine NewC.ofRow h1 fun d w3 h3 => ?_
  refine st5 h3 0 rfl fun w4 h4 => ?_
  have h5 := h4.drew
  refine LdI.of h5 0 rfl (off := 0) rfl rfl (LdI.of h5 0 rfl (off := 1) rfl (add_mk _ _ _) (LdI.of h5 0 rfl (off := 2) rfl (add_mk _ _ _) ⟨rfl, h5.drop⟩))
def Hp.ref (H : Hp) (x : Nat) (i : Int) : Nat × Nat :=
 match H.look x with
 | none => (0, 6)
 | some o => if 0 <= i /\ i < o.refs then (o.w.getD i.toNat 0, 0) else (0, 1)
def Hp.word (H : Hp) (x : Nat) (i : Int) : Nat × Nat :=
 match H.look x with
 | none => (0, 6)
 | some o => if 0 <= i /\ i < (o.w.length : Int) - o.refs then (o.w.getD (o.refs + i.toNat) 0, 0) else (0, 1)
def Hp.root (H : Hp) (i : Int) : Nat × Nat := if 0 <= i /\ i < 16 then (H.roots.getD i.toNat 0, 0) else (0, 1)
theorem get_at (hm : H.WF) {x : Nat} {o : Ob} (hl : H.look x = some o) {j : Nat} (hj : j < o.w.length) {ba bt : Nat} {G : List HP} {w : World} {K : Ending -> World -> Prop}
  (hs : Sat (Arena H.m ba :: G) w) (h : ∀ w', Sat (Arena H.m ba :: G) w' -> K (.returned (.tuple #[.int .u64 (o.w.getD j 0 : Nat), .int .i64 0])) w') :
  Calls Tryz.prog 128 #[.pointer (some ⟨ba, 0, none⟩), .int .i64 (H.place x : Int), .int .i64 (j : Int)] w K := by
 refine (get2 hs _ _).mono ?_
 rintro e w' ⟨rfl, h'⟩
 obtain ⟨_, h2⟩ := look_some hm hl
 rw [findI_nat, h2, getO_of (x := o.w.getD j 0) (by rw [List.getD_eq_getElem?_getD, List.getElem?_eq_getElem hj]; rfl)]
 exact h w' h'
theorem href_c (hs : Sat (HeapH H v b :: F) w) {x : Nat} (hx : x < 18446744073709551616) (i : Int) : Calls Tryz.prog 83 #[.pointer (some ⟨b, 0, none⟩), .int .u64 (x : Int), .int .i64 i] w
  (Ret (.tuple #[.int .u64 ((Hp.ref H x i).1 : Nat), .int .i64 ((Hp.ref H x i).2 : Nat)]) (Sat (HeapH H v b :: F))) := by
 refine S_heap_Heap_Ref_ok _ _ _ _ _ ?_
 unfold S_heap_Heap_Ref Hp.ref
 refine (hfind_c hs hx).mono ?_
 rintro e w1 ⟨rfl, h1⟩
 cases hl : H.look x with
 | none =>
  refine ⟨_, _, _, _, _, _, _, rfl, ?_⟩
  refine NewC.ofRow h1 fun d w3 h3 => ?_
  refine st5 h3 0 rfl fun w4 h4 => ?_
  exact cond_t rfl ⟨rfl, h4.drop⟩
 | some o =>
  refine ⟨_, _, _, _, _, _, _, rfl, ?_⟩
  refine NewC.ofRow h1 fun d w3 h3 => ?_
  refine st5 h3 0 rfl fun w4 h4 => ?_
  refine cond_f rfl ?_
  dsimp only
  by_cases h0 : i < 0
  ·exact cond_t (by simpa using h0) ⟨by rw [if_neg (by omega)]; rfl, h4.drop⟩
  refine cond_f (by simpa using h0) ?_
  refine LdI.of h4 0 rfl (off := 1) rfl (add_mk _ _ _) ?_
  by_cases h2 : i < o.refs
  ·refine cond_f (by simpa using h2) ?_
   obtain ⟨hm, ba, bt, h5⟩ := heap_open (h4.p1)
   simp only [onSome_some]
   refine LdP.of h5 0 rfl (off := 0) rfl rfl ?_
   obtain ⟨j, rfl⟩ := Int.eq_ofNat_of_zero_le (Int.not_lt.1 h0)
   have hok := look_ok hm hl
   have hr := hok.refs
   refine get_at hm hl (j := j) (by omega) (bt := bt) (h5.pull 1 rfl) fun w' h6 => ?_
   refine ⟨_, _, rfl, by rw [if_pos (by omega)]; rfl, ?_⟩
   have h7 := heap_shut hm (ba := ba) (bt := bt) (v := v) (b := b) (Sat.p1 h6)
   exact h7.p1.drop
  ·exact cond_t (by simpa using h2) ⟨by rw [if_neg (by omega)]; rfl, h4.drop⟩
theorem scalar_c (hs : Sat (HeapH H v b :: F) w) {x : Nat} (hx : x < 18446744073709551616) (i : Int) : Calls Tryz.prog 90 #[.pointer (some ⟨b, 0, none⟩), .int .u64 (x : Int), .int .i64 i] w
  (Ret (match H.look x with | none => .tuple #[.int .i64 0, .int .i64 0, .int .i64 6] | some o => if 0 <= i /\ i < (o.w.length : Int) - o.refs then .tuple #[.int .i64 (H.place x : Nat), .int .i64 (o.refs + i), .int .i64 0] else .tuple #[.int .i64 0, .int .i64 0, .int .i64 1]) (Sat (HeapH H v b :: F))) := by
 obtain ⟨hm, _⟩ := heap_open hs
 refine S_heap_Heap_scalar_ok _ _ _ _ _ ?_
 unfold S_heap_Heap_scalar
 refine (hfind_c hs hx).mono ?_
 rintro e w1 ⟨rfl, h1⟩
 cases hl : H.look x with
 | none =>
  refine ⟨_, _, _, _, _, _, _, rfl, ?_⟩
  refine NewC.ofRow h1 fun d w3 h3 => ?_
  refine st5 h3 0 rfl fun w4 h4 => ?_
  exact cond_t rfl ⟨rfl, h4.drop⟩
 | some o =>
  have hok := look_ok hm hl
  have hr := hok.refs; have hz := hok.size
  refine ⟨_, _, _, _, _, _, _, rfl, ?_⟩
  refine NewC.ofRow h1 fun d w3 h3 => ?_
  refine st5 h3 0 rfl fun w4 h4 => ?_
  refine cond_f rfl ?_
  dsimp only
  by_cases h0 : i < 0
  ·exact cond_t (by simpa using h0) ⟨by rw [if_neg (by omega)], h4.drop⟩
  refine cond_f (by simpa using h0) ?_
  refine LdI.of h4 0 rfl (off := 2) rfl (add_mk _ _ _) (LdI.of h4 0 rfl (off := 1) rfl (add_mk _ _ _) ?_)
  rw [wrapI64 (by omega) (by omega)]
  by_cases h2 : i < (o.w.length : Int) - o.refs
  ·refine cond_f (by simpa using h2) ?_
   refine LdI.of h4.drew 0 rfl (off := 1) rfl (add_mk _ _ _) ?_
   rw [wrapI64 (by omega) (by omega)]
   exact ⟨by rw [if_pos (by omega)], h4.drew.drop⟩
  ·exact cond_t (by simpa using h2) ⟨by rw [if_neg (by omega)], h4.drop⟩
theorem hword_c (hs : Sat (HeapH H v b :: F) w) {x : Nat} (hx : x < 18446744073709551616) (i : Int) : Calls Tryz.prog 110 #[.pointer (some ⟨b, 0, none⟩), .int .u64 (x : Int), .int .i64 i] w
  (Ret (.tuple #[.int .u64 ((Hp.word H x i).1 : Nat), .int .i64 ((Hp.word H x i).2 : Nat)]) (Sat (HeapH H v b :: F))) := by
 refine S_heap_Heap_Word_ok _ _ _ _ _ ?_
 unfold S_heap_Heap_Word Hp.word
 refine (scalar_c hs hx i).mono ?_
 rintro e w1 ⟨rfl, h1⟩
 cases hl : H.look x with
 | none => exact ⟨_, _, _, rfl, cond_t rfl ⟨rfl, h1⟩⟩
 | some o =>
  dsimp only
  by_cases hi : 0 <= i /\ i < (o.w.length : Int) - o.refs
  ·rw [if_pos hi, if_pos hi]
   refine ⟨_, _, _, rfl, cond_f rfl ?_⟩
   obtain ⟨hm, ba, bt, h5⟩ := heap_open h1
   simp only [onSome_some]
   refine LdP.of h5 0 rfl (off := 0) rfl rfl ?_
   obtain ⟨j, rfl⟩ := Int.eq_ofNat_of_zero_le hi.1
   have e : ((o.refs : Int) + (j : Int)) = ((o.refs + j : Nat) : Int) := by omega
   rw [e]
   refine get_at hm hl (j := o.refs + j) (by omega) (bt := bt) (h5.pull 1 rfl) fun w' h6 => ?_
   exact ⟨_, _, rfl, rfl, heap_shut hm (ba := ba) (bt := bt) (v := v) (b := b) (Sat.p1 h6)⟩
  ·rw [if_neg hi, if_neg hi]
   exact ⟨_, _, _, rfl, cond_t rfl ⟨rfl, h1⟩⟩
theorem hroot_c (hs : Sat (HeapH H v b :: F) w) (i : Int) : Calls Tryz.prog 114 #[.pointer (some ⟨b, 0, none⟩), .int .i64 i] w
  (Ret (.tuple #[.int .u64 ((Hp.root H i).1 : Nat), .int .i64 ((Hp.root H i).2 : Nat)]) (Sat (HeapH H v b :: F))) := by
 obtain ⟨hm, ba, bt, h0⟩ := heap_open hs
 refine S_heap_Heap_Root_ok _ _ _ _ ?_
 unfold S_heap_Heap_Root Hp.root
 by_cases h1 : i < 0
 ·exact cond_t (by simpa using h1) ⟨by rw [if_neg (by omega)]; rfl, hs⟩
 refine cond_f (by simpa using h1) ?_
 by_cases h2 : 16 <= i
 ·exact cond_t (by simpa using h2) ⟨by rw [if_neg (by omega)]; rfl, hs⟩
 refine cond_f (by simpa using h2) ?_
 simp only [onSome_some]
 obtain ⟨j, rfl⟩ := Int.eq_ofNat_of_zero_le (Int.not_lt.1 h1)
 refine IdxF.of (by omega) (by omega) ?_
 have hl := hm.rlen
 have hj : H.roots[j]? = some (H.roots.getD j 0) := by rw [List.getD_eq_getElem?_getD, List.getElem?_eq_getElem (by omega)]; rfl
 refine LdI.of h0 0 rfl (off := 2 + j) (hrow_root hj) (by rw [add_mk, add_mk]; simp) ?_
 exact ⟨by rw [if_pos (by omega)]; rfl, hs⟩
theorem may_c (hs : Sat (HeapH H v b :: F) w) {y : Nat} (hy : y < 18446744073709551616) : Calls Tryz.prog 80 #[.pointer (some ⟨b, 0, none⟩), .int .u64 (y : Int)] w fun e w' =>
  e = .returned (.int .i64 (if H.may y = true then 0 else 6)) /\ w = w' := by
 obtain ⟨hm, ba, bt, h0⟩ := heap_open hs
 refine S_heap_Heap_may_ok _ _ _ _ ?_
 unfold S_heap_Heap_may Hp.may
 by_cases h1 : y = 0
 ·subst h1
  exact cond_t (by rfl) ⟨by simp, rfl⟩
 refine cond_f (by simpa using h1) ?_
 simp only [onSome_some]
 refine LdP.of h0 0 rfl (off := 1) rfl (add_mk _ _ _) ?_
 refine (at_c (h0.pull 2 rfl) hy).mono ?_
 rintro e w2 ⟨rfl, rfl⟩
 cases hf : H.t.find y with
 | none => exact ⟨_, _, rfl, by rw [(look_none hm).2 hf]; simp [h1], rfl⟩
 | some i => obtain ⟨o, g1, _⟩ := look_find hm hf; exact ⟨_, _, rfl, by rw [g1]; simp, rfl⟩
theorem linked_c (hs : Sat (HeapH H v b :: F) w) {y : Nat} {Q : World → Prop} (hQ : if y = 0 then Q w else Tell v "Linked" y w Q) : Calls Tryz.prog 85 #[.pointer (some ⟨b, 0, none⟩), .int .u64 (y : Int)] w (Ret (.tuple #[]) Q) := by
 obtain ⟨hm, ba, bt, h0⟩ := heap_open hs
 refine S_heap_Heap_linked_ok _ _ _ _ ?_
 unfold S_heap_Heap_linked
 by_cases h1 : y = 0
 ·rw [if_pos h1] at hQ
  subst h1
  exact cond_f (by rfl) ⟨rfl, hQ⟩
 rw [if_neg h1] at hQ
 refine cond_t (by simpa using h1) ?_
 simp only [onSome_some]
 refine LdV.of h0 0 rfl (off := 18) (hrow_v hm.rlen) (add_mk _ _ _) ?_
 obtain ⟨c, h2, h3⟩ := hQ
 refine ⟨c, h2, ?_⟩
 cases c
 ·refine cond_t rfl ?_
  refine LdV.of h0 0 rfl (off := 18) (hrow_v hm.rlen) (add_mk _ _ _) ?_
  obtain ⟨t, u, f, r, g1, g2, g3, g4⟩ := h3
  exact ⟨t, u, f, r, g1, g2, g3, g4.mono fun e w' hh => ⟨hh.1, rfl, hh.2⟩⟩
 ·exact cond_f rfl ⟨rfl, h3⟩
def Hp.refE (H : Hp) (x : Nat) (i : Int) (y : Nat) : Nat :=
 match H.look x with
 | none => 6
 | some o => if 0 <= i /\ i < o.refs then (if H.may y = true then 0 else 6) else 1
def Hp.setRef (H : Hp) (x : Nat) (i : Int) (y : Nat) : Hp := match H.look x with | some o => H.set x (o.put i.toNat y) | none => H
def Hp.wordE (H : Hp) (x : Nat) (i : Int) : Nat :=
 match H.look x with
 | none => 6
 | some o => if 0 <= i /\ i < (o.w.length : Int) - o.refs then 0 else 1
def Hp.setWord (H : Hp) (x : Nat) (i : Int) (y : Nat) : Hp := match H.look x with | some o => H.set x (o.put (o.refs + i.toNat) y) | none => H
def Hp.rootE (H : Hp) (i : Int) (y : Nat) : Nat := if 0 <= i /\ i < 16 then (if H.may y = true then 0 else 6) else 1
theorem put_at (hm : H.WF) {x : Nat} {o : Ob} (hl : H.look x = some o) {j y : Nat} (hj : j < o.w.length) (hy : y < 18446744073709551616) {ba : Nat} {G : List HP} {w : World} {K : Ending -> World -> Prop}
  (hs : Sat (Arena H.m ba :: G) w) (h : (H.set x (o.put j y)).WF -> ∀ w', Sat (Arena (H.set x (o.put j y)).m ba :: G) w' -> K (.returned (.int .i64 0)) w') :
  Calls Tryz.prog 89 #[.pointer (some ⟨ba, 0, none⟩), .int .i64 (H.place x : Int), .int .i64 (j : Int), .int .u64 (y : Int)] w K := by
 obtain ⟨_, h2⟩ := look_some hm hl
 refine (put2 hs _ _ hy).mono fun e w' hp => ?_
 rcases hp with ⟨h3, _⟩ | ⟨k, i, p, e1, e2, h3, h4, h5, h6⟩
 ·rw [findI_nat, h2, getO_of (List.getElem?_eq_getElem hj)] at h3; cases h3
 ·have e1 : k = H.place x := by omega
  have e2 : i = j := by omega
  subst e1
  subst e2
  rw [h2] at h3
  cases h3
  rw [h5]
  exact h (set_wf hm hl (by simp [Ob.put]) rfl (Ob.put_ok (look_ok hm hl) i hy)) w' h6
theorem setref_c (hs : Sat (HeapH H v b :: F) w) {x : Nat} (hx : x < 18446744073709551616) (i : Int) {y : Nat} (hy : y < 18446744073709551616) {Q : World -> Prop}
  (hQ : Hp.refE H x i y = 0 → ∀ w', Sat (HeapH (Hp.setRef H x i y) v b :: F) w' → if y = 0 then Q w' else Tell v "Linked" y w' Q) :
  Calls Tryz.prog 38 #[.pointer (some ⟨b, 0, none⟩), .int .u64 (x : Int), .int .i64 i, .int .u64 (y : Int)] w
  (Ret (.int .i64 (Hp.refE H x i y : Nat)) (Post (Hp.refE H x i y) Q (Sat (HeapH H v b :: F)))) := by
 obtain ⟨hm, _⟩ := heap_open hs
 refine S_heap_Heap_SetRef_ok _ _ _ _ _ _ ?_
 unfold S_heap_Heap_SetRef
 refine (hfind_c hs hx).mono ?_
 rintro e w1 ⟨rfl, h1⟩
 cases hl : H.look x with
 | none =>
  have hE : Hp.refE H x i y = 6 := by simp [Hp.refE, hl]
  refine ⟨_, _, _, _, _, _, _, rfl, ?_⟩
  refine NewC.ofRow h1 fun d w3 h3 => ?_
  refine st5 h3 0 rfl fun w4 h4 => ?_
  exact cond_t rfl (post_no (k := 6) hE (by decide) h4.drop)
 | some o =>
  have hok := look_ok hm hl
  have hr := hok.refs; have hz := hok.size
  refine ⟨_, _, _, _, _, _, _, rfl, ?_⟩
  refine NewC.ofRow h1 fun d w3 h3 => ?_
  refine st5 h3 0 rfl fun w4 h4 => ?_
  refine cond_f rfl ?_
  by_cases hc : 0 <= i /\ i < (o.refs : Int)
  ·refine cond_f (by simp; omega) ?_
   refine LdI.of h4 0 rfl (off := 1) rfl (add_mk _ _ _) ?_
   refine cond_f (by simp; omega) ?_
   refine (may_c h4.p1 hy).mono ?_
   rintro e w5 ⟨rfl, rfl⟩
   refine ⟨_, rfl, ?_⟩
   cases hmy : H.may y with
   | false => exact cond_t rfl (post_no (k := 6) (by simp only [Hp.refE, hl]; rw [if_pos hc, hmy]; rfl) (by decide) h4.drop)
   | true =>
    have hE : Hp.refE H x i y = 0 := by simp only [Hp.refE, hl]; rw [if_pos hc, hmy]; rfl
    have hS : Hp.setRef H x i y = H.set x (o.put i.toNat y) := by simp only [Hp.setRef, hl]
    refine cond_f rfl ?_
    obtain ⟨_, ba, bt, h5⟩ := heap_open (h4.p1)
    simp only [onSome_some]
    refine LdP.of h5 0 rfl (off := 0) rfl rfl ?_
    obtain ⟨j, rfl⟩ := Int.eq_ofNat_of_zero_le hc.1
    refine put_at hm hl (j := j) (by omega) hy (h5.pull 1 rfl) fun hm' w' h6 => ?_
    refine ⟨_, rfl, cond_f rfl ?_⟩
    have h7 := heap_shut (H := H.set x (o.put j y)) hm' (ba := ba) (bt := bt) (v := v) (b := b) (Sat.p1 h6)
    refine (linked_c h7 (hQ hE w' (by rw [hS]; exact h7.p1.drop))).mono fun e w'' ⟨he, hq⟩ => ⟨he, post_yes hE hq⟩
  ·have hE : Hp.refE H x i y = 1 := by simp only [Hp.refE, hl]; rw [if_neg hc]
   by_cases h0 : i < 0
   ·exact cond_t (by simpa using h0) (post_no (k := 1) hE (by decide) h4.drop)
   ·refine cond_f (by simpa using h0) ?_
    refine LdI.of h4 0 rfl (off := 1) rfl (add_mk _ _ _) ?_
    exact cond_t (by simp; omega) (post_no (k := 1) hE (by decide) h4.drop)
theorem setword_c (hs : Sat (HeapH H v b :: F) w) {x : Nat} (hx : x < 18446744073709551616) (i : Int) {y : Nat} (hy : y < 18446744073709551616) :
  Calls Tryz.prog 39 #[.pointer (some ⟨b, 0, none⟩), .int .u64 (x : Int), .int .i64 i, .int .u64 (y : Int)] w
  (Ret (.int .i64 (Hp.wordE H x i : Nat)) (Sat (HeapH (if Hp.wordE H x i = 0 then Hp.setWord H x i y else H) v b :: F))) := by
 obtain ⟨hm, _⟩ := heap_open hs
 refine S_heap_Heap_SetWord_ok _ _ _ _ _ _ ?_
 unfold S_heap_Heap_SetWord Hp.wordE Hp.setWord
 refine (scalar_c hs hx i).mono ?_
 rintro e w1 ⟨rfl, h1⟩
 cases hl : H.look x with
 | none => exact ⟨_, _, _, rfl, cond_t rfl ⟨rfl, by simpa using h1⟩⟩
 | some o =>
  dsimp only
  by_cases hi : 0 <= i /\ i < (o.w.length : Int) - o.refs
  ·simp only [if_pos hi]
   refine ⟨_, _, _, rfl, cond_f rfl ?_⟩
   obtain ⟨_, ba, bt, h5⟩ := heap_open h1
   simp only [onSome_some]
   refine LdP.of h5 0 rfl (off := 0) rfl rfl ?_
   obtain ⟨j, rfl⟩ := Int.eq_ofNat_of_zero_le hi.1
   have e : ((o.refs : Int) + (j : Int)) = ((o.refs + j : Nat) : Int) := by omega
   rw [e]
   refine put_at hm hl (j := o.refs + j) (by omega) hy (h5.pull 1 rfl) fun hm' w' h6 => ?_
   exact ⟨_, rfl, rfl, by simpa using heap_shut (H := H.set x (o.put (o.refs + j) y)) hm' (ba := ba) (bt := bt) (v := v) (b := b) (Sat.p1 h6)⟩
  ·simp only [if_neg hi]
   exact ⟨_, _, _, rfl, cond_t rfl ⟨rfl, by simpa using h1⟩⟩
theorem setroot_c (hs : Sat (HeapH H v b :: F) w) (i : Int) {y : Nat} (hy : y < 18446744073709551616) {Q : World -> Prop}
  (hQ : Hp.rootE H i y = 0 → ∀ w', Sat (HeapH (H.rooted i.toNat y) v b :: F) w' → if y = 0 then Q w' else Tell v "Linked" y w' Q) :
  Calls Tryz.prog 36 #[.pointer (some ⟨b, 0, none⟩), .int .i64 i, .int .u64 (y : Int)] w
  (Ret (.int .i64 (Hp.rootE H i y : Nat)) (Post (Hp.rootE H i y) Q (Sat (HeapH H v b :: F)))) := by
 obtain ⟨hm, _⟩ := heap_open hs
 refine S_heap_Heap_SetRoot_ok _ _ _ _ _ ?_
 unfold S_heap_Heap_SetRoot
 by_cases hc : 0 <= i /\ i < 16
 ·refine cond_f (by simp; omega) (cond_f (by simp; omega) ?_)
  refine (may_c hs hy).mono ?_
  rintro e w5 ⟨rfl, rfl⟩
  refine ⟨_, rfl, ?_⟩
  cases hmy : H.may y with
  | false => exact cond_t rfl (post_no (k := 6) (by simp only [Hp.rootE]; rw [if_pos hc, hmy]; rfl) (by decide) hs)
  | true =>
   have hE : Hp.rootE H i y = 0 := by simp only [Hp.rootE]; rw [if_pos hc, hmy]; rfl
   refine cond_f rfl ?_
   obtain ⟨_, ba, bt, h0⟩ := heap_open hs
   simp only [onSome_some]
   obtain ⟨j, rfl⟩ := Int.eq_ofNat_of_zero_le hc.1
   refine IdxF.of (by omega) (by omega) ?_
   have hl := hm.rlen
   have hj : H.roots[j]? = some (H.roots.getD j 0) := by rw [List.getD_eq_getElem?_getD, List.getElem?_eq_getElem (by omega)]; rfl
   refine StC.of h0 0 rfl (off := 2 + j) (hrow_root hj) (by rw [add_mk, add_mk]; simp) fun w' h3 => ?_
   rw [List.set_cons_zero, hrow_set y (by omega)] at h3
   have h4 := heap_shut (H := H.rooted j y) (rooted_wf hm hy) h3
   exact (linked_c h4 (hQ hE w' h4)).mono fun e w'' ⟨he, hq⟩ => ⟨he, post_yes hE hq⟩
 ·have hE : Hp.rootE H i y = 1 := by simp only [Hp.rootE]; rw [if_neg hc]
  by_cases h1 : i < 0
  ·exact cond_t (by simpa using h1) (post_no (k := 1) hE (by decide) hs)
  ·exact cond_f (by simpa using h1) (cond_t (by simp; omega) (post_no (k := 1) hE (by decide) hs))
def Hp.makeE (H : Hp) (tag refs size : Int) : Nat := if 1 <= tag /\ tag <= 255 /\ 0 <= size /\ size <= 4096 /\ 0 <= refs /\ refs <= size then (if (H.m.n : Int) < H.m.top + 1 + size ∨ H.t.count = H.t.n then 5 else 0) else 1
theorem make_yes (hs : Sat (HeapH H v b :: F) w) {tag refs size : Nat} (hE : Hp.makeE H tag refs size = 0) {Q : World -> Prop}
  (hQ : ∀ w', Sat (HeapH (H.made tag refs size) v b :: F) w' → Tell v "Made" (nextH H.t) w' Q) :
  Calls Tryz.prog 37 #[.pointer (some ⟨b, 0, none⟩), .int .i64 (tag : Int), .int .i64 (refs : Int), .int .i64 (size : Int)] w (Ret (.tuple #[.int .u64 (nextH H.t : Nat), .int .i64 0]) Q) := by
 obtain ⟨hm, ba, bt, h0⟩ := heap_open hs
 refine S_heap_Heap_Make_ok _ _ _ _ _ _ ?_
 unfold S_heap_Heap_Make
 unfold Hp.makeE at hE
 refine (fits_c _ _ _ _ _).mono ?_
 rintro e w1 ⟨rfl, rfl⟩
 refine ⟨_, rfl, ?_⟩
 have hf : 1 <= (tag : Int) /\ (tag : Int) <= 255 /\ 0 <= (size : Int) /\ (size : Int) <= 4096 /\ 0 <= (refs : Int) /\ (refs : Int) <= size := by
  by_cases h : 1 <= (tag : Int) /\ (tag : Int) <= 255 /\ 0 <= (size : Int) /\ (size : Int) <= 4096 /\ 0 <= (refs : Int) /\ (refs : Int) <= size
  ·exact h
  ·rw [if_neg h] at hE; cases hE
 rw [if_pos hf] at hE
 have hroom : ¬ ((H.m.n : Int) < H.m.top + 1 + size ∨ H.t.count = H.t.n) := fun h => by rw [if_pos h] at hE; cases hE
 have hr : ¬ (H.m.n : Int) < H.m.top + 1 + size := fun h => hroom (.inl h)
 have hcn : H.t.count ≠ H.t.n := fun h => hroom (.inr h)
 have hnf : ¬ H.t.full := fun h => hcn ((full_count hm.tab).2 h)
 rw [if_pos (by omega)]
 refine cond_f rfl ?_
 refine ⟨fun w => Sat (Row b (hrow ba bt H.roots v) 106 :: Arena H.m ba :: Tbl H.t bt :: F) w, h0.drew, ?_⟩
 simp only [onSome_some]
 refine LdPQ.row (fun w hw => ⟨_, hw⟩) (off := 0) rfl rfl ?_
 refine (free2 (h0.drew.pull 1 rfl)).mono ?_
 rintro e w2 ⟨rfl, h2⟩
 have h2 := Sat.p1 h2
 refine ⟨_, rfl, h2, ?_⟩
 have ht := hm.am.top; have hmo := hm.am.most
 rw [wrapI64 (by omega) (by omega)]
 refine cond_f (by simp; omega) ?_
 refine LdPQ.row (fun w hw => ⟨_, hw⟩) (off := 1) rfl (add_mk _ _ _) ?_
 refine LdPQ.row (fun w hw => ⟨_, hw⟩) (off := 1) rfl (add_mk _ _ _) ?_
 refine (count_c (h2.pull 2 rfl)).mono ?_
 rintro e w3 ⟨rfl, rfl⟩
 refine ⟨_, rfl, h2, ?_⟩
 refine (slots_c (h2.pull 2 rfl)).mono ?_
 rintro e w3 ⟨rfl, rfl⟩
 refine ⟨_, rfl, h2, ?_⟩
 refine cond_f (by simpa using fun h : (H.t.count : Int) = H.t.n => hcn (by omega)) ?_
 refine ⟨fun w => ∃ L, Sat (Row b (hrow ba bt H.roots v) 106 :: L) w, ⟨_, h2.drew⟩, ?_⟩
 refine LdPQ.row (fun w hw => hw) (off := 1) rfl (add_mk _ _ _) ?_
 refine LdPQ.row (fun w hw => hw) (off := 0) rfl rfl ?_
 have h3 := h2.drew
 generalize World.drew _ = w3 at h3
 refine (top2 (h3.pull 1 rfl)).mono ?_
 rintro e w4 ⟨rfl, rfl⟩
 refine ⟨_, rfl, ⟨_, h3⟩, ?_⟩
 have hn := hm.tab.next_lt hnf
 have htm := hm.tab.most
 refine (make_ok (h3.pull 2 rfl) (a := H.m.top) (by omega) hnf).mono ?_
 rintro e w4 ⟨rfl, h4⟩
 refine ⟨_, _, rfl, ⟨_, Sat.p1 h4⟩, cond_f rfl ?_⟩
 refine LdP.of h4 1 rfl (off := 1) rfl (add_mk _ _ _) ?_
 refine (slot_c h4 (next_u64 hm hnf)).mono ?_
 rintro e w5 ⟨rfl, rfl⟩
 rw [find_make hm.tab hnf, if_pos rfl]
 refine ⟨_, _, rfl, cond_f rfl ?_⟩
 refine LdP.of h4 1 rfl (off := 0) rfl rfl ?_
 have h5 : Sat (Arena H.m ba :: Tbl (H.t.make H.m.top) bt :: Row b (hrow ba bt H.roots v) 106 :: F) _ := h4.pull 2 rfl
 refine (alloc2 h5 (by unfold Fit; omega) (by omega)).mono ?_
 rintro e w6 ⟨rfl, h6⟩
 refine ⟨_, _, rfl, cond_f rfl ?_⟩
 have hm' := made_wf hm (tag := tag) (refs := refs) (size := size) (by omega) (by omega) (by omega) hnf (by omega)
 have h7 : Sat (HeapH (H.made tag refs size) v b :: F) w6 := heap_shut hm' (ba := ba) (bt := bt) (h6.pull 2 rfl)
 have h8 : Sat (Row b (hrow ba bt H.roots v) 106 :: _) w6 := h6.pull 2 rfl
 refine LdV.of h8 0 rfl (off := 18) (hrow_v hm.rlen) (add_mk _ _ _) ?_
 obtain ⟨c, g2, g3⟩ := hQ w6 h7
 refine ⟨c, g2, ?_⟩
 cases c
 ·refine cond_t rfl ?_
  refine LdV.of h8 0 rfl (off := 18) (hrow_v hm.rlen) (add_mk _ _ _) ?_
  obtain ⟨t, u, f, r, k1, k2, k3, k4⟩ := g3
  exact ⟨t, u, f, r, k1, k2, k3, k4.mono fun e w' hh => ⟨hh.1, rfl, hh.2⟩⟩
 ·exact cond_f rfl ⟨rfl, g3⟩
end
theorem htable_c {H : Hp} {v : Value} {b : Nat} {F : List HP} {w : World} (hs : Sat (HeapH H v b :: F) w) : Calls Tryz.prog 24 #[.pointer (some ⟨b, 0, none⟩)] w fun e w' =>
  w = w' /\ ∃ ba bt, e = .returned (.pointer (some ⟨bt, 0, none⟩)) /\ Sat (Row b (hrow ba bt H.roots v) 106 :: Arena H.m ba :: Tbl H.t bt :: F) w' := by
 obtain ⟨hm, ba, bt, h0⟩ := heap_open hs
 refine S_heap_Heap_Table_ok _ _ _ ?_
 unfold S_heap_Heap_Table
 simp only [onSome_some]
 refine LdP.of h0 0 rfl (off := 1) rfl (add_mk _ _ _) ?_
 exact ⟨trivial, ba, bt, rfl, h0⟩
theorem harena_c {H : Hp} {v : Value} {b : Nat} {F : List HP} {w : World} (hs : Sat (HeapH H v b :: F) w) : Calls Tryz.prog 22 #[.pointer (some ⟨b, 0, none⟩)] w fun e w' =>
  w = w' /\ ∃ ba bt, e = .returned (.pointer (some ⟨ba, 0, none⟩)) /\ Sat (Row b (hrow ba bt H.roots v) 106 :: Arena H.m ba :: Tbl H.t bt :: F) w' := by
 obtain ⟨hm, ba, bt, h0⟩ := heap_open hs
 refine S_heap_Heap_Arena_ok _ _ _ ?_
 unfold S_heap_Heap_Arena
 simp only [onSome_some]
 refine LdP.of h0 0 rfl (off := 0) rfl rfl ?_
 exact ⟨trivial, ba, bt, rfl, h0⟩
theorem watch_c {H : Hp} {v v' : Value} (hv : Value.oneCell' v' = true) {b : Nat} {F : List HP} {w : World} (hs : Sat (HeapH H v b :: F) w) : Calls Tryz.prog 70 #[.pointer (some ⟨b, 0, none⟩), v'] w (Ret (.tuple #[]) (Sat (HeapH H v' b :: F))) := by
 obtain ⟨hm, ba, bt, h0⟩ := heap_open hs
 refine S_heap_Heap_Watch_ok _ _ _ _ ?_
 unfold S_heap_Heap_Watch
 simp only [onSome_some]
 refine ⟨hv, StC.of h0 0 rfl (off := 18) (hrow_v hm.rlen) (add_mk _ _ _) fun w' h1 => ?_⟩
 refine ⟨rfl, ?_⟩
 rw [List.set_cons_zero, hrow_setv hm.rlen] at h1
 exact heap_shut hm h1
theorem heap_new_c {n k : Nat} (h1 : 1 <= n) (h2 : n <= 1048576) (h3 : 1 <= k) (h4 : k <= 1048576) {F : List HP} {w : World} (hs : Sat F w) : Calls Tryz.prog 84 #[.int .i64 (n : Int), .int .i64 (k : Int)] w fun e w' =>
  ∃ b, e = .returned (.tuple #[.pointer (some ⟨b, 0, none⟩), .int .i64 0]) /\ Sat (HeapH (Hp.new n k) .nilIface b :: F) w' := by
 refine S_heap_New_ok _ _ _ _ ?_
 unfold S_heap_New
 refine (new2 h1 h2 hs).mono ?_
 rintro e w1 ⟨ba, rfl, s1⟩
 refine ⟨_, _, rfl, cond_f rfl ?_⟩
 refine (new_c h3 h4 s1).mono ?_
 rintro e w2 ⟨bt, rfl, s2⟩
 refine ⟨_, _, rfl, cond_f rfl ?_⟩
 refine NewC.ofRow (T := 106) s2.p1 fun b w3 s3 => ?_
 exact ⟨b, rfl, heap_shut (Hm.new_wf h1 h2 h3 h4) (ba := ba) (bt := bt) s3⟩
end Go.Proofs.YtpicofkhioalkaaGreat
