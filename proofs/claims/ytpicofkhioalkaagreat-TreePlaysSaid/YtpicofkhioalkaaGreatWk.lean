
/- What is reached in a heap, as it is met (data); and what 'walk' and 'Live' come to. -/
import Derived.Test.YtpicofkhioalkaaGreatHc
import Derived.Test.YtpicofkhioalkaaGreatLx
set_option maxRecDepth 100000
namespace Go.Hm
open Go Go.Lw Go.Wd Go.Am Go.Tb
def numAt : List Nat -> Nat -> Nat -> Option Nat
 | [], _, _ => none
 | x :: l, i, y => if y = x then some i else numAt l (i + 1) y
def num (l : List Nat) (y : Nat) : Option Nat := numAt l 0 y
theorem numAt_none : ∀ {l : List Nat} {i y : Nat}, numAt l i y = none ↔ y ∉ l
 | [], _, _ => by simp [numAt]
 | x :: l, i, y => by
  simp only [numAt, List.mem_cons, not_or]
  split
  ·rename_i e; simp [e]
  ·rename_i e; rw [numAt_none]; simp [e]
theorem numAt_some : ∀ {l : List Nat} {i y j : Nat}, numAt l i y = some j -> i <= j /\ l[j - i]? = some y
 | [], _, _, _, h => by simp [numAt] at h
 | x :: l, i, y, j, h => by
  simp only [numAt] at h
  split at h
  ·rename_i e; cases h; simp [e]
  ·have := numAt_some h
   refine ⟨by omega, ?_⟩
   rw [show j - i = (j - (i + 1)) + 1 by omega, List.getElem?_cons_succ]
   exact this.2
theorem num_none {l : List Nat} {y : Nat} : num l y = none ↔ y ∉ l := numAt_none
theorem num_some {l : List Nat} {y j : Nat} (h : num l y = some j) : l[j]? = some y := by simpa using (numAt_some h).2
def meet (H : Hp) (l : List Nat) (y : Nat) : List Nat := if (H.look y).isSome /\ y ∉ l then l ++ [y] else l
def meets (H : Hp) (l ys : List Nat) : List Nat := ys.foldl (meet H) l
def refsOf (H : Hp) (x : Nat) : List Nat := match H.look x with | some o => o.w.take o.refs | none => []
def walkStep (H : Hp) (i : Nat) (l : List Nat) : List Nat := match l[i]? with | some x => meets H l (refsOf H x) | none => l
def walkTo (H : Hp) : Nat -> List Nat
 | 0 => meets H [] H.roots
 | k + 1 => walkStep H k (walkTo H k)
def order (H : Hp) : List Nat := walkTo H H.t.n
variable {H : Hp}
structure Met (H : Hp) (l : List Nat) : Prop where
 nd : l.Nodup
 live : ∀ y ∈ l, (H.look y).isSome = true
theorem Met.meet {l : List Nat} (h : Met H l) (y : Nat) : Met H (meet H l y) := by
 unfold Hm.meet
 split
 ·rename_i c
  refine ⟨List.nodup_append.2 ⟨h.nd, by simp, fun a ha b hb => ?_⟩, fun x hx => ?_⟩
  ·simp only [List.mem_singleton] at hb
   subst hb
   exact fun e => c.2 (e ▸ ha)
  ·rcases List.mem_append.1 hx with hx | hx
   ·exact h.live x hx
   ·simp only [List.mem_singleton] at hx; subst hx; exact c.1
 ·exact h
theorem Met.meets {l : List Nat} (h : Met H l) : ∀ ys, Met H (meets H l ys) := by
 intro ys
 induction ys generalizing l with
 | nil => exact h
 | cons y ys ih => exact ih (h.meet y)
theorem met_walk (H : Hp) : ∀ k, Met H (walkTo H k) := by
 intro k
 induction k with
 | zero => exact Met.meets ⟨List.nodup_nil, fun _ h => by cases h⟩ _
 | succ k h =>
  show Met H (walkStep H k (walkTo H k))
  unfold walkStep
  split
  ·exact h.meets _
  ·exact h
theorem Met.len {l : List Nat} (h : Met H l) (hm : H.WF) : l.length <= H.t.n := by
 have hf : ∀ y ∈ l, ∃ i, H.t.find y = some i /\ i < H.t.n := fun y hy => by
  have h1 := h.live y hy
  cases hl : H.look y with
  | none => rw [hl] at h1; cases h1
  | some o =>
   obtain ⟨a, _⟩ := look_some hm hl
   obtain ⟨_, s, b, _⟩ := tfind_iff.1 a
   have := get_lt b
   have := hm.tab.len
   exact ⟨_, a, by omega⟩
 have hg : ∀ y ∈ l, ∃ i, i < H.t.n /\ y % 4294967296 = i + 1 /\ H.t.find y = some i := fun y hy => by
  obtain ⟨i, a, b⟩ := hf y hy
  exact ⟨i, b, (tfind_iff.1 a).1, a⟩
 have := nodup_bound (n := H.t.n) (l := l.map fun y => y % 4294967296 - 1) ?_ ?_
 ·simpa using this
 ·unfold List.Nodup
  rw [List.pairwise_map]
  refine List.Pairwise.imp_of_mem (fun {a b} ha hb hne hh => ?_) h.nd
  obtain ⟨i, _, e1, f1⟩ := hg a ha
  obtain ⟨j, _, e2, f2⟩ := hg b hb
  have hij : i = j := by omega
  subst hij
  exact hne (tfind_inj f1 f2)
 ·intro i hi
  obtain ⟨y, hy, rfl⟩ := List.mem_map.1 hi
  obtain ⟨j, a, b, _⟩ := hg y hy
  omega
theorem meet_pre (l : List Nat) (y : Nat) : l <+: meet H l y := by
 unfold meet; split
 ·exact ⟨[y], rfl⟩
 ·exact List.prefix_refl _
theorem meets_pre : ∀ (ys l : List Nat), l <+: meets H l ys
 | [], l => List.prefix_refl _
 | y :: ys, l => (meet_pre l y).trans (meets_pre ys (meet H l y))
theorem walk_pre (k : Nat) : walkTo H k <+: walkTo H (k + 1) := by
 show walkTo H k <+: walkStep H k (walkTo H k)
 unfold walkStep; split
 ·exact meets_pre _ _
 ·exact List.prefix_refl _
theorem walk_fix {k : Nat} (h : (walkTo H k).length <= k) : ∀ j, walkTo H (k + j) = walkTo H k
 | 0 => rfl
 | j + 1 => by
  show walkStep H (k + j) (walkTo H (k + j)) = walkTo H k
  rw [walk_fix h j]
  unfold walkStep
  rw [List.getElem?_eq_none (by omega)]
theorem order_eq (hm : H.WF) {k : Nat} (h : (walkTo H k).length = k) : order H = walkTo H k := by
 have hk : k <= H.t.n := by have := (met_walk H k).len hm; omega
 unfold order
 obtain ⟨j, hj⟩ := Nat.exists_eq_add_of_le hk
 rw [hj]
 exact walk_fix (by omega) j
theorem meets_snoc (l ys : List Nat) (y : Nat) : meets H l (ys ++ [y]) = meet H (meets H l ys) y := by simp [meets]
theorem order_met : Met H (order H) := met_walk _ _
theorem order_look {y : Nat} (h : y ∈ order H) : ∃ o, H.look y = some o := by
 have := order_met.live y h
 exact Option.isSome_iff_exists.1 this
def numEs : List Nat -> Nat -> List MapEntry
 | [], _ => []
 | y :: l, i => ⟨.int .u64 (y : Int), .int .i64 (i : Int), i⟩ :: numEs l (i + 1)
def numObj (l : List Nat) : Obj := .map (numEs l 0).toArray l.length
theorem numEs_app : ∀ (l : List Nat) (x i : Nat), numEs (l ++ [x]) i = numEs l i ++ [⟨.int .u64 (x : Int), .int .i64 ((i + l.length : Nat) : Int), i + l.length⟩]
 | [], x, i => by simp [numEs]
 | a :: l, x, i => by simp only [List.cons_append, numEs, numEs_app l x (i + 1), List.length_cons]; simp [Nat.add_assoc, Nat.add_comm 1]
theorem findNow_num (k : TypeDesc) (hk : ∃ q, k = .int q) (y : Nat) : ∀ (l : List Nat) (i j : Nat), Instr.findNow k (.int .u64 (y : Int)) (numEs l i) j = some (match numAt l i y with | some n => some (j + (n - i), .int .i64 (n : Int)) | none => none)
 | [], i, j => by simp [numEs, Instr.findNow, numAt]
 | x :: l, i, j => by
  obtain ⟨q, rfl⟩ := hk
  simp only [numEs, Instr.findNow, Instr.sameNow, if_true, numAt]
  by_cases e : y = x
  ·subst e
   simp
  ·have : ((y : Int) == (x : Int)) = false := by simp; omega
   rw [this]
   simp only [if_neg e]
   rw [findNow_num _ ⟨q, rfl⟩ y l (i + 1) (j + 1)]
   cases hn : numAt l (i + 1) y with
   | none => rfl
   | some n =>
    have := (numAt_some hn).1
    simp only
    congr 3
    omega
section
variable {P : Program} {t kt et : TypeId} {L : List HP} {w : World} {r : Nat} {l : List Nat}
theorem getM {es : Array MapEntry} {clock : Nat} (hb : w.heap[r]? = some (.map es clock)) : (getObj r).run P w = .ok (.map es clock) w := by
 simp [getObj, Sem.run, hb]
theorem setM {es : Array MapEntry} {clock : Nat} (o : Obj) (hb : w.heap[r]? = some (.map es clock)) : (setObj r o).run P w = .ok () { w with heap := w.heap.setIfInBounds r o } := by
 simp [setObj, Sem.run, hb]
theorem updMap {o : Obj} (hs : Sat L w) (i : Nat) (hi : L[i]? = some (Blk r o)) (o' : Obj) : Sat (L.set i (Blk r o')) { w with heap := w.heap.setIfInBounds r o' } := by
 have h0 := hs.blk i hi
 have hlt : r < w.heap.size := by
  rcases Nat.lt_or_ge r w.heap.size with h | h
  ·exact h
  ·rw [Array.getElem?_eq_none h] at h0; cases h0
 refine hs.upd i hi ?_ (fun c hc => ?_) rfl
 ·dsimp only; rw [Array.getElem?_setIfInBounds_self_of_lt hlt]
 ·dsimp only; rw [Array.getElem?_setIfInBounds_ne (Ne.symm hc)]
theorem checkInt {q : IntKind} (hk : P.underlying kt = some (.int q)) (e : Bool) (y : Nat) : (Instr.checkKey e 10000 kt (.int .u64 (y : Int))).run P w = .ok () w := by
 have key : ∀ d, (Instr.checkKey e (d + 1) kt (.int .u64 (y : Int))).run P w = .ok () w := fun d => by simp [Instr.checkKey, run_underlying hk]
 exact key 9999
def numV (l : List Nat) (y : Nat) : Int × Bool := match num l y with | some n => (n, true) | none => (0, false)
theorem lookNum (hu : P.underlying t = some (.map kt et)) {q : IntKind} (hk : P.underlying kt = some (.int q)) (hz : ∀ w, (zeroValue et).run P w = .ok (.int .i64 0) w) (hb : w.heap[r]? = some (numObj l)) (y : Nat) :
  (Instr.lookup t (.map (some r)) (.int .u64 (y : Int)) true).run P w = .ok (.tuple #[.int .i64 (numV l y).1, .bool (numV l y).2]) w := by
 have hc : ∀ e, (Instr.checkKey e 10000 kt (.int .u64 (y : Int))).run P w = .ok () w := fun e => checkInt hk e y
 have hf := findNow_num (.int q) ⟨q, rfl⟩ y l 0 0
 unfold numV num
 cases hn : numAt l 0 y with
 | none =>
  rw [hn] at hf
  simp [Instr.lookup, run_underlying hu, getM hb, hc, Instr.findKey, run_underlying hk, hf, hz]
 | some n =>
  rw [hn] at hf
  simp [Instr.lookup, run_underlying hu, getM hb, hc, Instr.findKey, run_underlying hk, hf]
theorem putNum (hu : P.underlying t = some (.map kt et)) {q : IntKind} (hk : P.underlying kt = some (.int q)) (hs : Sat L w) (i : Nat) (hi : L[i]? = some (Blk r (numObj l))) {y : Nat} (hy : y ∉ l) {K : World -> Prop}
  (h : ∀ w', Sat (L.set i (Blk r (numObj (l ++ [y])))) w' -> K w') : RunN P (Instr.mapUpdate t (.map (some r)) (.int .u64 (y : Int)) (.int .i64 (l.length : Int))) w K := by
 have hb := hs.blk i hi
 have hc : ∀ e, (Instr.checkKey e 10000 kt (.int .u64 (y : Int))).run P w = .ok () w := fun e => checkInt hk e y
 have hf := findNow_num (.int q) ⟨q, rfl⟩ y l 0 0
 rw [numAt_none.2 hy] at hf
 refine ⟨_, ?_, h _ (updMap hs i hi _)⟩
 have hp : (numEs l 0).toArray.push { key := .int .u64 (y : Int), val := .int .i64 (l.length : Int), born := l.length } = (numEs (l ++ [y]) 0).toArray := by
  rw [numEs_app]; simp
 have ho : (.map ((numEs l 0).toArray.push { key := .int .u64 (y : Int), val := .int .i64 (l.length : Int), born := l.length }) (l.length + 1) : Obj) = numObj (l ++ [y]) := by
  rw [hp]; simp [numObj]
 rw [<- ho]
 have hb' : w.heap[r]? = some (.map (numEs l 0).toArray l.length) := hb
 simp only [Instr.mapUpdate, Sem.run_bind, run_underlying hu, Result.andThen_ok, getM hb', hc, Instr.findKey, run_underlying hk, hf, Sem.run_pure, setM _ hb']
end
end Go.Hm
namespace Go.Proofs.YtpicofkhioalkaaGreat
open Go Go.Lw Go.Wd Go.Am Go.Tb Go.Hm
theorem um : Tryz.prog.underlying 123 = some (.map 32 3) := by kernel_rfl
theorem um_u64 : Tryz.prog.underlying 32 = some (.int .u64) := by kernel_rfl
theorem um_zero (w : World) : (zeroValue 3).run Tryz.prog w = .ok (.int .i64 0) w := by
 have h : ∃ ti, Tryz.prog.info? 3 = some ti /\ ti.zero = some (.int .i64 0) := ⟨_, rfl, rfl⟩
 obtain ⟨ti, h1, h2⟩ := h
 simp [zeroValue, typeInfo, h1, h2]
def WkS (H : Hp) (v : Value) (b b0 b1 b2 r : Nat) (l : List Nat) (p : Option Addr) (c : Nat) (F : List HP) : List HP :=
 HeapH H v b :: Row b0 [.pointer (some ⟨b, 0, none⟩)] 24 :: Row b1 [.slice p l.length c] 25 :: Own 32 1 p l.length c (words l) :: Row b2 [.map (some r)] 123 :: Blk r (numObj l) :: F
section
variable {H : Hp} {v : Value} {b : Nat} {F : List HP} {w : World}
theorem meet_c {b0 b1 b2 r : Nat} {l : List Nat} {p : Option Addr} {c : Nat} (hs : Sat (WkS H v b b0 b1 b2 r l p c F) w) (hl : l.length <= 1048576) {y : Nat} (hy : y < 18446744073709551616) :
  Calls Tryz.prog 127 #[.int .u64 (y : Int), .pointer (some ⟨b0, 0, none⟩), .pointer (some ⟨b2, 0, none⟩), .pointer (some ⟨b1, 0, none⟩)] w fun e w' =>
   e = .returned (.tuple #[]) /\ ∃ p' c', Sat (WkS H v b b0 b1 b2 r (meet H l y) p' c' F) w' := by
 refine S_heap_Heap_walk_1_ok _ _ _ _ _ _ ?_
 unfold S_heap_Heap_walk_1
 refine LdP.of hs 1 rfl (off := 0) rfl rfl ?_
 refine (hfind_c hs hy).mono ?_
 rintro e w1 ⟨rfl, h1⟩
 cases hk : H.look y with
 | none =>
  have hme : meet H l y = l := by unfold meet; rw [if_neg (by simp [hk])]
  refine ⟨_, _, _, _, _, _, _, rfl, ?_⟩
  refine NewC.ofRow h1 fun d w3 h3 => ?_
  refine st5 h3 0 rfl fun w4 h4 => ?_
  exact cond_t rfl ⟨rfl, p, c, by rw [hme]; exact h4.drop⟩
 | some o =>
  refine ⟨_, _, _, _, _, _, _, rfl, ?_⟩
  refine NewC.ofRow h1 fun d w3 h3 => ?_
  refine st5 h3 0 rfl fun w4 h4 => ?_
  refine cond_f rfl ?_
  have h5 : Sat (WkS H v b b0 b1 b2 r l p c F) w4 := h4.drop
  refine ⟨some r, (h5.cell 4 rfl (off := 0) rfl), ?_⟩
  refine ⟨_, _, lookNum um um_u64 um_zero (h5.blk 5 rfl) y, ?_⟩
  unfold numV
  cases hn : num l y with
  | some n =>
   have hin : y ∈ l := by
    have := num_some hn
    exact List.mem_of_getElem? this
   have hme : meet H l y = l := by unfold meet; rw [if_neg (by simp [hin])]
   exact cond_f rfl ⟨rfl, p, c, by rw [hme]; exact h5⟩
  | none =>
   have hin : y ∉ l := num_none.1 hn
   have hme : meet H l y = l ++ [y] := by unfold meet; rw [if_pos ⟨by simp [hk], hin⟩]
   refine cond_t rfl ?_
   refine ⟨some r, (h5.cell 4 rfl (off := 0) rfl), ?_⟩
   refine LdS.of h5 2 rfl (off := 0) rfl rfl ?_
   refine putNum um um_u64 h5 5 rfl hin fun w6 h6 => ?_
   refine LdS.of h6 2 rfl (off := 0) rfl rfl ?_
   refine RunS.one eok_u64 h6 3 rfl (by rfl) (by rfl) (by omega) (by simp only [maxLen]; omega) fun p' c' w7 h7 => ?_
   refine StC.of h7 2 rfl (off := 0) rfl rfl fun w8 h8 => ?_
   refine ⟨rfl, p', c', ?_⟩
   rw [hme]
   unfold WkS
   rw [words_snoc, List.length_append, List.length_singleton]
   exact h8
theorem len16 {l : List Nat} (h : l.length = 16) : ∃ a0 a1 a2 a3 a4 a5 a6 a7 a8 a9 a10 a11 a12 a13 a14 a15, l = [a0, a1, a2, a3, a4, a5, a6, a7, a8, a9, a10, a11, a12, a13, a14, a15] := by
 match l, h with
 | [a0, a1, a2, a3, a4, a5, a6, a7, a8, a9, a10, a11, a12, a13, a14, a15], _ => exact ⟨_, _, _, _, _, _, _, _, _, _, _, _, _, _, _, _, rfl⟩
theorem roots_ld {ba bt : Nat} {rs : List Nat} {L : List HP} {K : Int -> Int -> Int -> Int -> Int -> Int -> Int -> Int -> Int -> Int -> Int -> Int -> Int -> Int -> Int -> Int -> Prop} (hs : Sat L w) (i : Nat) (hi : L[i]? = some (Row b (hrow ba bt rs v) 106)) (hl : rs.length = 16)
  (h : ∀ a0 a1 a2 a3 a4 a5 a6 a7 a8 a9 a10 a11 a12 a13 a14 a15 : Int, #[Value.int .u64 a0, .int .u64 a1, .int .u64 a2, .int .u64 a3, .int .u64 a4, .int .u64 a5, .int .u64 a6, .int .u64 a7, .int .u64 a8, .int .u64 a9, .int .u64 a10, .int .u64 a11, .int .u64 a12, .int .u64 a13, .int .u64 a14, .int .u64 a15] = (words rs).toArray ->
   K a0 a1 a2 a3 a4 a5 a6 a7 a8 a9 a10 a11 a12 a13 a14 a15) : Ld_16_uint64 w (Addr.add ⟨b, 0, none⟩ 2) K := by
 obtain ⟨a0, a1, a2, a3, a4, a5, a6, a7, a8, a9, a10, a11, a12, a13, a14, a15, rfl⟩ := len16 hl
 unfold Ld_16_uint64
 simp only [add_mk, Nat.zero_add]
 iterate 16 refine LdI.of hs i hi rfl rfl ?_
 exact h _ _ _ _ _ _ _ _ _ _ _ _ _ _ _ _ rfl
theorem idx_roots {rs : List Nat} {vs : Array Value} {k x : Nat} {K : Int -> Prop} (hv : vs = (words rs).toArray) (hl : rs.length = 16) (hx : rs[k]? = some x) (h : K x) : IdxI .u64 vs 16 (k : Int) K := by
 have := get_lt hx
 refine ⟨_, by omega, by omega, ?_, h⟩
 rw [hv]
 simp [words, hx]
theorem refsOf_len (hm : H.WF) {x : Nat} {o : Ob} (hl : H.look x = some o) : (refsOf H x).length = o.refs := by
 have := (look_ok hm hl).refs
 simp [refsOf, hl]; omega
theorem refsOf_get (hm : H.WF) {x i : Nat} {o : Ob} (hl : H.look x = some o) (hi : i < o.refs) : (refsOf H x)[i]? = some (o.w.getD i 0) := by
 have := (look_ok hm hl).refs
 simp only [refsOf, hl]
 rw [List.getElem?_take_of_lt hi, List.getD_eq_getElem?_getD, List.getElem?_eq_getElem (by omega)]
 rfl
theorem w_u64 (hm : H.WF) {x : Nat} {o : Ob} (hl : H.look x = some o) (i : Nat) : o.w.getD i 0 < 18446744073709551616 := by
 rw [List.getD_eq_getElem?_getD]
 cases h : o.w[i]? with
 | none => simp
 | some y => exact (look_ok hm hl).w64 y (List.mem_of_getElem? h)
theorem walk_c (hs : Sat (HeapH H v b :: F) w) : Calls Tryz.prog 81 #[.pointer (some ⟨b, 0, none⟩)] w fun e w' =>
  ∃ p c r, e = .returned (.tuple #[.slice p (order H).length c, .map (some r)]) /\ Sat (HeapH H v b :: Own 32 1 p (order H).length c (words (order H)) :: Blk r (numObj (order H)) :: F) w' := by
 have hm := (heap_open hs).1
 have hmost := hm.tab.most
 refine S_heap_Heap_walk_ok _ _ _ ?_
 unfold S_heap_Heap_walk
 refine NewC.ofRow hs fun b0 w1 h1 => ?_
 refine NewC.ofRow h1 fun b1 w2 h2 => ?_
 refine NewC.of h2 fun r w3 h3 => ?_
 refine NewC.ofRow h3 fun b2 w4 h4 => ?_
 refine StC.of h4 0 rfl (off := 0) rfl rfl fun w5 h5 => ?_
 have h6 : Sat (WkS H v b b0 b1 b2 r [] none 0 F) w5 := ((((((h5.ownNil 32 1).pull 2 rfl).pull 2 rfl).pull 2 rfl).pull 3 rfl).pull 4 rfl).pull 5 rfl
 refine LdP.of h6 1 rfl (off := 0) rfl rfl ?_
 simp only [onSome_some]
 obtain ⟨_, ba, bt, h7⟩ := heap_open h6
 refine roots_ld h7 0 rfl hm.rlen fun n0 n1 n2 n3 n4 n5 n6 n7 n8 n9 n10 n11 n12 n13 n14 n15 hv => ?_
 clear h1 h2 h3 h4 h5 h7
 refine ⟨fun i w => ∃ k : Nat, i = k /\ k <= 16 /\ ∃ p c, Sat (WkS H v b b0 b1 b2 r (meets H [] (H.roots.take k)) p c F) w, fun i _ => (16 - i).toNat, ⟨0, rfl, by omega, _, _, h6⟩, ?_⟩
 rintro i w6 ⟨k, rfl, hk, p, c, h8⟩
 have hlen : ∀ ys, (meets H [] ys).length <= 1048576 := fun ys => by
  have := (Met.meets (H := H) (l := []) ⟨List.nodup_nil, fun _ h => by cases h⟩ ys).len hm
  omega
 unfold S_heap_Heap_walk_l2
 by_cases hlt : k < 16
 ·refine cond_t (by simp; omega) ?_
  have hr := hm.rlen
  have hx : H.roots[k]? = some (H.roots[k]'(by omega)) := List.getElem?_eq_getElem (by omega)
  refine idx_roots hv hr hx ?_
  refine (meet_c h8 (hlen _) (hm.r64 _ (List.getElem_mem _))).mono ?_
  rintro e w7 ⟨rfl, p', c', h9⟩
  refine ⟨rfl, ?_⟩
  rw [wrapI64 (by omega) (by omega)]
  refine ⟨⟨k + 1, by omega, by omega, p', c', ?_⟩, by first | omega | (dsimp only; omega)⟩
  rw [List.take_add_one, hx, Option.toList_some, meets_snoc]
  exact h9
 ·have hk16 : k = 16 := by omega
  subst hk16
  refine cond_f (by simp) ?_
  have h9 : Sat (WkS H v b b0 b1 b2 r (walkTo H 0) p c F) w6 := by
   have : H.roots.take 16 = H.roots := List.take_of_length_le (by rw [hm.rlen]; omega)
   rw [this] at h8
   exact h8
  have hwl : ∀ k, (walkTo H k).length <= H.t.n := fun k => (met_walk H k).len hm
  refine ⟨fun i w => ∃ k : Nat, i = k /\ k <= (walkTo H k).length /\ ∃ p c, Sat (WkS H v b b0 b1 b2 r (walkTo H k) p c F) w, fun i _ => (H.t.n - i).toNat, ⟨0, rfl, by omega, p, c, h9⟩, ?_⟩
  clear h6 h8 h9
  rintro i w7 ⟨k, rfl, hk, p, c, h8⟩
  have hkn := hwl k
  unfold S_heap_Heap_walk_l1
  refine LdS.of h8 2 rfl (off := 0) rfl rfl ?_
  by_cases hlt : k < (walkTo H k).length
  ·refine cond_t (by simp; omega) ?_
   have h9 := h8.drew
   have hx : (walkTo H k)[k]? = some ((walkTo H k)[k]'hlt) := List.getElem?_eq_getElem hlt
   generalize (walkTo H k)[k]'hlt = x at hx
   have hlv := (met_walk H k).live x (List.mem_of_getElem? hx)
   obtain ⟨o, ho⟩ := Option.isSome_iff_exists.1 hlv
   have hstep : walkTo H (k + 1) = meets H (walkTo H k) (refsOf H x) := by
    show walkStep H k (walkTo H k) = _
    unfold walkStep; rw [hx]
   have hro := (look_ok hm ho).refs
   refine ⟨fun w => Sat (WkS H v b b0 b1 b2 r (walkTo H k) p c F) w, h9, ?_⟩
   refine ⟨_, fun w hw => LdP.of hw 1 rfl (off := 0) rfl rfl rfl, ?_⟩
   refine ⟨_, _, _, fun w hw => LdS.of hw 2 rfl (off := 0) rfl rfl rfl, ?_⟩
   refine IdxC.ownAt h9 3 rfl hlt fun g hp => ?_
   refine ⟨(x : Int), fun w hw => LdI.at (Sat.ownAt hw 3 rfl hp (off := k * 1) (by rw [Nat.mul_one]; simp [words, hx])) rfl, ?_⟩
   refine (hhead_c h9 (look_lt hm ho)).mono ?_
   rintro e w8 ⟨rfl, h10⟩
   rw [ho]
   refine ⟨_, _, _, _, rfl, h10, ?_⟩
   refine ⟨fun j w => ∃ q : Nat, j = q /\ q <= o.refs /\ ∃ p c, Sat (WkS H v b b0 b1 b2 r (meets H (walkTo H k) ((refsOf H x).take q)) p c F) w, fun j _ => (o.refs - j).toNat, ⟨0, rfl, by omega, p, c, h10⟩, ?_⟩
   rintro j w9 ⟨q, rfl, hq, p2, c2, h11⟩
   have hml : ∀ ys, (meets H (walkTo H k) ys).length <= H.t.n := fun ys => ((met_walk H k).meets ys).len hm
   have hx2 : ∀ ys, (meets H (walkTo H k) ys)[k]? = some x := fun ys => by
    obtain ⟨t, ht⟩ := meets_pre (H := H) ys (walkTo H k)
    rw [<- ht, List.getElem?_append_left hlt]; exact hx
   unfold S_heap_Heap_walk_l0
   by_cases hqr : q < o.refs
   ·refine cond_t (by simp; omega) ?_
    have h12 := h11.drew
    refine ⟨fun w => Sat (WkS H v b b0 b1 b2 r (meets H (walkTo H k) ((refsOf H x).take q)) p2 c2 F) w, h12, ?_⟩
    refine ⟨_, fun w hw => LdP.of hw 1 rfl (off := 0) rfl rfl rfl, ?_⟩
    refine ⟨_, _, _, fun w hw => LdS.of hw 2 rfl (off := 0) rfl rfl rfl, ?_⟩
    have hx3 := hx2 ((refsOf H x).take q)
    refine IdxC.ownAt h12 3 rfl (get_lt hx3) fun g hp => ?_
    refine ⟨(x : Int), fun w hw => LdI.at (Sat.ownAt hw 3 rfl hp (off := k * 1) (by rw [Nat.mul_one]; simp [words, hx3])) rfl, ?_⟩
    have hu := w_u64 hm ho q
    have hgr := refsOf_get hm ho hqr
    have hwq : o.w[q]? = some (o.w.getD q 0) := by rw [List.getD_eq_getElem?_getD, List.getElem?_eq_getElem (by omega)]; rfl
    have href : Hp.ref H x (q : Int) = (o.w.getD q 0, 0) := by simp only [Hp.ref, ho]; rw [if_pos (by omega), Int.toNat_natCast]
    refine (href_c h12 (look_lt hm ho) q).mono ?_
    rw [href]
    rintro e w10 ⟨rfl, h13⟩
    refine ⟨_, _, rfl, h13, ?_⟩
    have := hml ((refsOf H x).take q)
    refine (meet_c h13 (by omega) hu).mono ?_
    rintro e w11 ⟨rfl, p', c', h14⟩
    refine ⟨rfl, ?_⟩
    have hwl64 := (look_ok hm ho).size
    rw [wrapI64 (by omega) (by omega)]
    refine ⟨⟨q + 1, by omega, by omega, p', c', ?_⟩, by first | omega | (dsimp only; omega)⟩
    rw [List.take_add_one, hgr, Option.toList_some, meets_snoc]
    exact h14
   ·refine cond_f (by simp; omega) ?_
    have hqe : q = o.refs := by omega
    have htk : (refsOf H x).take q = refsOf H x := List.take_of_length_le (by rw [refsOf_len hm ho]; omega)
    rw [htk, <- hstep] at h11
    have hk1 : k + 1 <= (walkTo H (k + 1)).length := by
     have := (walk_pre (H := H) k).length_le
     omega
    rw [wrapI64 (by omega) (by omega)]
    exact ⟨⟨k + 1, by omega, hk1, p2, c2, h11⟩, by first | omega | (dsimp only; omega)⟩
  ·have hke : (walkTo H k).length = k := by omega
   refine cond_f (by simp; omega) ?_
   have h9 := h8.drew
   refine LdS.of h9 2 rfl (off := 0) rfl rfl ?_
   refine ⟨some r, h9.cell 4 rfl (off := 0) rfl, ?_⟩
   rw [order_eq hm hke]
   refine ⟨p, c, r, rfl, ?_⟩
   have h10 : Sat (Row b0 _ _ :: Row b1 _ _ :: Row b2 _ _ :: HeapH H v b :: Own 32 1 p (walkTo H k).length c (words (walkTo H k)) :: Blk r (numObj (walkTo H k)) :: F) _ := (((h9.pull 4 rfl).pull 3 rfl).pull 3 rfl)
   exact h10.drop.drop.drop
end
end Go.Proofs.YtpicofkhioalkaaGreat
