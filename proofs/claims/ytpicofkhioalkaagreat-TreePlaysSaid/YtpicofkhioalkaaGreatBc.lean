
/- What the package arena's functions come to, over objects one behind the other. -/
import Derived.Test.YtpicofkhioalkaaGreatAc
namespace Go.Am
def getO (o : Option Ob) (i : Int) : Option Nat := match o with | some o => if 0 <= i then o.w[i.toNat]? else none | none => none
theorem getO_some {o : Option Ob} {i : Int} {x : Nat} (h : getO o i = some x) : ∃ (p : Ob) (j : Nat), o = some p /\ i = j /\ p.w[j]? = some x := by
 unfold getO at h
 split at h
 ·split at h
  ·rename_i p h0
   obtain ⟨j, rfl⟩ := Int.eq_ofNat_of_zero_le h0
   exact ⟨p, j, rfl, rfl, by simpa using h⟩
  ·cases h
 ·cases h
theorem getO_of {p : Ob} {j x : Nat} (h : p.w[j]? = some x) : getO (some p) (j : Int) = some x := by simp [getO, h]
def Ob.put (o : Ob) (i x : Nat) : Ob := { o with w := o.w.set i x }
def Ob.marked (o : Ob) (on : Bool) : Ob := { o with mark := on }
theorem Ob.put_ok {o : Ob} (h : o.Ok) (i : Nat) {x : Nat} (hx : x < 18446744073709551616) : (o.put i x).Ok := by
 refine ⟨h.tag, by simpa [Ob.put] using h.refs, by simpa [Ob.put] using h.size, h.owner, fun y hy => ?_⟩
 rcases List.mem_or_eq_of_mem_set hy with hy | rfl
 ·exact h.w64 y hy
 ·exact hx
theorem Ob.marked_ok {o : Ob} (h : o.Ok) (on : Bool) : (o.marked on).Ok := ⟨h.tag, h.refs, h.size, h.owner, h.w64⟩
def Ob.fresh (tag refs size owner : Nat) : Ob := ⟨tag, refs, owner, false, List.replicate size 0⟩
theorem findI_nat (m : Am) (k : Nat) : m.findI (k : Int) = m.find k := by simp [Am.findI]
theorem findI_some {m : Am} {i : Int} {o : Ob} (h : m.findI i = some o) : ∃ k : Nat, i = k /\ m.find k = some o := by
 unfold Am.findI at h
 split at h
 ·rename_i h0
  obtain ⟨k, rfl⟩ := Int.eq_ofNat_of_zero_le h0
  exact ⟨k, rfl, by simpa using h⟩
 ·cases h
end Go.Am
set_option maxRecDepth 100000
namespace Go.Proofs.YtpicofkhioalkaaGreat
open Go Go.Lw Go.Wd Go.Am
def headO (o : Ob) : Value := .agg #[.int .i64 (o.tag : Nat), .int .i64 (o.refs : Nat), .int .i64 (o.w.length : Nat), .bool o.mark, .int .i64 (o.owner : Nat)]
theorem headV_hw {o : Ob} (h : o.Ok) : headV o.hw = headO o := by
 have h1 := h.tag; have h2 := h.refs; have h3 := h.size; have h4 := h.owner
 unfold headV headO Ob.hw
 rw [tag_pack (by omega) (by omega) (by omega) (by omega), refs_pack (by omega) (by omega) (by omega) (by omega), size_pack (by omega) (by omega) (by omega) (by omega), own_pack (by omega) (by omega) (by omega) (by omega), mark_pack (by omega) (by omega) (by omega) (by omega)]
theorem hSize_hw {o : Ob} (h : o.Ok) : hSize o.hw = o.w.length := by
 have h1 := h.tag; have h2 := h.refs; have h3 := h.size; have h4 := h.owner
 unfold Ob.hw
 rw [size_pack (by omega) (by omega) (by omega) (by omega)]
def Arena (m : Am) (b : Nat) : HP := HEx fun A => HAnd (m.WF /\ Rep A m) (Arn A b)
theorem arena_open {m : Am} {b : Nat} {F : List HP} {w : World} (hs : Sat (Arena m b :: F) w) : m.WF /\ ∃ A, Rep A m /\ Sat (Arn A b :: F) w := by
 obtain ⟨A, h⟩ := hs.ex
 obtain ⟨⟨hm, hr⟩, h⟩ := h.pureOf
 exact ⟨hm, A, hr, h⟩
theorem arena_shut {m : Am} {A : Ar} {b : Nat} {F : List HP} {w : World} (hm : m.WF) (hr : Rep A m) (hs : Sat (Arn A b :: F) w) : Sat (Arena m b :: F) w := Sat.mkEx A (Sat.mkPure ⟨hm, hr⟩ hs)
theorem isAt_find {A : Ar} {m : Am} (hm : m.WF) (hr : Rep A m) (at_ : Int) : A.isAt at_ = (m.findI at_).isSome := by
 unfold Ar.isAt Am.findI
 by_cases h0 : 0 <= at_
 ·rw [if_pos h0, hr.bg]
  cases hf : m.find at_.toNat with
  | none => simp
  | some o =>
   have h1 := hm.find_top hf
   have h2 := hm.top
   have h3 := hr.n
   simp only [Option.isSome_some, Bool.and_true, decide_eq_true_eq]
   omega
 ·rw [if_neg h0]; simp [h0]
section
variable {m : Am} {b : Nat} {F : List HP} {w : World}
theorem top2 (hs : Sat (Arena m b :: F) w) : Calls Tryz.prog 28 #[.pointer (some ⟨b, 0, none⟩)] w fun e w' => e = .returned (.int .i64 (m.top : Int)) /\ w = w' := by
 obtain ⟨hm, A, hr, h⟩ := arena_open hs
 rw [<- hr.top]; exact top_c h
theorem free2 (hs : Sat (Arena m b :: F) w) : Calls Tryz.prog 23 #[.pointer (some ⟨b, 0, none⟩)] w (Ret (.int .i64 ((m.n - m.top : Nat) : Int)) (Sat (Arena m b :: F))) := by
 obtain ⟨hm, A, hr, h⟩ := arena_open hs
 rw [<- hr.top, <- hr.n]
 exact (arfree_c h).mono fun e w' ⟨he, h'⟩ => ⟨he, arena_shut hm hr h'⟩
theorem head2 (hs : Sat (Arena m b :: F) w) (at_ : Int) : Calls Tryz.prog 77 #[.pointer (some ⟨b, 0, none⟩), .int .i64 at_] w
  (Ret (match m.findI at_ with | some o => .tuple #[headO o, .int .i64 0] | none => .tuple #[head0, .int .i64 1]) (Sat (Arena m b :: F))) := by
 obtain ⟨hm, A, hr, h⟩ := arena_open hs
 refine (head_c h at_).mono fun e w' ⟨he, h'⟩ => ⟨he.trans ?_, arena_shut hm hr h'⟩
 rw [isAt_find hm hr]
 cases hf : m.findI at_ with
 | none => simp
 | some o =>
  obtain ⟨k, rfl, hk⟩ := findI_some hf
  simp only [Option.isSome_some, if_true, Int.toNat_natCast]
  rw [(hm.rep_find hr hk).1, headV_hw (hm.find_ok hk)]
theorem rep_in {A : Ar} (hm : m.WF) (hr : Rep A m) {at_ : Int} (h : A.isAt at_ = true) : ∃ (k : Nat) (o : Ob), at_ = k /\ m.find k = some o /\ hSize (A.wd k) = o.w.length /\ k + 1 + o.w.length <= A.n := by
 rw [isAt_find hm hr] at h
 obtain ⟨o, ho⟩ := Option.isSome_iff_exists.1 h
 obtain ⟨k, rfl, hk⟩ := findI_some ho
 have h1 := hm.find_top hk
 have h2 := hm.top
 have h3 := hr.n
 exact ⟨k, o, rfl, hk, by rw [(hm.rep_find hr hk).1, hSize_hw (hm.find_ok hk)], by omega⟩
theorem get2 (hs : Sat (Arena m b :: F) w) (at_ i : Int) : Calls Tryz.prog 128 #[.pointer (some ⟨b, 0, none⟩), .int .i64 at_, .int .i64 i] w
  (Ret (match getO (m.findI at_) i with | some x => .tuple #[.int .u64 (x : Nat), .int .i64 0] | none => .tuple #[.int .u64 0, .int .i64 1]) (Sat (Arena m b :: F))) := by
 obtain ⟨hm, A, hr, h⟩ := arena_open hs
 refine (get_c h at_ i fun hat => ?_).mono fun e w' ⟨he, h'⟩ => ⟨he.trans ?_, arena_shut hm hr h'⟩
 ·obtain ⟨k, o, rfl, hk, hsz, hin⟩ := rep_in hm hr hat
  simp only [Int.toNat_natCast]; omega
 ·by_cases hat : A.isAt at_ = true
  ·obtain ⟨k, o, rfl, hk, hsz, hin⟩ := rep_in hm hr hat
   rw [findI_nat, hk]
   simp only [Int.toNat_natCast, hsz, hat, true_and]
   by_cases h0 : 0 <= i
   ·obtain ⟨j, rfl⟩ := Int.eq_ofNat_of_zero_le h0
    by_cases h1 : j < o.w.length
    ·rw [if_pos (by omega)]
     have := (hm.rep_find hr hk).2 j h1
     rw [getO_of this]
     rfl
    ·rw [if_neg (by omega)]
     simp [getO, List.getElem?_eq_none (Nat.le_of_not_lt h1)]
   ·rw [if_neg (by omega)]; simp [getO, h0]
  ·have hn : m.findI at_ = none := by
    rw [isAt_find hm hr] at hat
    simpa using hat
   rw [hn, if_neg (fun hh => hat hh.1)]
   rfl
theorem put_rep {A : Ar} (hm : m.WF) (hr : Rep A m) {k : Nat} {o : Ob} (hk : m.find k = some o) {j x : Nat} (hj : j < o.w.length) : Rep { A with wd := upd A.wd (k + 1 + j) x } (m.set k (o.put j x)) := by
 obtain ⟨h1, h2⟩ := hm.rep_find hr hk
 refine hr.set hm hk (by simp [Ob.put]) ?_ (fun i hi => ?_) (fun i hi => upd_ne _ _ (by omega))
 ·rw [upd_ne _ _ (by omega), h1]; simp [Ob.hw, Ob.put]
 ·have hi' : i < o.w.length := by simpa [Ob.put] using hi
  simp only [Ob.put, List.getElem?_set]
  by_cases e : j = i
  ·subst e; simp [hj]
  ·rw [if_neg e, upd_ne _ _ (by omega), h2 i hi']
theorem put2 (hs : Sat (Arena m b :: F) w) (at_ i : Int) {x : Nat} (hx : x < 18446744073709551616) : Calls Tryz.prog 89 #[.pointer (some ⟨b, 0, none⟩), .int .i64 at_, .int .i64 i, .int .u64 (x : Int)] w fun e w' =>
  (getO (m.findI at_) i = none /\ Ret (.int .i64 1) (Sat (Arena m b :: F)) e w') ∨
  ∃ (k j : Nat) (o : Ob), at_ = k /\ i = j /\ m.find k = some o /\ j < o.w.length /\ Ret (.int .i64 0) (Sat (Arena (m.set k (o.put j x)) b :: F)) e w' := by
 obtain ⟨hm, A, hr, h⟩ := arena_open hs
 refine (put_c h at_ i hx fun hat => ?_).mono fun e w' hp => ?_
 ·obtain ⟨k, o, rfl, hk, hsz, hin⟩ := rep_in hm hr hat
  simp only [Int.toNat_natCast]; omega
 ·by_cases hc : A.isAt at_ = true /\ 0 <= i /\ i < hSize (A.wd at_.toNat)
  ·rw [if_pos hc] at hp
   obtain ⟨k, o, rfl, hk, hsz, hin⟩ := rep_in hm hr hc.1
   obtain ⟨j, rfl⟩ := Int.eq_ofNat_of_zero_le hc.2.1
   simp only [Int.toNat_natCast] at hp hc
   have hj : j < o.w.length := by omega
   exact .inr ⟨k, j, o, rfl, rfl, hk, hj, hp.1, arena_shut (Am.set_wf hm hk (by simp [Ob.put]) (Ob.put_ok (hm.find_ok hk) j hx)) (put_rep hm hr hk hj) hp.2⟩
  ·rw [if_neg hc] at hp
   refine .inl ⟨?_, hp.1, arena_shut hm hr hp.2⟩
   cases hg : getO (m.findI at_) i with
   | none => rfl
   | some y =>
    obtain ⟨o, j, ho, rfl, hj⟩ := getO_some hg
    obtain ⟨k, rfl, hk⟩ := findI_some ho
    refine absurd ⟨?_, by omega, ?_⟩ hc
    ·rw [isAt_find hm hr, ho]; rfl
    ·simp only [Int.toNat_natCast]
     rw [(hm.rep_find hr hk).1, hSize_hw (hm.find_ok hk)]
     have : j < o.w.length := by
      rcases Nat.lt_or_ge j o.w.length with h | h
      ·exact h
      ·rw [List.getElem?_eq_none h] at hj; cases hj
     omega
theorem mark2 (hs : Sat (Arena m b :: F) w) (at_ : Int) (on : Bool) : Calls Tryz.prog 113 #[.pointer (some ⟨b, 0, none⟩), .int .i64 at_, .bool on] w fun e w' =>
  (m.findI at_ = none /\ Ret (.int .i64 1) (Sat (Arena m b :: F)) e w') ∨
  ∃ (k : Nat) (o : Ob), at_ = k /\ m.find k = some o /\ Ret (.int .i64 0) (Sat (Arena (m.set k (o.marked on)) b :: F)) e w' := by
 obtain ⟨hm, A, hr, h⟩ := arena_open hs
 refine (mark_c h at_ on).mono fun e w' hp => ?_
 by_cases hat : A.isAt at_ = true
 ·rw [if_pos hat] at hp
  obtain ⟨k, o, rfl, hk, hsz, hin⟩ := rep_in hm hr hat
  simp only [Int.toNat_natCast] at hp
  have hok := hm.find_ok hk
  obtain ⟨h1, h2⟩ := hm.rep_find hr hk
  have g1 := hok.tag; have g2 := hok.refs; have g3 := hok.size; have g4 := hok.owner
  refine .inr ⟨k, o, rfl, hk, hp.1, arena_shut (Am.set_wf hm hk rfl (Ob.marked_ok hok on)) ?_ hp.2⟩
  refine hr.set hm hk rfl ?_ (fun i hi => ?_) (fun i hi => upd_ne _ _ (by omega))
  ·rw [upd_same, h1]
   unfold Ob.hw Ob.marked
   rw [tag_pack (by omega) (by omega) (by omega) (by omega), refs_pack (by omega) (by omega) (by omega) (by omega), size_pack (by omega) (by omega) (by omega) (by omega), own_pack (by omega) (by omega) (by omega) (by omega)]
  ·rw [upd_ne _ _ (by omega)]; exact h2 i hi
 ·rw [if_neg hat] at hp
  refine .inl ⟨?_, hp.1, arena_shut hm hr hp.2⟩
  rw [isAt_find hm hr] at hat
  simpa using hat
theorem next2 (hs : Sat (Arena m b :: F) w) (at_ : Int) : Calls Tryz.prog 79 #[.pointer (some ⟨b, 0, none⟩), .int .i64 at_] w
  (Ret (match m.findI at_ with | some o => .tuple #[.int .i64 (m.next (at_.toNat + 1 + o.w.length) : Nat), .int .i64 0] | none => .tuple #[.int .i64 0, .int .i64 1]) (Sat (Arena m b :: F))) := by
 obtain ⟨hm, A, hr, h⟩ := arena_open hs
 refine (next_c h at_).mono fun e w' ⟨he, h'⟩ => ⟨he.trans ?_, arena_shut hm hr h'⟩
 by_cases hat : A.isAt at_ = true
 ·obtain ⟨k, o, rfl, hk, hsz, hin⟩ := rep_in hm hr hat
  rw [findI_nat, hk, if_pos hat]
  simp only [Int.toNat_natCast, hsz]
  congr 4
  have h1 := hr.op; have h2 := hr.low; have h3 := hr.high
  unfold Am.next
  cases ho : m.op with
  | false => rw [if_neg (by rw [h1, ho]; simp)]; simp
  | true =>
   rw [ho] at h1 h2
   simp only [cond_true] at h2
   by_cases e : k + 1 + o.w.length = osz m.low
   ·rw [if_pos ⟨h1, by omega⟩]; simp [e, h3]
   ·rw [if_neg (by omega), Bool.true_and, beq_eq_false_iff_ne.2 e]; simp
 ·have hn : m.findI at_ = none := by
   rw [isAt_find hm hr] at hat
   simpa using hat
  rw [hn, if_neg hat]
theorem first2 (hs : Sat (Arena m b :: F) w) : Calls Tryz.prog 76 #[.pointer (some ⟨b, 0, none⟩)] w fun e w' => e = .returned (.int .i64 (m.next 0 : Nat)) /\ w = w' := by
 obtain ⟨hm, A, hr, h⟩ := arena_open hs
 refine (first_c h).mono fun e w' ⟨he, h'⟩ => ⟨he.trans ?_, h'⟩
 have h1 := hr.op; have h2 := hr.low; have h3 := hr.high
 congr 2
 unfold Am.next
 cases ho : m.op with
 | false => rw [if_neg (by rw [h1, ho]; simp)]; simp
 | true =>
  rw [ho] at h1 h2
  simp only [cond_true] at h2
  by_cases e : 0 = osz m.low
  ·rw [if_pos ⟨h1, by omega⟩, <- e]; simp [h3]
  ·rw [if_neg (by omega), Bool.true_and, beq_eq_false_iff_ne.2 e]; simp
theorem open2 (hs : Sat (Arena m b :: F) w) : Calls Tryz.prog 69 #[.pointer (some ⟨b, 0, none⟩)] w fun e w' =>
  if m.op = true then Ret (.int .i64 16) (Sat (Arena m b :: F)) e w' else Ret (.int .i64 0) (Sat (Arena m.opened b :: F)) e w' := by
 obtain ⟨hm, A, hr, h⟩ := arena_open hs
 refine (aropen_c h).mono fun e w' hp => ?_
 rw [hr.op] at hp
 cases ho : m.op with
 | true => rw [ho, if_pos rfl] at hp; rw [if_pos rfl]; exact ⟨hp.1, arena_shut hm hr hp.2⟩
 | false => rw [ho, if_neg (by simp)] at hp; rw [if_neg (by simp)]; exact ⟨hp.1, arena_shut (Am.opened_wf hm ho) (hr.opened hm ho) hp.2⟩
theorem gap2 (hs : Sat (Arena m b :: F) w) : Calls Tryz.prog 117 #[.pointer (some ⟨b, 0, none⟩)] w (Ret (.tuple #[.int .i64 ((bif m.op then osz m.low else 0 : Nat) : Int), .int .i64 (m.hi : Int), .bool m.op]) (Sat (Arena m b :: F))) := by
 obtain ⟨hm, A, hr, h⟩ := arena_open hs
 rw [<- hr.low, <- hr.high, <- hr.op]
 exact (gap_c h).mono fun e w' ⟨he, h'⟩ => ⟨he, arena_shut hm hr h'⟩
theorem rep_head {A : Ar} (hm : m.WF) (hr : Rep A m) {o : Ob} {l : List Ob} (hh : m.high = o :: l) : A.op = true /\ A.high ≠ A.top /\ A.low = osz m.low /\ A.high = m.hi /\ hSize (A.wd A.high) = o.w.length /\ A.high + 1 + o.w.length <= A.n /\ A.low <= A.high := by
 have hop := Am.op_of hm hh
 have h1 := hr.op; have h2 := hr.low; have h3 := hr.high; have h4 := hr.top; have h5 := hr.n; have h6 := hm.top; have h7 := hm.gap hop
 rw [hop] at h1 h2
 simp only [cond_true] at h2
 simp only [Am.top, hop, cond_true, hh, osz] at h4 h6
 have hl := hr.highL
 rw [hh] at hl
 refine ⟨h1, by omega, h2, h3, ?_, by omega, by omega⟩
 rw [h3, hl.1, hSize_hw (hm.high o (by rw [hh]; exact List.mem_cons_self))]
theorem rep_none {A : Ar} (hm : m.WF) (hr : Rep A m) (hh : m.high = []) : A.op = false ∨ A.high = A.top := by
 have h1 := hr.op; have h3 := hr.high; have h4 := hr.top
 cases ho : m.op with
 | false => exact .inl (h1.trans ho)
 | true => simp only [Am.top, ho, cond_true, hh, osz] at h4; exact .inr (by omega)
theorem keep2 (hs : Sat (Arena m b :: F) w) {o : Ob} {l : List Ob} (hh : m.high = o :: l) : Calls Tryz.prog 121 #[.pointer (some ⟨b, 0, none⟩)] w
  (Ret (.tuple #[.int .i64 (m.hi : Int), .int .i64 (osz m.low : Nat), .int .i64 0]) (Sat (Arena m.keep b :: F))) := by
 obtain ⟨hm, A, hr, h⟩ := arena_open hs
 obtain ⟨h1, h2, h3, h4, h5, h6, h7⟩ := rep_head hm hr hh
 refine (keep_ok h h1 h2 (by omega) h7).mono fun e w' ⟨he, h'⟩ => ⟨by rw [he, h3, h4], arena_shut (Am.keep_wf hm hh) ?_ h'⟩
 rw [h5, h3, h4]
 exact hr.keep hm hh fun j => rfl
theorem skip2 (hs : Sat (Arena m b :: F) w) {o : Ob} {l : List Ob} (hh : m.high = o :: l) : Calls Tryz.prog 119 #[.pointer (some ⟨b, 0, none⟩)] w
  (Ret (.tuple #[.int .i64 (m.hi : Int), .int .i64 0]) (Sat (Arena m.skip b :: F))) := by
 obtain ⟨hm, A, hr, h⟩ := arena_open hs
 obtain ⟨h1, h2, h3, h4, h5, h6, h7⟩ := rep_head hm hr hh
 refine (skip_ok h h1 h2 (by omega)).mono fun e w' ⟨he, h'⟩ => ⟨by rw [he, h4], arena_shut (Am.skip_wf hm hh) ?_ h'⟩
 rw [h5, h4]
 exact hr.skip hm hh
theorem close2 (hs : Sat (Arena m b :: F) w) : Calls Tryz.prog 118 #[.pointer (some ⟨b, 0, none⟩)] w fun e w' =>
  if m.op = true then (if m.high = [] then Ret (.int .i64 0) (Sat (Arena m.close b :: F)) e w' else Ret (.int .i64 20) (Sat (Arena m b :: F)) e w') else Ret (.int .i64 16) (Sat (Arena m b :: F)) e w' := by
 obtain ⟨hm, A, hr, h⟩ := arena_open hs
 refine (arclose_c h).mono fun e w' hp => ?_
 rw [hr.op] at hp
 cases ho : m.op with
 | false => rw [ho, if_neg (by simp)] at hp; rw [if_neg (by simp)]; exact ⟨hp.1, arena_shut hm hr hp.2⟩
 | true =>
  rw [ho, if_pos rfl] at hp
  rw [if_pos rfl]
  cases hh : m.high with
  | nil =>
   have := (rep_none hm hr hh).resolve_left (by rw [hr.op, ho]; simp)
   rw [if_pos this] at hp
   rw [if_pos rfl]
   exact ⟨hp.1, arena_shut (Am.close_wf hm ho hh) (hr.close ho hh) hp.2⟩
  | cons o l =>
   rw [if_neg (rep_head hm hr hh).2.1] at hp
   rw [if_neg (by simp)]
   exact ⟨hp.1, arena_shut hm hr hp.2⟩
def Fit (tag refs size owner : Int) : Prop := 1 <= tag /\ tag <= 255 /\ 0 <= size /\ size <= 4096 /\ 0 <= refs /\ refs <= size /\ 0 <= owner /\ owner < 1048576
theorem alloc2 (hs : Sat (Arena m b :: F) w) {tag refs size owner : Nat} (hf : Fit tag refs size owner) (hn : m.top + 1 + size <= m.n) :
  Calls Tryz.prog 88 #[.pointer (some ⟨b, 0, none⟩), .int .i64 (tag : Int), .int .i64 (refs : Int), .int .i64 (size : Int), .int .i64 (owner : Int)] w (Ret (.tuple #[.int .i64 (m.top : Int), .int .i64 0]) (Sat (Arena (m.alloc (Ob.fresh tag refs size owner)) b :: F))) := by
 obtain ⟨hm, A, hr, h⟩ := arena_open hs
 unfold Fit at hf
 have h1 := hr.n; have h2 := hr.top; have h3 := hm.top
 refine (aralloc_c h (by omega) (by omega)).mono fun e w' ⟨he, h'⟩ => ⟨by rw [he, h2], arena_shut (Am.alloc_wf hm ?_ (by simpa [Ob.fresh] using hn)) ?_ h'⟩
 ·refine ⟨by dsimp only [Ob.fresh]; omega, by simp [Ob.fresh]; omega, by simp [Ob.fresh]; omega, by dsimp only [Ob.fresh]; omega, fun x hx => ?_⟩
  rw [List.eq_of_mem_replicate hx]; omega
 ·have hl : (Ob.fresh tag refs size owner).w.length = size := by simp [Ob.fresh]
  have := hr.alloc hm (o := Ob.fresh tag refs size owner) (g := fun j => if j = A.top then pack tag refs size false owner else if A.top < j /\ j < A.top + 1 + size then 0 else A.wd j) ?_ (fun i hi => ?_) (fun j hj => ?_)
  ·rw [hl, <- h2] at this
   exact this
  ·rw [if_pos h2.symm]; unfold Ob.hw; rw [hl]; rfl
  ·rw [hl] at hi
   rw [if_neg (by omega), if_pos (by omega)]
   simp [Ob.fresh, hi]
  ·rw [if_neg (by omega), if_neg (by omega)]
theorem new2 {n : Nat} (h1 : 1 <= n) (h2 : n <= 1048576) (hs : Sat F w) : Calls Tryz.prog 129 #[.int .i64 (n : Int)] w fun e w' =>
  ∃ b, e = .returned (.tuple #[.pointer (some ⟨b, 0, none⟩), .int .i64 0]) /\ Sat (Arena (Am.new n) b :: F) w' :=
 (arnew_c h1 h2 hs).mono fun e w' ⟨b, he, h'⟩ => ⟨b, he, arena_shut (Am.new_wf h1 h2) (Rep.new n) h'⟩
end
end Go.Proofs.YtpicofkhioalkaaGreat
