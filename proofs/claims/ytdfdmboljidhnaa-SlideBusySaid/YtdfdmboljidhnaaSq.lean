
/- What a unit of the package slide's second phase comes to, over a heap as data. -/
import Derived.Test.YtdfdmboljidhnaaSd
set_option maxRecDepth 100000
namespace Go.Proofs.Ytdfdmboljidhnaa
open Go Go.Lw Go.Wd Go.Am Go.Tb Go.Hm

/-- A collector in memory. -/
def CoR (b cb mb ph ro mv : Nat) : HP := Row cb [.pointer (some ⟨b, 0, none⟩), .pointer (some ⟨mb, 0, none⟩), .int .i64 (ph : Int), .int .i64 (ro : Int), .int .i64 (mv : Int)] 83
/-- the collector as a watcher. -/
def coW (cb : Nat) : Value := .iface 27 (.pointer (some ⟨cb, 0, none⟩))

section
variable {H : Hp} {v : Value} {b cb mb ro mv : Nat} {F : List HP} {w : World}
theorem htab_o {L : List HP} {ba bt : Nat} {rs : List Nat} (hs : Sat L w) (i : Nat) (hi : L[i]? = some (Row b (hrow ba bt rs v) 88)) : Calls Try.prog 16 #[.pointer (some ⟨b, 0, none⟩)] w fun e w' =>
    e = .returned (.pointer (some ⟨bt, 0, none⟩)) ∧ w = w' := by
  refine S_heap_Heap_Table_ok _ _ _ ?_
  unfold S_heap_Heap_Table
  simp only [onSome_some]
  refine LdP.of hs i hi (off := 1) rfl (add_mk _ _ _) ?_
  exact ⟨rfl, trivial⟩

set_option maxHeartbeats 2000000 in
theorem slide_c {B : Nat} (hs : Sat (HeapH H v b :: CoR b cb mb 2 ro mv :: F) w) (hS : Sl H) (hg : Gd B H) (hB : B + 2 < 4294967296) (hro : ro < 4611686018427387904) (hmv : mv < 4611686018427387904) :
    Calls Try.prog 51 #[.pointer (some ⟨cb, 0, none⟩)] w fun e w' =>
      if H.m.high = [] then Ret (.bool true) (Sat (HeapH H.shut .nilIface b :: CoR b cb mb 0 (ro + 1) mv :: F)) e w'
      else Ret (.bool false) (Sat (HeapH (sl1 H) v b :: CoR b cb mb 2 ro (mv + mv1 H) :: F)) e w' := by
  have hm := hS.wf
  have hgap := hm.am.gap hS.op
  have htopn := hm.am.top
  have hmost := hm.am.most
  refine S_slide_Collector_slide_ok _ _ _ ?_
  unfold S_slide_Collector_slide
  simp only [onSome_some]
  refine LdP.of hs 1 rfl (off := 0) rfl rfl ?_
  refine (harena_c hs).mono ?_
  rintro e w1 ⟨rfl, ba, bt, rfl, h1⟩
  refine ⟨_, rfl, ?_⟩
  refine (gap2 (h1.pull 1 rfl)).mono ?_
  rintro e w2 ⟨rfl, h2⟩
  refine ⟨_, _, _, rfl, ?_⟩
  refine (head2 h2 _).mono ?_
  rw [findI_nat]
  cases hh : H.m.high with
  | nil => as_aux_lemma =>
    have hf : H.m.find H.m.hi = none := by
      unfold Am.find
      rw [findL_above (by omega), hh]
      rfl
    rw [hf]
    rintro e w3 ⟨rfl, h3⟩
    refine ⟨_, _, _, _, _, _, rfl, ?_⟩
    refine NewC.ofRow h3 fun d w4 h4 => ?_
    refine st5 h4 0 rfl fun w5 h5 => ?_
    refine (top2 (h5.pull 1 rfl)).mono ?_
    rintro e w6 ⟨rfl, rfl⟩
    refine ⟨_, rfl, ?_⟩
    have ht : H.m.top = H.m.hi := by simp [Am.top, hS.op, hh, osz]
    refine cond_t (by simp [ht]) ?_
    refine (close2 (h5.pull 1 rfl)).mono ?_
    intro e w6 hp
    rw [if_pos hS.op, if_pos hh] at hp
    obtain ⟨rfl, h6⟩ := hp
    refine ⟨_, rfl, ?_⟩
    have h6 : Sat (Arena H.shut.m ba :: Row d _ _ :: Row b (hrow ba bt H.roots v) 88 :: Tbl H.t bt :: CoR b cb mb 2 ro mv :: F) w6 := h6
    have hwf : H.shut.WF := by
      have e : H.shut.m = H.m.close := rfl
      refine ⟨Am.close_wf hm.am hS.op hh, hm.tab, hm.rlen, hm.r64, fun i s hs ht => ?_, fun k o ho => ?_⟩
      · rw [e, Am.find_close hh]; exact hm.link i s hs ht
      · rw [e, Am.find_close hh] at ho; exact hm.back k o ho
    have h7 : Sat (HeapH H.shut v b :: CoR b cb mb 2 ro mv :: F) w6 := heap_shut hwf (ba := ba) (bt := bt) ((Sat.p1 h6).drop.p1)
    refine LdP.of h7 1 rfl (off := 0) rfl rfl ?_
    refine (watch_c (v' := .nilIface) rfl h7).mono ?_
    rintro e w7 ⟨rfl, h8⟩
    refine ⟨rfl, ?_⟩
    refine StC.of h8 1 rfl (off := 2) rfl (add_mk _ _ _) fun w8 h9 => ?_
    refine LdI.of h9 1 rfl (off := 3) rfl (add_mk _ _ _) ?_
    refine StC.of h9 1 rfl (off := 3) rfl (add_mk _ _ _) fun w9 h10 => ?_
    rw [if_pos rfl, wrapI64 (by omega) (by omega)] at *
    exact ⟨rfl, h10⟩
  | cons o l => as_aux_lemma =>
    simp only [reduceCtorEq, if_false]
    rw [head_find hm hh]
    rintro e w3 ⟨rfl, h3⟩
    refine ⟨_, _, _, _, _, _, rfl, ?_⟩
    refine NewC.ofRow h3 fun d w4 h4 => ?_
    refine st5 h4 0 rfl fun w5 h5 => ?_
    refine (top2 (h5.pull 1 rfl)).mono ?_
    rintro e w6 ⟨rfl, rfl⟩
    refine ⟨_, rfl, ?_⟩
    have ht : H.m.top = H.m.hi + (1 + o.w.length + osz l) := by simp [Am.top, hS.op, hh, osz]
    refine cond_f (by simp [ht]; omega) ?_
    refine cond_f rfl ?_
    obtain ⟨s0, a1, a2, a3⟩ := head_slot hm hh
    have hown := get_lt a1
    have htl := hm.tab.len
    have htm := hm.tab.most
    have hfd : H.t.find (hnd (H.t.genAt o.owner) o.owner) = some o.owner := find_of (by omega) a1 a2 (genAt_of a1).symm
    have hu : hnd (H.t.genAt o.owner) o.owner < 18446744073709551616 := by
      have := hm.tab.genAt_lt o.owner
      unfold hnd; omega
    have hgen : H.t.genAt o.owner + 1 < 4294967296 := by have := gen_tot H.t o.owner; have := hg.tot; omega
    have h5 : Sat (Row d [.int .i64 (o.tag : Nat), .int .i64 (o.refs : Nat), .int .i64 (o.w.length : Nat), .bool o.mark, .int .i64 (o.owner : Nat)] 124 :: Arena H.m ba :: Row b (hrow ba bt H.roots v) 88 :: Tbl H.t bt :: CoR b cb mb 2 ro mv :: F) w5 := h5
    have h6 := h5.drew
    generalize w5.drew = w6 at h6
    clear h1 h2 h3 h4 h5 hs
    refine ⟨fun w => Sat (Row d [.int .i64 (o.tag : Nat), .int .i64 (o.refs : Nat), .int .i64 (o.w.length : Nat), .bool o.mark, .int .i64 (o.owner : Nat)] 124 :: Arena H.m ba :: Row b (hrow ba bt H.roots v) 88 :: Tbl H.t bt :: CoR b cb mb 2 ro mv :: F) w, h6, ?_⟩
    refine LdPQ.row (fun w hw => ⟨_, Sat.pull hw 4 rfl⟩) (off := 0) rfl rfl ?_
    refine LdIQ.row (fun w hw => ⟨_, hw⟩) (off := 4) rfl (add_mk _ _ _) ?_
    refine (htab_o h6 2 rfl).mono ?_
    rintro e w7 ⟨rfl, rfl⟩
    refine ⟨_, rfl, h6, ?_⟩
    refine (of_c (h6.pull 3 rfl) _).mono ?_
    rintro e w7 ⟨rfl, rfl⟩
    rw [if_neg (by omega), Int.toNat_natCast, if_pos (by simp [Tab.takenAt, a1, a2])]
    refine ⟨_, _, rfl, h6, ?_⟩
    refine LdB.of h6 0 rfl (off := 3) rfl (add_mk _ _ _) ?_
    cases hmk : o.mark with
    | false => as_aux_lemma =>
      have e1 : sl1 H = slS H o := by unfold sl1; rw [hh]; dsimp only; rw [hmk, if_neg (by decide)]
      have e2 : mv1 H = 0 := by unfold mv1; rw [hh]; dsimp only; rw [hmk, if_neg (by simp)]
      rw [e1, e2]
      refine cond_t rfl ?_
      refine (skip2 (h6.pull 1 rfl) hh).mono ?_
      rintro e w8 ⟨rfl, h7⟩
      refine ⟨_, _, rfl, cond_t rfl ?_⟩
      refine LdP.of h7 4 rfl (off := 0) rfl rfl ?_
      refine (htab_o h7 2 rfl).mono ?_
      rintro e w9 ⟨rfl, rfl⟩
      refine ⟨_, rfl, ?_⟩
      refine (free_c (h7.pull 3 rfl) hu hfd hgen).mono ?_
      rintro e w9 ⟨rfl, h8⟩
      refine ⟨_, rfl, rfl, ?_⟩
      have h8 : Sat (Tbl (slS H o).t bt :: Arena (slS H o).m ba :: Row d _ _ :: Row b (hrow ba bt (slS H o).roots v) 88 :: CoR b cb mb 2 ro mv :: F) w9 := h8
      have h9 := (h8.pull 2 rfl).drop
      exact heap_shut (slS_wf hm hh hgen) (ba := ba) (bt := bt) ((Sat.pull h9 1 rfl).pull 2 rfl)
    | true => as_aux_lemma =>
      have e1 : sl1 H = slK H o := by unfold sl1; rw [hh]; dsimp only; rw [hmk, if_pos rfl]
      rw [e1]
      refine cond_f rfl ?_
      refine (keep2 (h6.pull 1 rfl) hh).mono ?_
      rintro e w8 ⟨rfl, h7⟩
      refine ⟨_, _, _, rfl, ?_⟩
      refine (mark2 h7 _ false).mono ?_
      intro e w9 hp
      have hke := keep_at hm hh
      rcases hp with ⟨h8, _⟩ | ⟨k, o', e3, h8, h9⟩
      · rw [findI_nat, hke] at h8; cases h8
      · have e3 : k = osz H.m.low := by omega
        subst e3
        rw [hke] at h8
        cases h8
        obtain ⟨rfl, h9⟩ := h9
        refine ⟨_, rfl, ?_⟩
        intro k0 hk0
        refine cond_t rfl ?_
        refine LdP.of h9 4 rfl (off := 0) rfl rfl ?_
        refine (htab_o h9 2 rfl).mono ?_
        rintro e w10 ⟨rfl, rfl⟩
        refine ⟨_, rfl, ?_⟩
        refine (move_c (h9.pull 3 rfl) hu _ (by omega)).mono ?_
        intro e w11 hp
        rcases hp with ⟨g1, _⟩ | ⟨i, g1, g2, _⟩ | ⟨i, g1, g2, rfl, h10⟩
        · rw [hfd] at g1; cases g1
        · omega
        · rw [hfd] at g1
          cases g1
          rw [Int.toNat_natCast] at h10
          refine ⟨_, rfl, hk0 _ ?_⟩
          have h10 : Sat (Tbl (slK H o).t bt :: Arena (slK H o).m ba :: Row d _ _ :: Row b (hrow ba bt (slK H o).roots v) 88 :: CoR b cb mb 2 ro mv :: F) w11 := h10
          have h11 := (h10.pull 2 rfl).drop
          have h12 := heap_shut (slK_wf hm hh) (ba := ba) (bt := bt) ((Sat.pull h11 1 rfl).pull 2 rfl)
          unfold S_slide_Collector_slide_j0
          simp only [onSome_some]
          by_cases hne : H.m.hi = osz H.m.low
          · have e2 : mv1 H = 0 := by unfold mv1; rw [hh]; dsimp only; rw [if_neg (fun hh => hh.2 hne)]
            rw [e2]
            exact cond_f (by simp [hne]) ⟨rfl, h12⟩
          · have e2 : mv1 H = 1 := by unfold mv1; rw [hh]; dsimp only; rw [if_pos ⟨hmk, hne⟩]
            rw [e2]
            refine cond_t (by simp; omega) ?_
            refine LdI.of h12 1 rfl (off := 4) rfl (add_mk _ _ _) ?_
            refine StC.of h12 1 rfl (off := 4) rfl (add_mk _ _ _) fun w12 h13 => ?_
            rw [wrapI64 (by omega) (by omega)] at h13
            exact ⟨rfl, h13⟩
end
end Go.Proofs.Ytdfdmboljidhnaa
