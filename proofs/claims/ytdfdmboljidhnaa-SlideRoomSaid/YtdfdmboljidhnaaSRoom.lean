
/- 'SlideRoom' answers true: garbage made again and again, collected when there is no room, never fills a heap: what is reached stays. No conditions. -/
import Derived.Test.YtdfdmboljidhnaaSf
set_option maxRecDepth 100000
namespace Go.Hm
open Go Go.Lw Go.Wd Go.Am Go.Tb Go.Proofs.Ytdfdmboljidhnaa
/-- a heap of one object of eight refs, and garbage of at most 16 words each. -/
structure Rm (B : Nat) (H : Hp) (R : Nat) : Prop where
  wf : H.WF
  op : H.m.op = false
  cl : H.Closed
  gd : Gd B H
  tn : H.t.n = 64
  mn : H.m.n = 400
  rin : R ∈ H.roots
  rall : ∀ y ∈ H.roots, y = 0 ∨ y = R
  r : ∃ o, H.look R = some o ∧ o.refs = 8 ∧ o.w.length = 8
  self : R ∉ refsOf H R
  oth : ∀ x o, H.look x = some o → x ≠ R → o.refs = 0 ∧ 1 ≤ o.w.length ∧ o.w.length ≤ 16
section
variable {B R : Nat} {H H' : Hp}
theorem Rm.reach (h : Rm B H R) {x : Nat} (hr : Reach H x) : x ∈ R :: refsOf H R := by
  induction hr with
  | root a b =>
    rcases h.rall _ a with rfl | rfl
    · rw [look_zero h.wf] at b; cases b
    · exact List.mem_cons_self
  | step a b c ih =>
    rcases List.mem_cons.1 ih with rfl | hx
    · exact List.mem_cons_of_mem _ b
    · rename_i x y
      by_cases e : x = R
      · subst e; exact List.mem_cons_of_mem _ b
      · unfold refsOf at b
        cases hl : H.look x with
        | none => rw [hl] at b; cases b
        | some o =>
          rw [hl] at b
          have := (h.oth x o hl e).1
          dsimp only at b
          rw [this] at b
          cases b
theorem Rm.refs8 (h : Rm B H R) : (refsOf H R).length = 8 := by
  obtain ⟨o, h1, h2, h3⟩ := h.r
  rw [refsOf_len h.wf h1, h2]
theorem Rm.rreach (h : Rm B H R) : Reach H R := by
  obtain ⟨o, h1, _⟩ := h.r
  exact .root h.rin (by rw [h1]; rfl)
theorem Rm.sz (h : Rm B H R) (x : Nat) : Hm.sz H x ≤ 17 := by
  unfold Hm.sz
  cases hl : H.look x with
  | none => simp
  | some o =>
    dsimp only
    by_cases e : x = R
    · obtain ⟨p, h1, h2, h3⟩ := h.r
      rw [e, h1] at hl
      cases hl
      omega
    · have := (h.oth x o hl e).2.2
      omega
theorem sum_bound {f : Nat → Nat} {k : Nat} (h : ∀ x, f x ≤ k) : ∀ l : List Nat, (l.map f).sum ≤ k * l.length
  | [] => by simp
  | x :: l => by
    have h1 := h x
    have h2 := sum_bound h l
    simp only [List.map_cons, List.sum_cons, List.length_cons, Nat.mul_add, Nat.mul_one]
    omega
theorem Rm.words (h : Rm B H R) : wordsOf H (order H) ≤ 153 := by
  have h1 : (order H).length ≤ 9 := by
    have := List.Nodup.length_le_of_subset (order_met (H := H)).nd (l₂ := R :: refsOf H R) fun x hx => h.reach ((order_iff h.wf).1 hx)
    simp only [List.length_cons, h.refs8] at this
    exact this
  have h2 := sum_bound h.sz (order H)
  rw [words_sum]
  omega
/-- behind a full collection there is room. -/
theorem Rm.full (h : Rm B H R) {c : Cd} (hf : Fl B H c) : Rm B c.H R ∧ c.H.m.top ≤ 153 ∧ c.H.t.count ≤ 9 := by
  obtain ⟨_, o2, o3⟩ := hf.ci.ph0 hf.ph
  have hle := hf.less
  have hw := hf.ci.wf
  have hrr := h.rreach
  have href := hle.refs hrr
  refine ⟨⟨hw, o2, o3, hf.ci.gd, by rw [hle.tn, h.tn], by rw [hle.n, h.mn], by rw [hle.roots]; exact h.rin, by rw [hle.roots]; exact h.rall, ?_, by rw [href]; exact h.self, fun x o ho hx => ?_⟩, by rw [hf.top]; exact h.words, ?_⟩
  · obtain ⟨o, h1, h2, h3⟩ := h.r
    obtain ⟨p, g1, g2, g3, _⟩ := hle.some hrr h1
    exact ⟨p, g1, by rw [g2, h2], by rw [g3, h3]⟩
  · rcases hle.drop x with e | e
    · rw [ho] at e; cases e
    · rw [ho] at e
      cases hl : H.look x with
      | none => rw [hl] at e; cases e
      | some p =>
        rw [hl] at e
        simp only [Option.map_some, Option.some.injEq] at e
        have e1 : o.plain.refs = p.plain.refs := by rw [e]
        have e2 : o.plain.w = p.plain.w := by rw [e]
        have e1 : o.refs = p.refs := e1
        have e2 : o.w = p.w := e2
        rw [e1, e2]
        exact h.oth x p hl hx
  · have h1 : (rowH c.H).length ≤ 9 := by
      have := List.Nodup.length_le_of_subset (row_nodup hw o2) (l₂ := R :: refsOf H R) fun x hx => h.reach ((hf.live x).1 ((mem_row hw o2 x).1 hx))
      simp only [List.length_cons, h.refs8] at this
      exact this
    rw [hf.ci.gd.cnt]
    unfold rowH at h1
    simpa using h1
theorem gd_made (hm : H.WF) (hop : H.m.op = false) (h : Gd B H) (a b c : Nat) : Gd (B + 2) (H.made a b c) := by
  have e : (H.made a b c).m = ⟨H.m.n, H.m.low ++ [Fresh a b c H.t.nextSlot], H.m.high, H.m.hi, false⟩ := by
    show H.m.alloc _ = _
    unfold Am.alloc
    cases hop2 : H.m.op with
    | true => rw [hop2] at hop; cases hop
    | false => rfl
  refine ⟨?_, ?_⟩
  · rw [made_count hm.tab, e, h.cnt]
    simp only [List.length_append, List.length_cons, List.length_nil]
    omega
  · have := tot_make hm.tab H.m.top
    have := h.tot
    show tot (H.t.make H.m.top) ≤ _
    omega
/-- one object more. -/
theorem Rm.made (h : Rm B H R) {n : Nat} (h1 : 1 ≤ n) (h2 : n ≤ 16) (hf : ¬ H.t.full) (hwf : (H.made 1 0 n).WF) : Rm (B + 2) (H.made 1 0 n) R ∧ (H.made 1 0 n).look (nextH H.t) = some (Fresh 1 0 n H.t.nextSlot) ∧ nextH H.t ≠ R ∧ (H.made 1 0 n).t.count = H.t.count + 1 := by
  have hlk := made_look h.wf (tag := 1) (refs := 0) (size := n) hf
  have hnone := next_look h.wf hf
  obtain ⟨o, r1, r2, r3⟩ := h.r
  have hne : nextH H.t ≠ R := fun e => by rw [e, r1] at hnone; cases hnone
  have hR : (H.made 1 0 n).look R = H.look R := by rw [hlk, if_neg (Ne.symm hne)]
  have hcl := closed_made h.wf h.cl hf (tag := 1) (refs := 0) (size := n)
  have hop : (H.made 1 0 n).m.op = false := by
    show (H.m.alloc _).op = false
    unfold Am.alloc
    cases hop2 : H.m.op with
    | true => rw [h.op] at hop2; cases hop2
    | false => rfl
  have hmn : (H.made 1 0 n).m.n = 400 := by
    show (H.m.alloc _).n = 400
    unfold Am.alloc
    cases hop2 : H.m.op <;> exact h.mn
  refine ⟨⟨hwf, hop, hcl, gd_made h.wf h.op h.gd _ _ _, (make_n _ _).trans h.tn, hmn, h.rin, h.rall, ⟨o, by rw [hR]; exact r1, r2, r3⟩, ?_, fun x p hp hx => ?_⟩, by rw [hlk, if_pos rfl], hne, made_count h.wf.tab⟩
  · have e : refsOf (H.made 1 0 n) R = refsOf H R := by unfold refsOf; rw [hR]
    rw [e]; exact h.self
  · rw [hlk] at hp
    split at hp
    · cases hp
      exact ⟨rfl, by simp [Fresh]; omega, by simp [Fresh]; omega⟩
    · exact h.oth x p hp hx
/-- a word of garbage is set. -/
theorem Rm.word (h : Rm B H R) {x y : Nat} {o : Ob} (hx : x ≠ R) (ho : H.look x = some o) (hy : y < 18446744073709551616) : Rm B (H.set x (o.put (o.refs + 0) y)) R := by
  have hw : (o.put (o.refs + 0) y).w.length = o.w.length := by simp [Ob.put]
  have hwf : (H.set x (o.put (o.refs + 0) y)).WF := set_wf h.wf ho hw rfl (Ob.put_ok (look_ok h.wf ho) _ hy)
  have hlk := set_look h.wf ho hw
  have hR : (H.set x (o.put (o.refs + 0) y)).look R = H.look R := by rw [hlk, if_neg (Ne.symm hx)]
  refine ⟨hwf, h.op, closed_put h.wf h.cl ho (fun e => by omega), (rw_set (o' := o.put (o.refs + 0) y) h.wf ho rfl).gd h.gd, h.tn, h.mn, h.rin, h.rall, ?_, ?_, fun z p hp hz => ?_⟩
  · rw [hR]; exact h.r
  · have e : refsOf (H.set x (o.put (o.refs + 0) y)) R = refsOf H R := by unfold refsOf; rw [hR]
    rw [e]; exact h.self
  · rw [hlk] at hp
    split at hp
    · cases hp
      have := h.oth x o ho hx
      exact ⟨this.1, by rw [hw]; exact this.2.1, by rw [hw]; exact this.2.2⟩
    · exact h.oth z p hp hz
/-- a ref of the one object is set. -/
theorem Rm.link (h : Rm B H R) {i y : Nat} {o : Ob} (hi : i < 8) (hy : y ≠ R) (ho : H.look R = some o) (hl : H.may y = true) (hyu : y < 18446744073709551616) : Rm B (H.set R (o.put i y)) R := by
  have hw : (o.put i y).w.length = o.w.length := by simp [Ob.put]
  have hwf : (H.set R (o.put i y)).WF := set_wf h.wf ho hw rfl (Ob.put_ok (look_ok h.wf ho) _ hyu)
  have hlk := set_look h.wf ho hw
  obtain ⟨o', r1, r2, r3⟩ := h.r
  rw [ho] at r1
  cases r1
  refine ⟨hwf, h.op, closed_put h.wf h.cl ho (fun _ => hl), (rw_set (o' := o.put i y) h.wf ho rfl).gd h.gd, h.tn, h.mn, h.rin, h.rall, ⟨o.put i y, by rw [hlk, if_pos rfl], r2, by rw [hw]; exact r3⟩, fun hin => ?_, fun z p hp hz => ?_⟩
  · have h1 : R ∈ (o.w.set i y).take o.refs := by
      unfold refsOf at hin
      rw [hlk, if_pos rfl] at hin
      exact hin
    rw [List.take_set] at h1
    rcases List.mem_or_eq_of_mem_set h1 with a | a
    · refine h.self ?_
      unfold refsOf; rw [ho]; exact a
    · exact hy a.symm
  · rw [hlk, if_neg hz] at hp
    exact h.oth z p hp hz
end
end Go.Hm
namespace Go.Proofs.Ytdfdmboljidhnaa
open Go Go.Lw Go.Wd Go.Am Go.Tb Go.Hm Go.ChangeShapes Go.WideShapes Go.ChangeAt Go.RowKit
def rm0 : Hp := Hp.new 400 64
def rmR : Nat := nextH rm0.t
def rm1 : Hp := rm0.made 9 8 8
def rm2 : Hp := if Hp.rootE rm1 1 rmR = 0 then rm1.rooted (Int.toNat 1) rmR else rm1
theorem rm_rootE : Hp.rootE rm1 1 rmR = 0 := by decide +kernel
theorem rm_u : rmR < 18446744073709551616 := by decide +kernel
theorem rm_op : rm2.m.op = false := by decide +kernel
theorem rm_gd : Gd 2 rm2 := ⟨by decide +kernel, by decide +kernel⟩
theorem rm_r : ∀ y ∈ rm2.roots, rm2.may y = true := by decide +kernel
theorem rm_o : ∀ o ∈ rm2.m.low ++ rm2.m.high, ∀ y ∈ o.w.take o.refs, rm2.may y = true := by decide +kernel
theorem rm_in : rmR ∈ rm2.roots := by decide +kernel
theorem rm_all : ∀ y ∈ rm2.roots, y = 0 ∨ y = rmR := by decide +kernel
theorem rm_lk : ((rm2.look rmR).map fun o => (o.refs, o.w.length)) = some (8, 8) := by decide +kernel
theorem rm_self : rmR ∉ refsOf rm2 rmR := by decide +kernel
theorem rm_row : rowH rm2 = [rmR] := by decide +kernel
theorem rm_cnt : rm2.t.count = 1 := by decide +kernel
theorem rm_ok (hm : rm2.WF) : Rm 2 rm2 rmR := by
  refine ⟨hm, rm_op, closed_of hm rm_r rm_o, rm_gd, rfl, rfl, rm_in, rm_all, ?_, rm_self, fun x o ho hx => ?_⟩
  · have h := rm_lk
    cases hl : rm2.look rmR with
    | none => rw [hl] at h; cases h
    | some o =>
      rw [hl] at h
      simp only [Option.map_some, Option.some.injEq, Prod.mk.injEq] at h
      exact ⟨o, rfl, h.1, h.2⟩
  · have := (mem_row hm rm_op x).2 (by rw [ho]; rfl)
    rw [rm_row] at this
    exact absurd (by simpa using this) hx

set_option maxHeartbeats 4000000 in
theorem room_c (W : World) {p1 : Option Addr} {l1 c1 : Nat} {zs : List Int} (hz : ArgI W .i64 p1 l1 zs) (keep : Int) :
    Calls Try.prog 6 #[.slice p1 l1 c1, .int .i64 keep] W (Ret (.bool true) (Go.RowKit.Below W.heap.size W)) := by
  have h0 : Sat [Ro W (Mem.of W)] W := Sat.ofBase W
  refine S_law11_SlideRoom_ok _ _ _ _ _ _ ?_
  unfold S_law11_SlideRoom
  refine (awake11_c h0).mono ?_
  rintro e w0 ⟨rfl, h1⟩
  refine ⟨_, rfl, cond_f rfl ?_⟩
  refine (fresh_c (n := 400) (k := 64) (by omega) (by omega) (by omega) (by omega) h1).mono ?_
  rintro e w1 ⟨b, rfl, h2⟩
  refine ⟨_, rfl, cond_f rfl ?_⟩
  refine (snew_c h2).mono ?_
  rintro e w2 ⟨cb, mb, rfl, h3⟩
  refine ⟨_, rfl, ?_⟩
  have h3 : Sat (HeapH rm0 .nilIface b :: CoR b cb mb 0 0 0 :: MkH b mb [] false :: [Ro W (Mem.of W)]) w2 := h3
  refine (mk_c h3 (tag := 9) (refs := 8) (size := 8) (by decide +kernel)).mono ?_
  rintro e w3 ⟨rfl, h4⟩
  refine ⟨_, _, rfl, cond_f rfl ?_⟩
  have h4 : Sat (HeapH rm1 .nilIface b :: CoR b cb mb 0 0 0 :: MkH b mb [] false :: [Ro W (Mem.of W)]) w3 := h4
  refine (sroot_c h4 1 (y := rmR) rm_u).mono ?_
  rintro e w4 ⟨rfl, h5⟩
  have h5 : Sat (HeapH rm2 .nilIface b :: CoR b cb mb 0 0 0 :: MkH b mb [] false :: [Ro W (Mem.of W)]) w4 := h5
  rw [rm_rootE]
  refine ⟨_, rfl, cond_f rfl ?_⟩
  have hR0 := rm_ok (sat_wf h5)
  have hRc := rm_cnt
  have hRu := rm_u
  have hRe : nextH rm0.t = rmR := rfl
  rw [hRe]
  generalize rmR = R at hR0 hRu ⊢
  generalize rm2 = H0 at hR0 h5 hRc
  clear h1 h2 h3 h4
  obtain ⟨a0, ha0, hae0⟩ := bAnd_le keep 7 (by omega)
  have hae0 : bAnd .i64 keep 7 = (a0 : Int) := hae0
  refine ⟨fun i w => ∃ (q ro mv : Nat) (H : Hp), i = q ∧ q ≤ 300 ∧ Rm (2 * q + 2) H R ∧ (0 < ro ∨ H.t.count = q + 1) ∧ ro ≤ q ∧ mv ≤ 1048576 * q ∧ Sat (HeapH H .nilIface b :: CoR b cb mb 0 ro mv :: MkH b mb [] false :: [Ro W (Mem.of W)]) w, fun i _ => (300 - i).toNat, ⟨0, 0, 0, H0, rfl, by omega, hR0, .inr hRc, by omega, by omega, h5⟩, ?_⟩
  clear h5
  rintro i w5 ⟨q, ro, mv, H, rfl, hq, hRm, hcnt, hro, hmv, h6⟩
  unfold S_law11_SlideRoom_l0
  by_cases hlt : q < 300
  rotate_left
  · refine cond_f (by simp; omega) ?_
    refine (check_c h6 hRm.cl hRm.op).mono ?_
    rintro e w6 ⟨rfl, h7⟩
    refine ⟨_, rfl, cond_t rfl ?_⟩
    refine (srounds_c h7 1 rfl).mono ?_
    rintro e w7 ⟨rfl, rfl⟩
    have hpos : 0 < ro := by
      rcases hcnt with a | a
      · exact a
      · have := count_le hRm.wf.tab
        rw [hRm.tn] at this
        omega
    refine ⟨_, rfl, ?_, h7.roBelow 3 rfl (Ext.refl _)⟩
    have : decide ((ro : Int) > 0) = true := by simp; omega
    rw [this]
  refine cond_t (by simp; omega) ?_
  intro k0 hk0 k1 hk1
  have done : ∀ (ro mv : Nat) (H2 : Hp) w, Rm (2 * q + 4) H2 R → (0 < ro ∨ H2.t.count = q + 2) → ro ≤ q + 1 → mv ≤ 1048576 * (q + 1) → Sat (HeapH H2 .nilIface b :: CoR b cb mb 0 ro mv :: MkH b mb [] false :: [Ro W (Mem.of W)]) w → k0 w := by
    intro ro mv H2 w g1 g2 g3 g4 g5
    refine hk0 _ ?_
    unfold S_law11_SlideRoom_j3
    rw [wrapI64 (by omega) (by omega)]
    exact ⟨⟨q + 1, ro, mv, H2, by omega, by omega, g1, g2, g3, g4, g5⟩, by dsimp only; omega⟩
  have hmv2 : mv ≤ 1048576 * (q + 1) := by omega
  have hro2 : ro ≤ q + 1 := by omega
  have hmod8 : ∃ t, t < 8 ∧ bAnd .i64 (q : Int) 7 = ((t : Nat) : Int) := by
    obtain ⟨t, ht, hte⟩ := bAnd_le (q : Int) 7 (by omega)
    exact ⟨t, by omega, hte⟩
  obtain ⟨t, ht8, hte⟩ := hmod8
  -- behind the making: the object x is made in H2
  have tail : ∀ (ro mv n : Nat) (H1 : Hp) w, Rm (2 * q + 2) H1 R → (0 < ro ∨ H1.t.count = q + 1) → ro ≤ q + 1 → mv ≤ 1048576 * (q + 1) → 1 ≤ n → n ≤ 16 → ¬ H1.t.full → (H1.made 1 0 n).WF →
      Sat (HeapH (H1.made 1 0 n) .nilIface b :: CoR b cb mb 0 ro mv :: MkH b mb [] false :: [Ro W (Mem.of W)]) w →
      S_law11_SlideRoom_j1 keep (Ret (.bool true) (Go.RowKit.Below W.heap.size W)) (some ⟨b, 0, none⟩) (R : Int) (q : Int) k0 (nextH H1.t : Int) 0 w := by
    intro ro mv n H1 w g1 g2 g3 g4 g5 g6 g7 g8 g9
    unfold S_law11_SlideRoom_j1
    refine cond_f rfl ?_
    obtain ⟨m1, m2, m3, m4⟩ := g1.made g5 g6 g7 g8
    have hnp := next_pos H1.t
    have hnu := next_u64 g1.wf g7
    generalize nextH H1.t = x at *
    have hwr : IntKind.wrap .u64 (q : Int) = ((q : Nat) : Int) := wrapU64 (by omega) (by omega)
    rw [hwr]
    refine (swd_c g9 (x := x) (i := 0) (y := q) m2 (by simp [Fresh]; omega) rfl (by omega)).mono ?_
    rintro e w7 ⟨rfl, h8⟩
    refine ⟨_, rfl, cond_f rfl ?_⟩
    have m5 := m1.word m3 m2 (y := q) (by omega)
    have m6 : ((H1.made 1 0 n).set x ((Fresh 1 0 n H1.t.nextSlot).put ((Fresh 1 0 n H1.t.nextSlot).refs + 0) q)).t.count = H1.t.count + 1 := m4
    have m7 : (((H1.made 1 0 n).set x ((Fresh 1 0 n H1.t.nextSlot).put ((Fresh 1 0 n H1.t.nextSlot).refs + 0) q)).look x).isSome = true := by
      rw [set_isSome g8 m2 (by simp [Ob.put]), m2]; rfl
    generalize (H1.made 1 0 n).set x ((Fresh 1 0 n H1.t.nextSlot).put ((Fresh 1 0 n H1.t.nextSlot).refs + 0) q) = H3 at h8 m5 m6 m7
    clear m1 m2 g8 g9
    intro k3 hk3
    have last : ∀ (H4 : Hp) w, Rm (2 * q + 4) H4 R → H4.t.count = H1.t.count + 1 → Sat (HeapH H4 .nilIface b :: CoR b cb mb 0 ro mv :: MkH b mb [] false :: [Ro W (Mem.of W)]) w → k3 w := by
      intro H4 w f1 f2 f3
      refine hk3 _ ?_
      unfold S_law11_SlideRoom_j0
      rw [hte]
      obtain ⟨o, r1, r2, r3⟩ := f1.r
      have hoy : o.w[t]? = some (o.w.getD t 0) := by rw [List.getD_eq_getElem?_getD, List.getElem?_eq_getElem (by omega)]; rfl
      have hyin : o.w.getD t 0 ∈ refsOf H4 R := by
        unfold refsOf
        rw [r1]
        exact List.mem_of_getElem? (i := t) (by rw [List.getElem?_take_of_lt (by omega)]; exact hoy)
      generalize o.w.getD t 0 = y at hoy hyin
      refine (grf_c f3 (x := R) (i := t) (y := y) r1 (by omega) hoy rfl).mono ?_
      rintro e w9 ⟨rfl, h10⟩
      refine ⟨_, _, rfl, cond_f rfl ?_⟩
      have fin : k0 w9 := done ro mv H4 w9 f1 (g2.imp id fun a => by omega) g3 g4 h10
      by_cases hy0 : y = 0
      · exact cond_f (by simp [hy0]) fin
      refine cond_t (by simpa using hy0) ?_
      have hyl := (may_or (f1.cl.refs R y hyin)).resolve_left hy0
      obtain ⟨u, hu⟩ := Option.isSome_iff_exists.1 hyl
      have hyR : y ≠ R := by
        intro e
        rw [e] at hyin
        exact f1.self hyin
      obtain ⟨u1, u2, u3⟩ := f1.oth y u hu hyR
      have huw : u.w[u.refs + 0]? = some (u.w.getD 0 0) := by
        rw [u1, List.getD_eq_getElem?_getD, List.getElem?_eq_getElem (by omega)]; rfl
      refine (gwd_c h10 (x := y) (i := 0) (y := u.w.getD 0 0) hu huw rfl).mono ?_
      rintro e w10 ⟨rfl, h11⟩
      refine ⟨_, _, rfl, cond_f rfl ?_⟩
      exact done ro mv H4 w10 f1 (g2.imp id fun a => by omega) g3 g4 h11
    rw [hae0, show IntKind.wrap .i64 (2 + (a0 : Int)) = ((a0 + 2 : Nat) : Int) by rw [wrapI64 (by omega) (by omega)]; omega]
    refine ⟨by omega, ?_⟩
    cases hc : (Int.tmod (q : Int) ((a0 + 2 : Nat) : Int)) == 0 with
    | false => exact last H3 w7 m5 m6 h8
    | true =>
      show Calls _ _ _ _ _
      rw [hte]
      obtain ⟨o, r1, r2, r3⟩ := m5.r
      have hmay : H3.may x = true := by unfold Hp.may; rw [m7]; simp
      refine (srf_c h8 (x := R) (i := t) (y := x) r1 (by omega) rfl hnu hmay).mono ?_
      rintro e w9 ⟨rfl, h10⟩
      refine ⟨_, rfl, cond_f rfl ?_⟩
      exact last _ w9 (m5.link ht8 m3 r1 hmay hnu) m6 h10
  have go : ∀ n : Nat, 1 ≤ n → n ≤ 16 → k1 (n : Int) w5 := by
    intro n hn1 hn16
    refine hk1 _ _ ?_
    unfold S_law11_SlideRoom_j2
    have roomy : ∀ {H1 : Hp} {B : Nat}, Rm B H1 R → Hp.makeE H1 1 0 (n : Int) = 0 → ¬ H1.t.full ∧ (H1.made 1 0 n).WF := by
      intro H1 B g1 hE
      unfold Hp.makeE at hE
      rw [if_pos (by omega)] at hE
      have hroom : ¬ ((H1.m.n : Int) < H1.m.top + 1 + (n : Int) ∨ H1.t.count = H1.t.n) := fun hh => by rw [if_pos hh] at hE; cases hE
      have hcl := count_le g1.wf.tab
      have hc1 : H1.t.count ≠ H1.t.n := fun hh => hroom (.inr hh)
      have hnf := not_full g1.wf (by omega)
      exact ⟨hnf, made_wf g1.wf (tag := 1) (refs := 0) (size := n) (by omega) (by omega) (by omega) hnf (by have : ¬ ((H1.m.n : Int) < H1.m.top + 1 + (n : Int)) := fun hh => hroom (.inl hh); omega)⟩
    by_cases hE : Hp.makeE H 1 0 (n : Int) = 0
    · refine (mk_c h6 (tag := 1) (refs := 0) (size := n) hE).mono ?_
      rintro e w6 ⟨rfl, h7⟩
      refine ⟨_, _, rfl, ?_⟩
      intro k2 hk2
      obtain ⟨e1, e2⟩ := roomy hRm hE
      refine cond_f rfl (hk2 _ _ _ ?_)
      exact tail ro mv n H w6 hRm hcnt hro2 hmv2 hn1 hn16 e1 e2 h7
    · refine (make_no h6 hE).mono ?_
      rintro e w6 ⟨rfl, h7⟩
      refine ⟨_, _, rfl, ?_⟩
      intro k2 hk2
      have hE5 : Hp.makeE H 1 0 (n : Int) = 5 := by
        unfold Hp.makeE at hE ⊢
        rw [if_pos (by omega)] at hE ⊢
        split
        · rfl
        · rename_i hh; rw [if_neg hh] at hE; exact absurd rfl hE
      rw [hE5]
      refine cond_t rfl ?_
      have hB : 2 * q + 2 + 2 < 4294967296 := by omega
      have ci : Ci (2 * q + 2) ⟨H, [], 0, ro, mv⟩ := ci_new hRm.wf hRm.gd hRm.op hRm.cl ro mv
      have h7 : Sat (CL ⟨H, [], 0, ro, mv⟩ b cb mb [Ro W (Mem.of W)]) w6 := h7
      have hb1 : roB ⟨H, [], 0, ro, mv⟩ = ro := by unfold roB; rw [if_pos rfl, Nat.add_zero]
      have hb2 : mvB ⟨H, [], 0, ro, mv⟩ = mv := by unfold mvB; rw [if_pos rfl, Nat.add_zero]
      refine (sfull_c h7 hB ci pk_zero (by rw [hb1]; omega) (by rw [hb2]; omega)).mono ?_
      rintro e w7 ⟨rfl, h8⟩
      have hf : Fl (2 * q + 2) H (fullC ⟨H, [], 0, ro, mv⟩) := fl_of (c := ⟨H, [], 0, ro, mv⟩) hB ci rfl (Less.refl _)
      have hr : (fullC ⟨H, [], 0, ro, mv⟩).ro = ro + 1 := end_ro (start_ok ci rfl).ci (by show 1 ≠ 0; decide)
      have hv : (fullC ⟨H, [], 0, ro, mv⟩).mv ≤ mv + 1048576 := by
        have s1 := start_ok ci rfl
        have a1 := (mvB_end hB s1.ci).1
        have a2 := objs_le s1.ci.wf
        have e : mvB (startC ⟨H, [], 0, ro, mv⟩) = mv + ((startC ⟨H, [], 0, ro, mv⟩).H.m.low.length + (startC ⟨H, [], 0, ro, mv⟩).H.m.high.length) := rfl
        have e2 : fullC ⟨H, [], 0, ro, mv⟩ = endC (startC ⟨H, [], 0, ro, mv⟩) := rfl
        rw [e2]
        omega
      refine ⟨_, _, rfl, cond_f rfl ?_⟩
      generalize fullC ⟨H, [], 0, ro, mv⟩ = f at h8 hf hr hv
      obtain ⟨g1, g2, g3⟩ := hRm.full hf
      have hst := (hf.ci.ph0 hf.ph).1
      obtain ⟨H1, st, ph, ro1, mv1⟩ := f
      have hph : ph = 0 := hf.ph
      dsimp only at hr hv hst g1 g2 g3
      subst hph hst
      have h9 : Sat (HeapH H1 .nilIface b :: CoR b cb mb 0 ro1 mv1 :: MkH b mb [] false :: [Ro W (Mem.of W)]) w7 := h8
      have hE1 : Hp.makeE H1 1 0 (n : Int) = 0 := by
        unfold Hp.makeE
        have := g1.tn
        have := g1.mn
        rw [if_pos (by omega), if_neg (by omega)]
      refine (mk_c h9 (tag := 1) (refs := 0) (size := n) hE1).mono ?_
      rintro e w8 ⟨rfl, h10⟩
      refine ⟨_, _, rfl, hk2 _ _ _ ?_⟩
      obtain ⟨e1, e2⟩ := roomy g1 hE1
      have q1 : 0 < ro1 := by omega
      have q2 : ro1 ≤ q + 1 := by omega
      have q3 : mv1 ≤ 1048576 * (q + 1) := by omega
      exact tail ro1 mv1 n H1 w8 g1 (.inl q1) q2 q3 hn1 hn16 e1 e2 h10
  have one : k1 1 w5 := go 1 (by omega) (by omega)
  by_cases hl1 : 0 < l1
  rotate_left
  · exact cond_f (by simp; omega) one
  refine cond_t (by simp; omega) ?_
  obtain ⟨a, rfl⟩ := hz.some hl1
  have hzl := hz.len
  have hmod : Int.tmod (q : Int) (l1 : Int) = ((q % l1 : Nat) : Int) := by rw [Int.tmod_eq_emod_of_nonneg (by omega)]; omega
  have hml : q % l1 < l1 := Nat.mod_lt _ hl1
  rw [hmod]
  generalize q % l1 = g at hml
  have hzq : zs[g]? = some zs[g] := List.getElem?_eq_getElem (by omega)
  have hrd := hz.reads a rfl g (.int .i64 zs[g]) (by rw [List.getElem?_map, hzq]; rfl)
  refine ⟨by omega, by omega, by omega, ?_⟩
  rw [Int.toNat_natCast]
  refine LdI.at ((RdS.base (by rw [Nat.mul_one]; exact hrd)) _ (h6.has 3 rfl)) ?_
  obtain ⟨x, hx7, hxe⟩ := bAnd_le zs[g] 15 (by omega)
  have hxe : bAnd .i64 zs[g] 15 = (x : Int) := hxe
  rw [hxe, show IntKind.wrap .i64 (1 + (x : Int)) = ((x + 1 : Nat) : Int) by rw [wrapI64 (by omega) (by omega)]; omega]
  exact go (x + 1) (by omega) (by omega)

set_option maxRecDepth 100000 in
theorem room_lifted (os : Os) (started : os.Started) (H : Type) (enc : TypeId × Value → H) :
    ReturnsInHanded {} Try.checked os 6 .any (Rows.slideRoomSpec.pre6 enc Try.prog Try.f6 Rows.slideRoomRow.domain false) (Rows.slideRoomSpec.post enc Try.prog Try.f6 false true false false) := by
  refine returnsInHanded_of_change (C := Try.checked) own started (by kernel_rfl) Try.func6
    (ChangeSpec.witness6 (enc := enc) (C := Try.checked) false ⟨#[], #[.slice none 0 0, .int .i64 0], []⟩ 8 (by kernel_rfl) (by kernel_rfl) (by kernel_rfl) (by kernel_rfl)) ?_
  intro W base args ds gs before hval hW hcnd _
  have hval : ∀ (j : Nat) t v, Try.f6.params[j]? = some t → args[j]? = some v → Value.okWide Try.prog W .any base t v := hval
  have hW' : DataW.Whole enc Try.prog Try.f6.params.toList Rows.slideRoomSpec.vars false W args.toList ds gs before := hW
  obtain ⟨p, q, hA, hV, _⟩ := hW'
  rw [Try.params6] at hA hval
  obtain ⟨v0, v1, d0, d1, p0, p1, rfl, rfl, rfl, h0, h1⟩ := trodAll_two hA
  obtain ⟨a0, l0, c0, rfl⟩ := okWide_slice Try.underlying40 (hval 0 40 v0 rfl rfl)
  obtain ⟨zs0, hz0⟩ := argInts Try.underlying40 Try.underlying3 (by kernel_rfl) h0
  obtain ⟨n1, rfl, rfl, rfl, wn1⟩ := open_int Try.underlying3 (hval 1 3 v1 rfl rfl) h1
  refine (room_c W hz0 n1).mono fun e W' ⟨he, hs⟩ => ?_
  exact ⟨_, he, law_post (tb := 4) laidOut (by decide +kernel) (by kernel_rfl) Try.underlying4 rfl hW ⟨rfl, rfl, rfl⟩ hs⟩

theorem room_holds : Rows.SlideRoomSaid :=
  OpenClaim.holds_of_wide 6 Try.f6 rfl rfl rfl rfl rfl rfl rfl ⟨rfl, rfl, rfl, rfl, rfl⟩ rfl rfl rfl rfl rfl (by kernel_rfl) Try.func6 (by kernel_rfl)
    (of_decide_eq_true (by kernel_rfl)) (by unfold Func.isWrapper; first | (rw [if_pos (by decide +kernel)]; kernel_rfl) | (rw [if_neg (by decide +kernel)]; exact ⟨rfl, rfl⟩))
    (fun os started H enc _ => room_lifted os started H enc)
