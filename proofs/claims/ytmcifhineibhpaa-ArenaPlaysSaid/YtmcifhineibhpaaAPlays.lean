/- 'ArenaPlays' answers true: whatever is done to an arena, each answer, each object, the gap and the top are what the document's own arena says. No conditions. -/
import Derived.Test.YtmcifhineibhpaaAPlay
import Derived.Test.YtmcifhineibhpaaLx
namespace Go.Proofs.Ytmcifhineibhpaa
open Go Go.Lw Go.Tb Go.Wd Go.Am Go.ChangeShapes Go.WideShapes Go.ChangeAt Go.RowKit

def hcells (o : Ob) : List Value := [.int .i64 (o.tag : Nat), .int .i64 (o.refs : Nat), .int .i64 (o.w.length : Nat), .bool o.mark, .int .i64 (o.owner : Nat)]
section
variable {L : List HP} {w : World} {b T : Nat}
theorem ldHd {o : Ob} {K : Int → Int → Int → Bool → Int → Prop} (hs : Sat L w) (i : Nat) (hi : L[i]? = some (Row b (hcells o) T)) (h : K (o.tag : Nat) (o.refs : Nat) (o.w.length : Nat) o.mark (o.owner : Nat)) :
    LdI .i64 w ⟨b, 0, none⟩ fun n => LdI .i64 w (Addr.add ⟨b, 0, none⟩ 1) fun n1 => LdI .i64 w (Addr.add ⟨b, 0, none⟩ 2) fun n2 => LdB w (Addr.add ⟨b, 0, none⟩ 3) fun b' => LdI .i64 w (Addr.add ⟨b, 0, none⟩ 4) fun n3 => K n n1 n2 b' n3 := by
  simp only [add_mk, Nat.zero_add]
  exact LdI.of hs i hi (off := 0) rfl rfl (LdI.of hs i hi (off := 1) rfl rfl (LdI.of hs i hi (off := 2) rfl rfl (LdB.of hs i hi (off := 3) rfl rfl (LdI.of hs i hi (off := 4) rfl rfl h))))
end

section
variable {W : World} {S : Mem} {F : List HP} {w : World} {m : Am} {r : Rm} {b : Nat}
set_option maxRecDepth 100000 in
theorem looks_c (hr : RAr S m r) (hs : Sat (Arena m b :: Ro W S :: F) w) : Calls Try.prog 25 #[.pointer (some ⟨b, 0, none⟩), r.agg] w (Ret (.bool true) (Sat (Arena m b :: Ro W S :: F))) := by
  have hm := (arena_open hs).1
  have htop := hm.top; have hmost := hm.most
  refine S_law7_looks_ok _ _ _ _ _ _ _ _ _ _ _ _ ?_
  unfold S_law7_looks
  refine NewC.ofRow hs fun b0 w1 h1 => ?_
  have h1 : Sat (Row b0 r.cells 61 :: Arena m b :: Ro W S :: F) w1 := h1
  refine (gap2 (h1.pull 1 rfl)).mono ?_
  rintro e w2 ⟨rfl, h2⟩
  refine ⟨_, _, _, rfl, ?_⟩
  refine ldRm h2 1 rfl ?_
  refine (rgap_c hr hm (h2.pull 2 rfl)).mono ?_
  rintro e w3 ⟨rfl, h3⟩
  refine ⟨_, _, rfl, ?_⟩
  have h4 : Sat (Ro W S :: Arena m b :: Row b0 r.cells 61 :: F) w3.drew := h3.drew
  refine ⟨fun w => ∃ L i, L[i]? = some (Row b0 r.cells 61) ∧ Sat L w, ⟨_, 2, rfl, h4⟩, ?_⟩
  refine ⟨r.n, fun w ⟨L, i, hi, h⟩ => LdI.of h i hi (off := 0) rfl rfl rfl, ?_⟩
  refine (words2 (h4.pull 1 rfl)).mono ?_
  rintro e w4 ⟨rfl, rfl⟩
  refine ⟨_, rfl, ⟨_, 2, rfl, h4⟩, cond_f (by rw [hr.n]; simp) ?_⟩
  refine ⟨r.n, r.lp, r.ll, r.lc, r.hp, r.hl, r.hc, r.en, r.op, fun w ⟨L, i, hi, h⟩ => ldRm h i hi rfl, ?_⟩
  refine (top2 (h4.pull 1 rfl)).mono ?_
  rintro e w4 ⟨rfl, rfl⟩
  refine ⟨_, rfl, ⟨_, 2, rfl, h4⟩, ?_⟩
  refine (rtop_c hr hm h4).mono ?_
  rintro e w5 ⟨rfl, h5⟩
  have h5 : Sat (Ro W S :: Arena m b :: Row b0 r.cells 61 :: F) w5 := h5
  refine ⟨_, rfl, ⟨_, 2, rfl, h5⟩, cond_f (by simp) ?_⟩
  refine ⟨r.n, fun w ⟨L, i, hi, h⟩ => LdI.of h i hi (off := 0) rfl rfl rfl, ?_⟩
  refine ⟨r.n, r.lp, r.ll, r.lc, r.hp, r.hl, r.hc, r.en, r.op, fun w ⟨L, i, hi, h⟩ => ldRm h i hi rfl, ?_⟩
  refine (free2 (h5.pull 1 rfl)).mono ?_
  rintro e w6 ⟨rfl, h6⟩
  refine ⟨_, rfl, ⟨_, 2, rfl, h6⟩, ?_⟩
  refine (rtop_c hr hm (h6.pull 1 rfl)).mono ?_
  rintro e w7 ⟨rfl, h7⟩
  have h7 : Sat (Ro W S :: Arena m b :: Row b0 r.cells 61 :: F) w7 := h7
  have efree : (((m.n - m.top : Nat) : Int) != IntKind.wrap .i64 (r.n - ((m.top : Nat) : Int))) = false := by
    rw [hr.n, wrapI64 (by omega) (by omega)]; simp; omega
  refine ⟨_, rfl, ⟨_, 2, rfl, h7⟩, cond_f efree (cond_f (by simp) (cond_f (by simp) ?_))⟩
  refine ⟨r.op, fun w ⟨L, i, hi, h⟩ => LdB.of h i hi (off := 4) rfl (by simp [add_mk]) rfl, cond_f (by rw [hr.op]; simp) ?_⟩
  refine ⟨r.n, r.lp, r.ll, r.lc, r.hp, r.hl, r.hc, r.en, r.op, fun w ⟨L, i, hi, h⟩ => ldRm h i hi rfl, ?_⟩
  refine (first2 (h7.pull 1 rfl)).mono ?_
  rintro e w8 ⟨rfl, rfl⟩
  refine ⟨_, rfl, ⟨_, 2, rfl, h7⟩, ?_⟩
  refine (rfirst_c hr hm h7).mono ?_
  rintro e w8 ⟨rfl, h8⟩
  have h8 : Sat (Ro W S :: Arena m b :: Row b0 r.cells 61 :: F) w8 := h8
  refine ⟨_, rfl, ⟨_, 2, rfl, h8⟩, cond_f (by simp) ?_⟩
  intro k0 hk0
  have hend : ∀ w, Sat (Ro W S :: Arena m b :: Row b0 r.cells 61 :: F) w → k0 w := fun w h => hk0 _ (by
    unfold S_law7_looks_j2
    exact ⟨rfl, (h.pull 2 rfl).drop.pull 1 rfl⟩)
  refine ⟨fun x w => ∃ q : Nat, x = q ∧ q ≤ 200 ∧ Sat (Ro W S :: Arena m b :: Row b0 r.cells 61 :: F) w, fun x _ => (200 - x).toNat, ⟨0, rfl, by omega, h8⟩, ?_⟩
  clear h1 h2 h3 h4 h5 h6 h7 h8 hs
  rintro x w13 ⟨q, rfl, hq, h9⟩
  unfold S_law7_looks_l1
  refine ldRm h9 2 rfl ?_
  refine (rtop_c hr hm h9).mono ?_
  rintro e w14 ⟨rfl, h10⟩
  have h10 : Sat (Ro W S :: Arena m b :: Row b0 r.cells 61 :: F) w14 := h10
  refine ⟨_, rfl, ?_⟩
  by_cases hqt : q ≤ m.top
  rotate_left
  · exact cond_f (by simp; omega) (hend _ h10)
  refine cond_t (by simp; omega) ?_
  rcases Nat.lt_or_ge q 200 with hq2 | hq2
  rotate_left
  · exact cond_f (by simp; omega) (hend _ h10)
  refine cond_t (by simp; omega) ?_
  intro k1 hk1
  have goOn : ∀ w, Sat (Ro W S :: Arena m b :: Row b0 r.cells 61 :: F) w → k1 w := fun w h => hk1 _ (by
    unfold S_law7_looks_j1
    rw [wrapI64 (by omega) (by omega)]
    exact ⟨⟨q + 1, by omega, by omega, h⟩, by first | omega | (dsimp only; omega)⟩)
  have key : ∃ (o : Ob) (ok : Bool), (bif ok then m.findI (q : Int) = some o else (m.findI (q : Int) = none ∧ o = xz.o)) := by
    cases hf : m.findI (q : Int) with
    | none => exact ⟨xz.o, false, rfl, rfl⟩
    | some o => exact ⟨o, true, rfl⟩
  obtain ⟨o, ok, hok⟩ := key
  refine (head2 (h10.pull 1 rfl) (q : Int)).mono ?_
  rintro e w15 ⟨he, h11⟩
  have he2 : e = .returned (.tuple #[headO o, .int .i64 (bif ok then 0 else 1)]) := by
    cases ok
    · obtain ⟨h1, rfl⟩ := hok; rw [h1] at he; exact he
    · have h1 : m.findI (q : Int) = some o := hok; rw [h1] at he; exact he
  clear he
  subst he2
  refine ⟨_, _, _, _, _, _, rfl, ?_⟩
  refine NewC.ofRow h11 fun b10 w16 h12 => stRow5 h12 0 rfl fun w17 h13 => ?_
  have h13 : Sat (Row b10 (hcells o) 39 :: Arena m b :: Ro W S :: Row b0 r.cells 61 :: F) w17 := h13
  refine (next2 (h13.pull 1 rfl) (q : Int)).mono ?_
  rintro e w18 ⟨he, h14⟩
  have he2 : e = .returned (.tuple #[.int .i64 (bif ok then ((m.next (q + 1 + o.w.length) : Nat) : Int) else 0), .int .i64 (bif ok then 0 else 1)]) := by
    cases ok
    · obtain ⟨h1, rfl⟩ := hok; rw [h1] at he; exact he
    · have h1 : m.findI (q : Int) = some o := hok; rw [h1] at he; exact he
  clear he
  subst he2
  refine ⟨_, _, rfl, ?_⟩
  refine ldRm h14 3 rfl ?_
  refine (rat_c hr hm (q : Int) (h14.pull 2 rfl)).mono ?_
  rintro e w19 ⟨x, ok', hx, hf, rfl, h15⟩
  obtain ⟨rfl, rfl⟩ : ok' = ok ∧ o = x.o := by
    cases ok <;> cases ok'
    · obtain ⟨h1, rfl⟩ := hok; obtain ⟨h2, rfl⟩ := hf; exact ⟨rfl, rfl⟩
    · obtain ⟨h1, _⟩ := hok; have h2 : m.findI (q : Int) = some x.o := hf; rw [h1] at h2; cases h2
    · have h1 : m.findI (q : Int) = some o := hok; obtain ⟨h2, _⟩ := hf; rw [h1] at h2; cases h2
    · have h1 : m.findI (q : Int) = some o := hok; have h2 : m.findI (q : Int) = some x.o := hf; rw [h1] at h2; cases h2; exact ⟨rfl, rfl⟩
  refine ⟨_, _, _, _, _, _, _, _, rfl, ?_⟩
  refine NewC.ofRow h15 fun b12 w20 h16 => stRow5 h16 0 rfl fun w21 h17 => ?_
  have h17 : Sat (Row b12 x.cells 81 :: Ro W S :: Arena m b :: Row b10 (hcells x.o) 39 :: Row b0 r.cells 61 :: F) w21 := h17
  refine ldRm h17 4 rfl ?_
  refine (rnext_c hr hm (q : Int) (h17.pull 1 rfl)).mono ?_
  intro e w22 h18
  have h18b : Ret (.tuple #[.int .i64 (bif ok' then ((m.next (q + 1 + x.o.w.length) : Nat) : Int) else 0), .bool ok']) (Sat (Ro W S :: Row b12 x.cells 81 :: Arena m b :: Row b10 (hcells x.o) 39 :: Row b0 r.cells 61 :: F)) e w22 := by
    rcases h18 with ⟨h1, h⟩ | ⟨o', h1, h⟩
    · cases ok'
      · exact h
      · have h2 : m.findI (q : Int) = some x.o := hok; rw [h1] at h2; cases h2
    · cases ok'
      · obtain ⟨h2, _⟩ := hok; rw [h1] at h2; cases h2
      · have h2 : m.findI (q : Int) = some x.o := hok
        rw [h1] at h2; cases h2
        exact h
  clear h18
  obtain ⟨rfl, h18⟩ := h18b
  refine ⟨_, _, rfl, ?_⟩
  have clean1 : ∀ {w : World}, Sat (Ro W S :: Row b12 x.cells 81 :: Arena m b :: Row b10 (hcells x.o) 39 :: Row b0 r.cells 61 :: F) w → Sat (Ro W S :: Arena m b :: Row b0 r.cells 61 :: F) w := fun h =>
    (((h.pull 1 rfl).drop.pull 2 rfl).drop)
  clear h9 h10 h11 h12 h13 h14 h15 h16 h17
  cases ok' with
  | false =>
    obtain ⟨_, rfl⟩ := hf
    refine cond_t rfl (cond_f rfl (cond_f rfl (cond_f rfl ?_)))
    refine ldHd (o := xz.o) h18 3 rfl ?_
    refine (headed_c xz h18).mono ?_
    rintro e w23 ⟨rfl, h19⟩
    exact ⟨_, rfl, cond_f rfl (cond_f rfl (goOn _ (clean1 h19)))⟩
  | true =>
    have hf : m.findI (q : Int) = some x.o := hf
    refine cond_f rfl (cond_f rfl ?_)
    refine ldHd (o := x.o) h18 3 rfl ?_
    refine ldOmRow (x := x) h18 1 rfl ?_
    refine (headed_c x h18).mono ?_
    rintro e w23 ⟨rfl, h19⟩
    refine ⟨_, rfl, cond_f rfl (cond_f rfl (cond_f (by simp) ?_))⟩
    intro k2 hk2
    have hk2' : ∀ w, Sat (Ro W S :: Row b12 x.cells 81 :: Arena m b :: Row b10 (hcells x.o) 39 :: Row b0 r.cells 61 :: F) w → k2 w := fun w h => hk2 _ (by
      unfold S_law7_looks_j0
      exact goOn _ (clean1 h))
    refine ⟨fun i w => ∃ j : Nat, i = j ∧ j ≤ x.o.w.length ∧ Sat (Ro W S :: Row b12 x.cells 81 :: Arena m b :: Row b10 (hcells x.o) 39 :: Row b0 r.cells 61 :: F) w, fun i _ => (x.o.w.length - i).toNat, ⟨0, rfl, by omega, h19⟩, ?_⟩
    clear h18 h19
    rintro i w24 ⟨j, rfl, hj, h20⟩
    unfold S_law7_looks_l0
    refine LdS.of h20 1 rfl (off := 4) rfl (by simp [add_mk]) ?_
    have hlim := CRs.lim hx
    by_cases hjl : j < x.o.w.length
    rotate_left
    · exact cond_f (by simp; omega) (hk2' _ h20)
    refine cond_t (by simp; omega) ?_
    rcases Nat.lt_or_ge j 40 with hj40 | hj40
    rotate_left
    · exact cond_f (by simp; omega) (hk2' _ h20)
    refine cond_t (by simp; omega) ?_
    refine (get2 (h20.pull 2 rfl) (q : Int) (j : Int)).mono ?_
    rintro e w25 ⟨he, h21⟩
    have hgo : getO (m.findI (q : Int)) (j : Int) = some x.o.w[j] := by rw [hf]; unfold getO; dsimp only; rw [if_pos (by omega), Int.toNat_natCast, List.getElem?_eq_getElem hjl]
    rw [hgo] at he
    subst he
    refine ⟨_, _, rfl, cond_f rfl ?_⟩
    have h22 : Sat (Ro W S :: Row b12 x.cells 81 :: Arena m b :: Row b10 (hcells x.o) 39 :: Row b0 r.cells 61 :: F) w25 := (h21.pull 2 rfl).pull 2 rfl
    refine LdS.of h22 1 rfl (off := 4) rfl (by simp [add_mk]) ?_
    have hwl : (wcells x.o.w)[j]? = some (.int .u64 (x.o.w[j] : Int)) := by unfold wcells; rw [List.getElem?_map, List.getElem?_eq_getElem hjl]; rfl
    obtain ⟨pa, hpa, hrd⟩ := CRs.reads hx j _ hwl
    refine IdxC.of0 ⟨pa, hpa, rfl⟩ hjl (LdI.at (hrd _ (h22.has 0 rfl)) (cond_f (by simp) ?_))
    rw [wrapI64 (by omega) (by omega)]
    exact ⟨⟨j + 1, by omega, by omega, h22⟩, by first | omega | (dsimp only; omega)⟩
end

theorem nums_get : ∀ {ks : List IntKind} {cs : List Value} {j : Nat} {k : IntKind}, Nums ks cs → ks[j]? = some k → ∃ n, cs[j]? = some (.int k n) ∧ (Lit.int k n).wf = true
  | [], _, _, _, _, h => by simp at h
  | k0 :: ks, [], _, _, h, _ => by simp [Nums] at h
  | k0 :: ks, v :: vs, 0, k, h, hk => by
    simp only [List.getElem?_cons_zero, Option.some.injEq] at hk
    subst hk
    simp only [Nums] at h
    obtain ⟨⟨n, rfl, hw⟩, _⟩ := h
    exact ⟨n, rfl, hw⟩
  | k0 :: ks, v :: vs, j + 1, k, h, hk => by
    simp only [List.getElem?_cons_succ] at hk ⊢
    simp only [Nums] at h
    exact nums_get h.2 hk
abbrev dks7 : List IntKind := [.i64, .i64, .i64, .i64, .i64, .u64]
theorem deed_rd {W : World} {p : Option Addr} {l q : Nat} {xs : List Value} (hx : ArgR W dks7 p l xs) (hq : q < l) : ∃ (a : Addr) (d0 d1 d2 d3 d4 : Int) (z : Nat), p = some a ∧ z < 18446744073709551616 ∧
    ∀ j v, [Value.int .i64 d0, .int .i64 d1, .int .i64 d2, .int .i64 d3, .int .i64 d4, .int .u64 (z : Int)][j]? = some v → W.cell? ((a.add (q * 6)).add j) = some v := by
  obtain ⟨a, rfl⟩ := hx.some (by omega)
  have h := hx.rows q hq
  have hg : ∀ j k, dks7[j]? = some k → ∃ n, W.cell? ((a.add (q * 6)).add j) = some (.int k n) ∧ (Lit.int k n).wf = true := by
    intro j k hk
    obtain ⟨n, h1, h2⟩ := nums_get h hk
    have hj : j < 6 := get_lt hk
    rw [List.getElem?_take_of_lt (by simpa using hj), List.getElem?_drop] at h1
    refine ⟨n, ?_, h2⟩
    rw [add_add]
    exact hx.reads a rfl _ _ h1
  obtain ⟨d0, g0, _⟩ := hg 0 _ rfl
  obtain ⟨d1, g1, _⟩ := hg 1 _ rfl
  obtain ⟨d2, g2, _⟩ := hg 2 _ rfl
  obtain ⟨d3, g3, _⟩ := hg 3 _ rfl
  obtain ⟨d4, g4, _⟩ := hg 4 _ rfl
  obtain ⟨d5, g5, w5⟩ := hg 5 _ rfl
  obtain ⟨z, rfl, hz⟩ := wf_u64 w5
  refine ⟨a, d0, d1, d2, d3, d4, z, rfl, hz, fun j v hj => ?_⟩
  have hlt := get_lt hj
  rcases j with _ | _ | _ | _ | _ | _ | j
  · cases hj; exact g0
  · cases hj; exact g1
  · cases hj; exact g2
  · cases hj; exact g3
  · cases hj; exact g4
  · cases hj; exact g5
  · simp only [List.length_cons, List.length_nil] at hlt; omega

theorem plays_c (W : World) (n : Int) {p : Option Addr} {l c : Nat} {xs : List Value} (hx : ArgR W dks7 p l xs) :
    Calls Try.prog 7 #[.int .i64 n, .slice p l c] W (Ret (.bool true) (Go.RowKit.Below W.heap.size W)) := by
  have hlm := hx.max
  simp only [maxLen] at hlm
  have h0 : Sat [Ro W (Mem.of W)] W := Sat.ofBase W
  have hend : ∀ {S : Mem} {F : List HP} {w : World}, Ext (Mem.of W) S → Sat (Ro W S :: F) w → Go.RowKit.Below W.heap.size W w := fun e h => h.roBelow 0 rfl e
  refine S_law7_ArenaPlays_ok _ _ _ _ _ _ ?_
  unfold S_law7_ArenaPlays
  by_cases hn : n < 1 ∨ 1048576 < n
  · refine (arnew_no n hn W).mono ?_
    rintro e w1 ⟨rfl, rfl⟩
    refine ⟨_, _, rfl, ?_⟩
    refine (awake_c h0).mono ?_
    rintro e w2 ⟨rfl, h1⟩
    refine ⟨true, rfl, cond_f rfl ?_⟩
    by_cases h2 : n < 1
    · exact cond_t (by simpa using h2) (cond_t rfl ⟨rfl, hend (Ext.refl _) h1⟩)
    · exact cond_f (by simpa using h2) (cond_t (by simp; omega) (cond_t rfl ⟨rfl, hend (Ext.refl _) h1⟩))
  obtain ⟨k, rfl⟩ := Int.eq_ofNat_of_zero_le (show 0 ≤ n by omega)
  refine (new2 (n := k) (by omega) (by omega) h0).mono ?_
  rintro e w1 ⟨b, rfl, h1⟩
  refine ⟨_, _, rfl, ?_⟩
  refine (awake_c h1).mono ?_
  rintro e w2 ⟨rfl, h2⟩
  refine ⟨true, rfl, cond_f rfl (cond_f (by simp; omega) (cond_f (by simp; omega) (cond_f rfl (cond_f rfl ?_))))⟩
  refine NewC.ofRow h2 fun b0 w3 h3 => stRow5 h3 0 rfl fun w4 h4 => ?_
  have h4 : Sat [Arena (Am.new k) b, Ro W (Mem.of W), Row b0 (⟨(k : Int), none, 0, 0, none, 0, 0, 0, false⟩ : Rm).cells 61] w4 := Sat.pull (Sat.pull h4 2 rfl) 2 rfl
  refine ⟨fun i w => ∃ (q : Nat) (S : Mem) (m : Am) (r : Rm), i = q ∧ q ≤ l ∧ Ext (Mem.of W) S ∧ RAr S m r ∧ Sat [Arena m b, Ro W S, Row b0 r.cells 61] w, fun i _ => (l - i).toNat,
    ⟨0, Mem.of W, Am.new k, _, rfl, by omega, Ext.refl _, ⟨rfl, rfl, rfl, ⟨[], ORs.nil _⟩, ⟨[], ORs.nil _⟩⟩, h4⟩, ?_⟩
  clear h0 h1 h2 h3 h4
  rintro i w5 ⟨q, S, m, r, rfl, hq, hE, hr, h5⟩
  unfold S_law7_ArenaPlays_l0
  by_cases hql : q < l
  rotate_left
  · refine cond_f (by simp; omega) ?_
    refine ldRm h5 2 rfl ?_
    refine (looks_c hr h5).mono ?_
    rintro e w6 ⟨rfl, h6⟩
    exact ⟨_, rfl, rfl, hend hE (h6.pull 1 rfl)⟩
  refine cond_t (by simp; omega) ?_
  intro k0 hk0 k1 hk1
  have goOn : ∀ (S' : Mem) (m' : Am) (r' : Rm) (w' : World), Ext S S' → RAr S' m' r' → Sat [Arena m' b, Ro W S', Row b0 r'.cells 61] w' → k0 w' := by
    intro S' m' r' w' a1 a2 a3
    refine hk0 _ ?_
    unfold S_law7_ArenaPlays_j1
    rw [wrapI64 (by omega) (by omega)]
    exact ⟨⟨q + 1, S', m', r', by omega, by omega, hE.trans a1, a2, a3⟩, by first | omega | (dsimp only; omega)⟩
  have after : ∀ (S' : Mem) (m' : Am) (r' : Rm) (b3 : Nat) (w' : World), Ext S S' → RAr S' m' r' → Sat [Row b3 r'.cells 61, Arena m' b, Ro W S', Row b0 r.cells 61] w' → k1 ⟨b3, 0, none⟩ true w' := by
    intro S' m' r' b3 w' a1 a2 a3
    refine hk1 _ _ _ ?_
    unfold S_law7_ArenaPlays_j0
    refine cond_f rfl ?_
    refine cpRm (r := r') a3 0 rfl 3 rfl fun w6 h6 => ?_
    refine ⟨by decide, ?_⟩
    have h7 : Sat [Arena m' b, Ro W S', Row b0 r'.cells 61] w6 := Sat.drop h6
    cases hc : (Int.tmod (q : Int) 5 == 4)
    · exact cond_f rfl (goOn S' m' r' w6 a1 a2 h7)
    · refine cond_t rfl (ldRm h7 2 rfl ?_)
      refine (looks_c a2 h7).mono ?_
      rintro e w7 ⟨rfl, h8⟩
      exact ⟨_, rfl, cond_f rfl (goOn S' m' r' w7 a1 a2 h8)⟩
  obtain ⟨a, d0, d1, d2, d3, d4, z, rfl, hz, hcell⟩ := deed_rd hx hql
  have h6 := h5.drew
  refine ⟨fun w => ∃ (L : List HP) (i : Nat), L[i]? = some (Row b0 r.cells 61) ∧ Has S w ∧ Sat L w, ⟨_, 2, rfl, h6.has 1 rfl, h6⟩, ?_⟩
  refine ⟨r.n, r.lp, r.ll, r.lc, r.hp, r.hl, r.hc, r.en, r.op, fun w ⟨L, i, hi, _, h⟩ => ldRm h i hi rfl, ?_⟩
  have rd : ∀ j v, [Value.int .i64 d0, .int .i64 d1, .int .i64 d2, .int .i64 d3, .int .i64 d4, .int .u64 (z : Int)][j]? = some v → ∀ w, Has S w → w.cell? ((a.add (q * 6)).add j) = some v := fun j v hj w hw => ((RdS.base (hcell j v hj)).mono hE) w hw
  refine ⟨by omega, by omega, ?_⟩
  rw [Int.toNat_natCast]
  refine ⟨d0, d1, d2, d3, d4, (z : Int), fun w ⟨L, i, hi, hw, h⟩ => LdI.at (by simpa [Addr.add] using rd 0 _ rfl w hw) (LdI.at (rd 1 _ rfl w hw) (LdI.at (rd 2 _ rfl w hw) (LdI.at (rd 3 _ rfl w hw) (LdI.at (rd 4 _ rfl w hw) (LdI.at (rd 5 _ rfl w hw) rfl))))), ?_⟩
  refine ⟨?_, ?_⟩
  · refine (play_c hr hz h6).mono ?_
    rintro e w7 ⟨S', m', r', e1, hr', rfl, h7⟩
    refine ⟨_, _, _, _, _, _, _, _, _, _, rfl, ⟨_, 2, rfl, (h7.has 1 rfl).of e1, h7⟩, ?_⟩
    refine NewC.ofRow h7 fun b3 w8 h8 => ⟨⟨_, 3, rfl, (h8.has 2 rfl).of e1, h8⟩, ?_⟩
    refine stRow5 h8 0 rfl fun w9 h9 => ⟨⟨_, 3, rfl, (h9.has 2 rfl).of e1, h9⟩, ?_⟩
    exact after S' m' r' b3 w9 e1 hr' h9
  · refine NewC.ofRow h6 fun b3 w8 h8 => ⟨⟨_, 3, rfl, h8.has 2 rfl, h8⟩, ?_⟩
    have h9 : Sat [Arena m b, Ro W S, Row b0 r.cells 61, Row b3 rm0 61] w8 := Sat.pull (Sat.pull (Sat.pull h8 3 rfl) 3 rfl) 3 rfl
    refine (play_c hr hz h9).mono ?_
    rintro e w7 ⟨S', m', r', e1, hr', rfl, h7⟩
    refine ⟨_, _, _, _, _, _, _, _, _, _, rfl, ⟨_, 2, rfl, (h7.has 1 rfl).of e1, h7⟩, ?_⟩
    refine stRow5 (c0 := .int .i64 0) (c1 := .slice none 0 0) (c2 := .slice none 0 0) (c3 := .int .i64 0) (c4 := .bool false) h7 3 rfl fun w9 h9 => ⟨⟨_, 2, rfl, (h9.has 1 rfl).of e1, h9⟩, ?_⟩
    exact after S' m' r' b3 w9 e1 hr' (Sat.pull h9 3 rfl)


set_option maxRecDepth 100000 in
theorem plays_lifted (os : Os) (started : os.Started) (H : Type) (enc : TypeId × Value → H) :
    ReturnsInHanded {} Try.checked os 7 .any (Rows.arenaPlaysSpec.pre6 enc Try.prog Try.f7 Rows.arenaPlaysRow.domain false) (Rows.arenaPlaysSpec.post enc Try.prog Try.f7 false true false false) := by
  refine returnsInHanded_of_change (C := Try.checked) own started (by kernel_rfl) Try.func7
    (ChangeSpec.witness6 (enc := enc) (C := Try.checked) false ⟨#[], #[.int .i64 0, .slice none 0 0], []⟩ 8 (by kernel_rfl) (by kernel_rfl) (by kernel_rfl) (by kernel_rfl)) ?_
  intro W base args ds gs before hval hW hcnd _
  have hval : ∀ (j : Nat) t v, Try.f7.params[j]? = some t → args[j]? = some v → Value.okWide Try.prog W .any base t v := hval
  have hW' : DataW.Whole enc Try.prog Try.f7.params.toList Rows.arenaPlaysSpec.vars false W args.toList ds gs before := hW
  obtain ⟨p, q, hA, hV, _⟩ := hW'
  rw [Try.params7] at hA hval
  obtain ⟨v0, v1, d0, d1, p0, p1, rfl, rfl, rfl, h0, h1⟩ := trodAll_two hA
  obtain ⟨n0, rfl, rfl, rfl, wn0⟩ := open_int Try.underlying3 (hval 0 3 v0 rfl rfl) h0
  obtain ⟨a1, l1, c1, rfl⟩ := okWide_slice Try.underlying23 (hval 1 23 v1 rfl rfl)
  obtain ⟨⟨xs1, hx1⟩, _⟩ := argRows (ks := dks7) Try.underlying23 Try.underlying35 (by kernel_rfl) (by kernel_rfl) (by kernel_rfl) h1
  refine (plays_c W n0 hx1).mono fun e W' ⟨he, hs⟩ => ?_
  exact ⟨_, he, law_post (tb := 4) laidOut (by decide +kernel) (by kernel_rfl) Try.underlying4 rfl hW ⟨rfl, rfl, rfl⟩ hs⟩

theorem plays_holds : Rows.ArenaPlaysSaid :=
  OpenClaim.holds_of_wide 7 Try.f7 rfl rfl rfl rfl rfl rfl rfl ⟨rfl, rfl, rfl, rfl, rfl⟩ rfl rfl rfl rfl rfl (by kernel_rfl) Try.func7 (by kernel_rfl)
    (of_decide_eq_true (by kernel_rfl)) (by unfold Func.isWrapper; first | (rw [if_pos (by decide +kernel)]; kernel_rfl) | (rw [if_neg (by decide +kernel)]; exact ⟨rfl, rfl⟩))
    (fun os started H enc _ => plays_lifted os started H enc)
end Go.Proofs.Ytmcifhineibhpaa
