
/- 'asks': an object tells what the document's does. -/
import Derived.Test.YtdfdmboljidhnaaHPd
set_option maxRecDepth 100000
namespace Go.Proofs.Ytdfdmboljidhnaa
open Go Go.Lw Go.Wd Go.Am Go.Tb Go.Hm

section
variable {v : Value} {b : Nat} {H : Hp} {hs : List Nat} {r : Rh} {om : List (R9 × Gq)} {w W : World} {S : Mem} {G : List HP}
set_option maxHeartbeats 1000000 in
theorem asks_c (hS : Sat (HeapH H v b :: G) w) (k : Nat) (hk : G[k]? = some (Ro W S)) (hM : Mir S H hs r om) (hl : hs.length ≤ 1048576) {x : Nat} (hx : x < 18446744073709551616) (hxin : (H.look x).isSome = true → x ∈ hs) (i : Int) :
    Calls Try.prog 83 #[.pointer (some ⟨b, 0, none⟩), r.agg, .int .u64 (x : Int), .int .i64 i] w (Ret (.bool true) (Sat (HeapH H v b :: G))) := by
  have hm := sat_wf hS
  refine S_law9_asks_ok (some ⟨b, 0, none⟩) r.p r.l r.c r.a0 r.a1 r.a2 r.a3 r.a4 r.a5 r.a6 r.a7 r.a8 r.a9 r.a10 r.a11 r.a12 r.a13 r.a14 r.a15 x i w _ ?_
  unfold S_law9_asks
  refine NewC.ofRow hS fun b0 w1 h1 => ?_
  have h1 : Sat (HeapH H v b :: Row b0 r.cells 44 :: G) w1 := Sat.pull h1 1 rfl
  have hk' : (HeapH H v b :: Row b0 r.cells 44 :: G)[k + 2]? = some (Ro W S) := by simpa using hk
  refine (hhead_c h1 hx).mono ?_
  rintro e w2 ⟨rfl, h2⟩
  have hgo : ∀ {A B C D : Nat} {p q t u : Nat} {w : World}, Sat (HeapH H v b :: Row b0 r.cells 44 :: G) w →
      (match H.look x with | some o => A = o.tag ∧ B = o.refs ∧ C = o.w.length ∧ D = 0 | none => A = 0 ∧ B = 0 ∧ C = 0 ∧ D = 6) →
      (p, q) = Hp.ref H x i → (t, u) = Hp.word H x i →
      S_law9_asks_j1 x i (Ret (.bool true) (Sat (HeapH H v b :: G))) b0 (A : Int) (B : Int) (C : Int) (D : Int) (p : Int) (q : Int) (t : Int) (u : Int) w := by
    intro A B C D p q t u w h hD hpq htu
    unfold S_law9_asks_j1
    refine ldRh h 1 rfl ?_
    refine (at9_c (r := r) h (k + 2) hk' hM hl x).mono ?_
    rintro e w6 ⟨rfl, h6⟩
    refine ⟨_, rfl, ?_⟩
    cases hlk : H.look x with
    | none =>
      rw [hlk] at hD
      obtain ⟨rfl, rfl, rfl, rfl⟩ := hD
      have hnin : x ∉ hs := fun hh => by have := hM.live x hh; rw [hlk] at this; cases this
      simp only [Hp.ref, Hp.word, hlk, Prod.mk.injEq] at hpq htu
      obtain ⟨rfl, rfl⟩ := hpq
      obtain ⟨rfl, rfl⟩ := htu
      refine cond_t (by simpa using numI_neg.2 hnin) ?_
      exact cond_t rfl (cond_t rfl (cond_t rfl (cond_t rfl (cond_t rfl (cond_t rfl (cond_t rfl ⟨rfl, h6.p1.drop⟩))))))
    | some o =>
      rw [hlk] at hD
      obtain ⟨rfl, rfl, rfl, rfl⟩ := hD
      have hin : x ∈ hs := hxin (by rw [hlk]; rfl)
      obtain ⟨j, hj, hjx⟩ := numI_some hin
      rw [hj]
      refine cond_f (by simp) ?_
      have hw6 := h6.has (k + 2) hk'
      refine LdS.of h6 1 rfl (off := 0) rfl rfl ?_
      refine rd_ob hM hw6 hjx rfl fun a y hy1 hy2 hy3 hc => ?_
      obtain ⟨c0, c1, c2, c3⟩ := hc w6 hw6
      have hro : rob H x = ⟨x, o.tag, o.w.take o.refs, o.w.drop o.refs⟩ := by unfold rob; rw [hlk]
      rw [hro] at c1 c2 c3 hy2
      dsimp only at c1 c2 c3
      have hok := look_ok hm hlk
      have h3 := hok.refs; have h4 := hok.size
      have hyr := hy3.refs
      have hyw := hy3.words
      rw [hy2] at hyr hyw
      dsimp only at hyr hyw
      have lr : (o.w.take o.refs).length = o.refs := by rw [List.length_take]; omega
      have lw : (o.w.drop o.refs).length = o.w.length - o.refs := List.length_drop
      rw [lr] at c2 hyr
      rw [lw] at c3 hyw
      refine LdI.cell c0 (LdI.cell c1 (LdS.cell c2 (LdS.cell c3 ?_)))
      refine NewC.ofRow h6 fun b1 w7 h7 => ?_
      refine StC.of h7 0 rfl (off := 0) rfl rfl fun w8 h8 => ?_
      refine StC.of h8 0 rfl (off := 1) rfl (add_mk _ _ _) fun w9 h9 => ?_
      refine StC.of h9 0 rfl (off := 2) rfl (add_mk _ _ _) fun w10 h10 => ?_
      refine StC.of h10 0 rfl (off := 3) rfl (add_mk _ _ _) fun w11 h11 => ?_
      have h12 : Sat (Row b1 [.int .u64 (x : Int), .int .i64 (o.tag : Int), .slice y.2.pr o.refs y.2.cr, .slice y.2.pw (o.w.length - o.refs) y.2.cw] 133 :: HeapH H v b :: Row b0 r.cells 44 :: G) w11 := h11
      have hw11 := h12.has (k + 3) (by simpa using hk)
      refine cond_f rfl ?_
      refine LdI.of h12 0 rfl (off := 1) rfl (add_mk _ _ _) (cond_f (by simp) ?_)
      refine LdS.of h12 0 rfl (off := 2) rfl (add_mk _ _ _) (cond_f (by simp) ?_)
      refine LdS.of h12 0 rfl (off := 2) rfl (add_mk _ _ _) (LdS.of h12 0 rfl (off := 3) rfl (add_mk _ _ _) ?_)
      rw [wrapI64 (by omega) (by omega)]
      refine cond_f (by simp; omega) ?_
      have fin : Ret (.bool true) (Sat (HeapH H v b :: G)) (.returned (.bool true)) w11 := ⟨rfl, h12.drop.p1.drop⟩
      intro k1 hk1
      have hk2 : k1 w11 := by
        refine hk1 _ ?_
        unfold S_law9_asks_j0
        simp only [Hp.word, hlk] at htu
        by_cases h0 : i < 0
        · rw [if_neg (by omega)] at htu
          obtain ⟨rfl, rfl⟩ := Prod.mk.inj htu
          exact cond_t (by simpa using h0) (cond_t rfl fin)
        refine cond_f (by simpa using h0) ?_
        obtain ⟨q', rfl⟩ := Int.eq_ofNat_of_zero_le (Int.not_lt.1 h0)
        refine LdS.of h12 0 rfl (off := 3) rfl (add_mk _ _ _) ?_
        by_cases h5 : q' < o.w.length - o.refs
        · rw [if_pos (by omega)] at htu
          obtain ⟨rfl, rfl⟩ := Prod.mk.inj htu
          refine cond_f (by simp; omega) (cond_t rfl ?_)
          refine LdS.of h12 0 rfl (off := 3) rfl (add_mk _ _ _) ?_
          have hg : (o.w.drop o.refs)[q']? = some (o.w.getD (o.refs + q') 0) := by rw [List.getElem?_drop, List.getD_eq_getElem?_getD, List.getElem?_eq_getElem (by omega)]; rfl
          refine rd_word hyw hw11 hg rfl ?_
          rw [Int.toNat_natCast, beq_self_eq_true]
          exact fin
        · rw [if_neg (by omega)] at htu
          obtain ⟨rfl, rfl⟩ := Prod.mk.inj htu
          exact cond_t (by simp; omega) (cond_t rfl fin)
      simp only [Hp.ref, hlk] at hpq
      by_cases h0 : i < 0
      · rw [if_neg (by omega)] at hpq
        obtain ⟨rfl, rfl⟩ := Prod.mk.inj hpq
        exact cond_t (by simpa using h0) (cond_f rfl (cond_f rfl hk2))
      refine cond_f (by simpa using h0) ?_
      obtain ⟨q', rfl⟩ := Int.eq_ofNat_of_zero_le (Int.not_lt.1 h0)
      refine LdS.of h12 0 rfl (off := 2) rfl (add_mk _ _ _) ?_
      by_cases h5 : q' < o.refs
      · rw [if_pos (by omega)] at hpq
        obtain ⟨rfl, rfl⟩ := Prod.mk.inj hpq
        refine cond_f (by simp; omega) (cond_f rfl ?_)
        refine LdS.of h12 0 rfl (off := 2) rfl (add_mk _ _ _) ?_
        have hg : (o.w.take o.refs)[q']? = some (o.w.getD q' 0) := by rw [List.getElem?_take_of_lt h5, List.getD_eq_getElem?_getD, List.getElem?_eq_getElem (by omega)]; rfl
        refine rd_word hyr hw11 hg rfl ?_
        rw [Int.toNat_natCast]
        exact cond_f (by simp) hk2
      · rw [if_neg (by omega)] at hpq
        obtain ⟨rfl, rfl⟩ := Prod.mk.inj hpq
        exact cond_t (by simp; omega) (cond_f rfl (cond_f rfl hk2))
  have rest : ∀ {A B C D : Nat} {w : World}, Sat (HeapH H v b :: Row b0 r.cells 44 :: G) w →
      (match H.look x with | some o => A = o.tag ∧ B = o.refs ∧ C = o.w.length ∧ D = 0 | none => A = 0 ∧ B = 0 ∧ C = 0 ∧ D = 6) →
      Calls Try.prog 32 #[.pointer (some ⟨b, 0, none⟩), .int .u64 (x : Int), .int .i64 i] w fun e1 w2 =>
      ∃ (r4 : Int), ∃ (r5 : Int), e1 = .returned (.tuple #[.int .u64 r4, .int .i64 r5]) ∧
      Calls Try.prog 33 #[.pointer (some ⟨b, 0, none⟩), .int .u64 (x : Int), .int .i64 i] w2 fun e2 w3 =>
      ∃ (r6 : Int), ∃ (r7 : Int), e2 = .returned (.tuple #[.int .u64 r6, .int .i64 r7]) ∧
      Calls Try.prog 92 #[.pointer (some ⟨b, 0, none⟩), .int .i64 i] w3 fun e3 w4 =>
      ∃ (r8 : Int), ∃ (r9 : Int), e3 = .returned (.tuple #[.int .u64 r8, .int .i64 r9]) ∧
      ∀ k0 : World → Prop,
      (∀ (w5 : World), S_law9_asks_j1 x i (Ret (.bool true) (Sat (HeapH H v b :: G))) b0 (A : Int) (B : Int) (C : Int) (D : Int) r4 r5 r6 r7 w5 → k0 w5) →
      cond (decide (i < 0))
      (cond (r9 != 1)
      (Ret (.bool true) (Sat (HeapH H v b :: G)) (.returned (.bool false)) w4)
      (cond (r8 != 0)
      (Ret (.bool true) (Sat (HeapH H v b :: G)) (.returned (.bool false)) w4)
      (k0 w4)))
      (cond (decide (i > 15))
      (cond (r9 != 1)
      (Ret (.bool true) (Sat (HeapH H v b :: G)) (.returned (.bool false)) w4)
      (cond (r8 != 0)
      (Ret (.bool true) (Sat (HeapH H v b :: G)) (.returned (.bool false)) w4)
      (k0 w4)))
      (cond (r9 != 0)
      (Ret (.bool true) (Sat (HeapH H v b :: G)) (.returned (.bool false)) w4)
      (IdxF 16 i
      (LdI .u64 w4 (Addr.add (Addr.add (⟨b0, 0, none⟩) 1) (Int.toNat i * 1)) fun n0 =>
      cond (r8 != n0)
      (Ret (.bool true) (Sat (HeapH H v b :: G)) (.returned (.bool false)) w4)
      (k0 w4))))) := by
    intro A B C D w h hD
    refine (href_c h hx i).mono ?_
    rintro e w3 ⟨rfl, h3⟩
    refine ⟨_, _, rfl, ?_⟩
    refine (hword_c h3 hx i).mono ?_
    rintro e w4 ⟨rfl, h4⟩
    refine ⟨_, _, rfl, ?_⟩
    refine (hroot_c h4 i).mono ?_
    rintro e w5 ⟨rfl, h5⟩
    refine ⟨_, _, rfl, ?_⟩
    intro k0 hk0
    have hk3 := hk0 w5 (hgo h5 hD rfl rfl)
    unfold Hp.root
    by_cases h0 : i < 0
    · rw [if_neg (by omega)]
      exact cond_t (by simpa using h0) (cond_f rfl (cond_f rfl hk3))
    refine cond_f (by simpa using h0) ?_
    by_cases h15 : 15 < i
    · rw [if_neg (by omega)]
      exact cond_t (by simpa using h15) (cond_f rfl (cond_f rfl hk3))
    refine cond_f (by simpa using h15) ?_
    obtain ⟨j, rfl⟩ := Int.eq_ofNat_of_zero_le (Int.not_lt.1 h0)
    rw [if_pos (by omega)]
    refine cond_f rfl (IdxF.of (by omega) (by omega) ?_)
    have hrl := hm.rlen
    have hj : H.roots[j]? = some (H.roots.getD j 0) := by rw [List.getD_eq_getElem?_getD, List.getElem?_eq_getElem (by omega)]; rfl
    have hcell : r.cells[1 + j]? = some (.int .u64 (H.roots.getD j 0 : Nat)) := by
      unfold Rh.cells
      rw [Nat.add_comm, List.getElem?_cons_succ, hM.roots]
      unfold words
      rw [List.getElem?_map, hj]
      rfl
    refine LdI.of h5 1 rfl (off := 1 + j) hcell (by rw [add_mk, add_mk]; simp) ?_
    exact cond_f (by simp) hk3
  cases hlk : H.look x with
  | none => exact ⟨_, _, _, _, rfl, rest (A := 0) (B := 0) (C := 0) (D := 6) h2 (by rw [hlk]; exact ⟨rfl, rfl, rfl, rfl⟩)⟩
  | some o => exact ⟨_, _, _, _, rfl, rest (A := o.tag) (B := o.refs) (C := o.w.length) (D := 0) h2 (by rw [hlk]; exact ⟨rfl, rfl, rfl, rfl⟩)⟩
end
end Go.Proofs.Ytdfdmboljidhnaa
