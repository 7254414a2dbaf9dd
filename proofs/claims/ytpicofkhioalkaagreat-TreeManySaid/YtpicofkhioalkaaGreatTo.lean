
/- What node, newKey, set and topped come to. -/
import Derived.Test.YtpicofkhioalkaaGreatTn
set_option maxRecDepth 100000
namespace Go.Proofs.YtpicofkhioalkaaGreat
open Go Go.Lw Go.Wd Go.Am Go.Tb Go.Hm Go.Kd Go.Td

theorem trv_ld {L : List HP} {w : World} {d b t : Nat} (h : Sat L w) (k : Nat) (hk : L[k]? = some (Row d (trc b t) 73)) :
    LdP w (⟨d, 0, none⟩) fun p => LdI .u64 w (Addr.add (⟨d, 0, none⟩) 1) fun n => Value.agg #[.pointer p, .int .u64 n] = .agg #[.pointer (some ⟨b, 0, none⟩), .int .u64 (t : Int)] :=
  LdP.of h k hk (off := 0) rfl rfl (LdI.of h k hk (off := 1) rfl (add_mk _ _ _) rfl)

section
variable {v : Value} {b : Nat} {E : Eng v b} {s : E.σ} {F : List HP} {w : World}
theorem Eng.Mv.some {s s' : E.σ} {k m : Nat} (h : E.Mv s s' k m) {y : Nat} (hy : y = 0 ∨ E.ok s y) : y = 0 ∨ E.ok s' y := hy.imp id (h.ok y)
theorem node_c (hs : Sat (E.S s F) w) (hi : E.inv s) (t : Nat) {inner : Bool} {l : List (Nat × Nat)} (hl : l.length ≤ 12)
    (hok : ∀ p ∈ l, (p.1 = 0 ∨ E.ok s p.1) ∧ (p.2 = 0 ∨ E.ok s p.2)) (h4 : (E.H s).m.top + 26 ≤ (E.H s).m.n) (h5 : (E.H s).t.count < (E.H s).t.n) {p : Option Addr} {n c : Nat} (hn : n = l.length) (hr : RdP F p l) :
    Calls Tryz.prog 99 #[trv b t, .slice p n c, .bool inner] w fun e w' =>
      ∃ (s' : E.σ) (x : Nat), e = .returned (.int .u64 (x : Int)) ∧ E.Mv s s' 1 26 ∧ x ≠ 0 ∧ E.ov s x = none ∧ E.ok s' x ∧ E.ov s' = updO (E.ov s) x (nodeO inner l) ∧ Sat (E.S s' F) w' := by
  subst hn
  refine S_tree_tree_node_ok _ _ _ _ _ _ _ _ ?_
  unfold S_tree_tree_node
  refine NewC.ofRow hs fun d w1 h1 => ?_
  have h2 : Sat (E.S s (Row d (trc b t) 73 :: F)) w1 := inS h1
  intro k0 hk0
  have key : ∀ tag : Nat, tag = (if inner then 22 else 21) → k0 (tag : Int) w1 := by
    intro tag ht
    refine hk0 _ _ ?_
    unfold S_tree_tree_node_j0
    refine LdP.of h2 2 rfl (off := 0) rfl rfl ?_
    refine emk_c h2 hi (tag := tag) (refs := 24) (size := 25) (by subst ht; cases inner <;> decide) (by omega) (by omega) (by omega) h5 ?_
    intro s' x w2 m1 x0 xl xn xk xo h3
    refine ⟨_, _, rfl, ?_⟩
    refine (must_c 5 (by rfl)).mono ?_
    rintro e w3 ⟨rfl, rfl⟩
    refine ⟨rfl, ?_⟩
    refine LdP.of h3 2 rfl (off := 0) rfl rfl (LdI.of h3 2 rfl (off := 1) rfl (add_mk _ _ _) ?_)
    have hrF : RdP (Row d (trc b t) 73 :: F) p l := ⟨fun w h => hr.reads w h.drop, hr.some⟩
    refine (write_c h3 m1.inv t (x := x) (tag := tag) (ws := List.replicate 25 0) (by rw [xo, updO_self]) (by simp) xk hl (fun q hq => ⟨m1.some (hok q hq).1, m1.some (hok q hq).2⟩) rfl hrF).mono ?_
    rintro e w4 ⟨s2, rfl, m2, o2, h4⟩
    refine ⟨rfl, s2, x, rfl, by simpa using m1.trans m2, x0, xn, m2.ok x xk, ?_, (outS h4).drop⟩
    rw [o2, xo, updO_updO]
    unfold nodeO
    rw [← ht]
  cases inner
  · exact cond_f rfl (key 21 rfl)
  · exact cond_t rfl (key 22 rfl)

theorem newKey_c (hs : Sat (E.S s F) w) (hi : E.inv s) (t : Nat) {x : K} (hx : x.length ≤ 16384) (h4 : (E.H s).m.top + 2 + nWords x ≤ (E.H s).m.n) (h5 : (E.H s).t.count < (E.H s).t.n) :
    Calls Tryz.prog 100 #[trv b t, .string (str x)] w fun e w' =>
      ∃ (s' : E.σ) (k : Nat), e = .returned (.int .u64 (k : Int)) ∧ E.Mv s s' 1 (2 + nWords x) ∧ k ≠ 0 ∧ E.ov s k = none ∧ E.ok s' k ∧ E.ov s' = updO (E.ov s) k (keyO x) ∧ Sat (E.S s' F) w' := by
  refine S_tree_tree_newKey_ok _ _ _ _ _ ?_
  unfold S_tree_tree_newKey
  have hlen := packW_len x
  have hnw : nWords x ≤ 2048 := by unfold nWords; omega
  refine NewC.ofRow hs fun d w1 h1 => ?_
  refine (tpacked_c (by omega) h1).mono ?_
  rintro e w2 ⟨p, c, rfl, h2⟩
  refine ⟨_, _, _, rfl, ?_⟩
  have h3 : Sat (E.S s (Row d (trc b t) 73 :: Own 32 1 p (packW x).length c (words (packW x)) :: F)) w2 := (h2.p1.pull 3 rfl).pull 3 rfl
  refine LdP.of h3 2 rfl (off := 0) rfl rfl ?_
  have e1 : ((((packW x).length : Nat)) : Int) = ((1 + nWords x : Nat) : Int) := by rw [hlen]
  rw [e1]
  refine emk_c h3 hi (tag := 23) (refs := 0) (size := 1 + nWords x) (by omega) (by omega) (by omega) (by omega) h5 ?_
  intro s1 k w3 m1 x0 xl xn xk xo h4
  refine ⟨_, _, rfl, ?_⟩
  refine (must_c 5 (by rfl)).mono ?_
  rintro e w4 ⟨rfl, rfl⟩
  refine ⟨rfl, ?_⟩
  have hrl : (List.replicate (1 + nWords x) 0).length = 1 + nWords x := by simp
  refine ⟨fun n w' => ∃ i s', n = (i : Nat) ∧ i ≤ 1 + nWords x ∧ E.Mv s s' 1 (2 + nWords x) ∧ E.ok s' k ∧ E.ov s' = updO (E.ov s) k ⟨23, 0, mixW (packW x) (List.replicate (1 + nWords x) 0) i⟩ ∧
      Sat (E.S s' (Row d (trc b t) 73 :: Own 32 1 p (packW x).length c (words (packW x)) :: F)) w', fun n _ => (((1 + nWords x : Nat) : Int) - n).toNat,
    ⟨0, s1, rfl, by omega, by have : 2 + nWords x = 1 + (1 + nWords x) := by omega
                              rw [this]; exact m1, xk, xo, h4⟩, ?_⟩
  rintro n w5 ⟨i, s2, rfl, hi2, m2, k2, o2, h5⟩
  unfold S_tree_tree_newKey_l0
  rw [e1]
  by_cases hlt : i < 1 + nWords x
  · refine cond_t (by simp; omega) ?_
    obtain ⟨y, hy⟩ : ∃ y, (packW x)[i]? = some y := ⟨_, List.getElem?_eq_getElem (by omega)⟩
    have hyl : y < 18446744073709551616 := packW_lt x (by omega) y (List.mem_of_getElem? hy)
    refine own_word h5 3 rfl rfl hy rfl ?_
    refine LdP.of h5 2 rfl (off := 0) rfl rfl ?_
    have hml := mix_len (T := packW x) (ws := List.replicate (1 + nWords x) 0) (j := i) (by omega) (by omega)
    refine esw_c h5 m2.inv (i := i) (o := ⟨23, 0, mixW (packW x) (List.replicate (1 + nWords x) 0) i⟩) (by rw [o2, updO_self]) k2 (by show 0 + i < (mixW _ _ _).length; omega) rfl hyl ?_
    intro s3 w6 a1 a2 a3
    refine ⟨_, rfl, ⟨i + 1, s3, by rw [wrapI64 (by omega) (by omega)]; omega, by omega, by simpa using m2.trans a1, a1.ok k k2, ?_, a3⟩, by simp only [wrapI64 (n := (i : Int) + 1) (by omega) (by omega)]; omega⟩
    rw [a2, o2, updO_updO]
    congr 2
    show (mixW _ _ i).set (0 + i) y = _
    rw [Nat.zero_add]
    exact mix_set hy (by omega)
  · have : i = 1 + nWords x := by omega
    subst this
    refine cond_f (by simp) ⟨s2, k, rfl, m2, x0, xn, k2, ?_, (outS (outS h5).drop).drop⟩
    rw [o2]
    unfold keyO mixW
    rw [List.take_of_length_le (by omega), List.drop_eq_nil_of_le (by omega), List.append_nil]

theorem tset_c (hs : Sat (E.S s F) w) (hi : E.inv s) {t : Nat} {top0 n0 d0 top n d : Nat} (ho : E.ov s t = some (treeO top0 n0 d0)) (ht : E.ok s t) (htop : top = 0 ∨ E.ok s top) (hn : n < 9223372036854775808) (hd : d < 9223372036854775808) :
    Calls Tryz.prog 92 #[trv b t, .int .u64 (top : Int), .int .i64 (n : Int), .int .i64 (d : Int)] w fun e w' =>
      ∃ s', e = .returned (.tuple #[]) ∧ E.Mv s s' 0 0 ∧ E.ov s' = updO (E.ov s) t (treeO top n d) ∧ Sat (E.S s' F) w' := by
  refine S_tree_tree_set_ok _ _ _ _ _ _ _ ?_
  unfold S_tree_tree_set
  refine NewC.ofRow hs fun r w1 h1 => ?_
  have h2 : Sat (E.S s (Row r (trc b t) 73 :: F)) w1 := inS h1
  refine LdP.of h2 2 rfl (off := 0) rfl rfl (LdI.of h2 2 rfl (off := 1) rfl (add_mk _ _ _) ?_)
  refine esr_c h2 hi (i := 0) ho ht (by show 0 < 1; omega) rfl htop ?_
  intro s1 w2 m1 o1 h3
  refine ⟨_, rfl, ?_⟩
  refine LdP.of h3 2 rfl (off := 0) rfl rfl (LdI.of h3 2 rfl (off := 1) rfl (add_mk _ _ _) ?_)
  rw [wrapU64 (by omega) (by omega)]
  refine esw_c h3 m1.inv (i := 0) (by rw [o1, updO_self]) (m1.ok _ ht) (by show 1 + 0 < 3; omega) rfl (by omega) ?_
  intro s2 w3 m2 o2 h4
  refine ⟨_, rfl, ?_⟩
  refine LdP.of h4 2 rfl (off := 0) rfl rfl (LdI.of h4 2 rfl (off := 1) rfl (add_mk _ _ _) ?_)
  rw [wrapU64 (by omega) (by omega)]
  refine esw_c h4 m2.inv (i := 1) (by rw [o2, updO_self]) (m2.ok _ (m1.ok _ ht)) (by show 1 + 1 < 3; omega) rfl (by omega) ?_
  intro s3 w4 m3 o3 h5
  refine ⟨_, rfl, s3, rfl, by simpa using (m1.trans m2).trans m3, ?_, (outS h5).drop⟩
  rw [o3, o2, o1, updO_updO, updO_updO]
  rfl
end
end Go.Proofs.YtpicofkhioalkaaGreat
