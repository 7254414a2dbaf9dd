
/- 'HeapFull' answers true: as many objects are made as there is room for; one more is refused and changes nothing. No conditions. -/
import Derived.Test.YtagnepjmgkoboaaCk
set_option maxRecDepth 100000
namespace Go.Proofs.Ytagnepjmgkoboaa
open Go Go.Lw Go.Wd Go.Am Go.Tb Go.Hm Go.ChangeShapes Go.WideShapes Go.ChangeAt Go.RowKit

theorem iMin_nat (a b : Nat) : iMin (a : Int) (b : Int) = ((min a b : Nat) : Int) := by unfold iMin; split <;> omega
/-- objects of one size, without refs. -/
structure FuB (n s k i : Nat) (H : Hp) : Prop where
  n : H.m.n = n
  tn : H.t.n = s
  op : H.m.op = false
  top : H.m.top = i * (k + 1)
  cnt : H.t.count = i
  refs : ∀ x o, H.look x = some o → o.refs = 0
  roots : ∀ x ∈ H.roots, H.may x = true
theorem FuB.closed {n s k i : Nat} {H : Hp} (h : FuB n s k i H) : H.Closed := by
  refine ⟨h.roots, fun x y hy => ?_⟩
  unfold refsOf at hy
  split at hy
  · rename_i o ho; rw [h.refs x o ho] at hy; simp at hy
  · cases hy
theorem FuB.step {n s k i j : Nat} {H : Hp} (hm : H.WF) (h : FuB n s k i H) (hc : i < s) (tag : Nat) : FuB n s k (i + 1) ((H.made tag 0 k).rooted j (nextH H.t)) := by
  have hnf := not_full hm (by rw [h.cnt, h.tn]; exact hc)
  have hlk := made_look hm (tag := tag) (refs := 0) (size := k) hnf
  have hmay : ∀ x, H.may x = true → (H.made tag 0 k).may x = true := fun x hx => by
    unfold Hp.may at hx ⊢
    rw [hlk]
    by_cases e : x = nextH H.t
    · rw [if_pos e]; simp
    · rw [if_neg e]; exact hx
  refine ⟨?_, (make_n _ _).trans h.tn, ?_, ?_, (count_make hm.tab).trans (by rw [h.cnt]), fun x o ho => ?_, fun x hx => ?_⟩
  · have := h.n; unfold Hp.rooted Hp.made Am.alloc; cases hop : H.m.op <;> simpa using this
  · have := h.op; unfold Hp.rooted Hp.made Am.alloc; cases hop : H.m.op <;> simp_all
  · have : ((H.made tag 0 k).rooted j (nextH H.t)).m.top = (H.made tag 0 k).m.top := rfl
    rw [this, made_top hm, h.top, Nat.add_mul]; omega
  · rw [rooted_look, hlk] at ho
    split at ho
    · cases ho; rfl
    · exact h.refs x o ho
  · have e : ∀ y, ((H.made tag 0 k).rooted j (nextH H.t)).may y = (H.made tag 0 k).may y := fun y => rfl
    rw [e]
    rcases List.mem_or_eq_of_mem_set hx with hx | rfl
    · exact hmay x (h.roots x hx)
    · unfold Hp.may; rw [hlk, if_pos rfl]; simp

theorem full_c (W : World) (words slots size : Int) : Calls Try.prog 5 #[.int .i64 words, .int .i64 slots, .int .i64 size] W fun e W' => e = .returned (.bool true) ∧ Below W.heap.size W W' := by
  refine S_law9_HeapFull_ok _ _ _ _ _ ?_
  unfold S_law9_HeapFull
  refine (awake_c (Sat.ofBase W)).mono ?_
  rintro e w1 ⟨rfl, s1⟩
  refine ⟨_, rfl, cond_f rfl ?_⟩
  obtain ⟨x, hx, hxe⟩ := bAnd_le words 1023 (by omega)
  have hxe : bAnd .i64 words 1023 = (x : Int) := hxe
  obtain ⟨y, hy, hye⟩ := bAnd_le slots 127 (by omega)
  have hye : bAnd .i64 slots 127 = (y : Int) := hye
  obtain ⟨k, hk, hke⟩ := bAnd_le size 31 (by omega)
  have hke : bAnd .i64 size 31 = (k : Int) := hke
  have hn : IntKind.wrap .i64 (1 + bAnd .i64 words 1023) = ((x + 1 : Nat) : Int) := by rw [hxe, wrapI64 (by omega) (by omega)]; omega
  have hs : IntKind.wrap .i64 (1 + bAnd .i64 slots 127) = ((y + 1 : Nat) : Int) := by rw [hye, wrapI64 (by omega) (by omega)]; omega
  have hk1 : IntKind.wrap .i64 (bAnd .i64 size 31 + 1) = ((k + 1 : Nat) : Int) := by rw [hke, wrapI64 (by omega) (by omega)]; omega
  have hq : ∀ n : Nat, n ≤ 1024 → IntKind.wrap .i64 (Int.tdiv (n : Int) ((k + 1 : Nat) : Int)) = ((n / (k + 1) : Nat) : Int) := fun n hn => by
    have := Nat.div_le_self n (k + 1)
    rw [tdiv_nat]
    generalize n / (k + 1) = z at this ⊢
    rw [wrapI64 (by omega) (by omega)]
  unfold S_law9_HeapFull_l0
  rw [hn, hs, hk1, hq _ (by omega), iMin_nat, hke]
  refine (fresh_c (n := x + 1) (k := y + 1) (by omega) (by omega) (by omega) (by omega) s1).mono ?_
  rintro e w2 ⟨b, rfl, s2⟩
  refine ⟨_, rfl, cond_f rfl ⟨by omega, ?_⟩⟩
  have hmost : min ((x + 1) / (k + 1)) (y + 1) * (k + 1) ≤ x + 1 := Nat.le_trans (Nat.mul_le_mul_right _ (Nat.min_le_left _ _)) (Nat.div_mul_le_self _ _)
  have hms : min ((x + 1) / (k + 1)) (y + 1) ≤ y + 1 := Nat.min_le_right _ _
  have hlast : x + 1 < (min ((x + 1) / (k + 1)) (y + 1) + 1) * (k + 1) ∨ min ((x + 1) / (k + 1)) (y + 1) = y + 1 := by
    by_cases h : (x + 1) / (k + 1) ≤ y + 1
    · rw [Nat.min_eq_left h]
      exact .inl (by have := Nat.lt_div_mul_add (a := x + 1) (b := k + 1) (by omega); rw [Nat.add_mul]; omega)
    · rw [Nat.min_eq_right (by omega)]; exact .inr rfl
  generalize min ((x + 1) / (k + 1)) (y + 1) = most at *
  refine ⟨fun i w => ∃ (j : Nat) (H : Hp), i = j ∧ j ≤ most ∧ FuB (x + 1) (y + 1) k j H ∧ Sat [HeapH H .nilIface b, Base W] w, fun i _ => (most - i).toNat, ⟨0, _, rfl, by omega, ⟨rfl, rfl, rfl, by simp [Hp.new, Am.new, Am.top, osz], rfl, fun x o h => (by rw [new_look] at h; cases h), fun x h => (by rw [List.eq_of_mem_replicate h]; rfl)⟩, s2⟩, ?_⟩
  rintro i w3 ⟨j, H, rfl, hj, hF, s3⟩
  have hm := sat_wf s3
  have h1 := hF.n; have h2 := hF.tn; have h3 := hF.top; have h4 := hF.cnt
  by_cases hlt : j < most
  · refine cond_t (by simp; omega) ?_
    obtain ⟨t, ht, hte⟩ := bAnd_le (j : Int) 127 (by omega)
    have hte : bAnd .i64 (j : Int) 127 = (t : Int) := hte
    obtain ⟨q, hq, hqe⟩ := bAnd_le (j : Int) 15 (by omega)
    have hqe : bAnd .i64 (j : Int) 15 = (q : Int) := hqe
    rw [hte, hqe, wrapI64 (by omega) (by omega)]
    have hfit : H.m.top + 1 + k ≤ H.m.n := by
      rw [h3, h1]
      have : (j + 1) * (k + 1) ≤ most * (k + 1) := Nat.mul_le_mul_right _ hlt
      rw [Nat.add_mul] at this
      omega
    have hnf := not_full hm (by omega)
    have e1 : (1 + (t : Int)) = ((1 + t : Nat) : Int) := by omega
    rw [e1]
    refine (mk_c s3 (tag := 1 + t) (refs := 0) (size := k) (makeE_of (by omega) (by omega) (by omega) hfit (by omega))).mono ?_
    rintro e w4 ⟨rfl, s4⟩
    have hp := next_pos H.t
    refine ⟨_, _, rfl, cond_f rfl (cond_f (by simpa using hp) ?_)⟩
    have hlk := made_look hm (tag := 1 + t) (refs := 0) (size := k) hnf (nextH H.t)
    rw [if_pos rfl] at hlk
    refine (srt_c s4 (i := q) (by omega) rfl (next_u64 hm hnf) (may_of hlk)).mono ?_
    rintro e w5 ⟨rfl, s5⟩
    refine ⟨_, rfl, cond_f rfl ?_⟩
    rw [wrapI64 (by omega) (by omega)]
    exact ⟨⟨j + 1, _, by omega, by omega, hF.step hm (by omega) (1 + t), s5⟩, by first | omega | (dsimp only; omega)⟩
  · have hjm : j = most := by omega
    subst hjm
    refine cond_f (by simp) ?_
    have hE : Hp.makeE H 1 0 (k : Int) = 5 := by
      unfold Hp.makeE
      rw [if_pos (by omega), if_pos]
      rcases hlast with h | h
      · left; rw [Nat.add_mul] at h; omega
      · right; omega
    refine (make_no s3 (tag := 1) (refs := 0) (size := (k : Int)) (by rw [hE]; decide)).mono ?_
    rw [hE]
    rintro e w4 ⟨rfl, s4⟩
    refine ⟨_, _, rfl, cond_t rfl (cond_t rfl ?_)⟩
    refine (htable_c s4).mono ?_
    rintro e w5 ⟨rfl, ba, bt, rfl, s5⟩
    refine ⟨_, rfl, ?_⟩
    refine (count_c (s5.pull 2 rfl)).mono ?_
    rintro e w5 ⟨rfl, rfl⟩
    refine ⟨_, rfl, cond_t (by simp [h4]) ?_⟩
    refine (harena_c s4).mono ?_
    rintro e w5 ⟨rfl, ba, bt, rfl, s6⟩
    refine ⟨_, rfl, ?_⟩
    refine (top2 (s6.pull 1 rfl)).mono ?_
    rintro e w5 ⟨rfl, rfl⟩
    have hjb : j * (k + 1) ≤ 1024 := by omega
    have hcast : ((j : Int) * ((k + 1 : Nat) : Int)) = ((j * (k + 1) : Nat) : Int) := by rw [Int.natCast_mul]
    refine ⟨_, rfl, cond_t (by rw [hcast, wrapI64 (by omega) (by omega), h3]; simp) ?_⟩
    refine (check_c s4 hF.closed hF.op).mono ?_
    rintro e w6 ⟨rfl, s7⟩
    exact ⟨_, rfl, rfl, s7.below 1 rfl⟩

set_option maxRecDepth 100000 in
theorem full_lifted (os : Os) (started : os.Started) (H : Type) (enc : TypeId × Value → H) :
    ReturnsInHanded {} Try.checked os 5 .any (Rows.heapFullSpec.pre6 enc Try.prog Try.f5 Rows.heapFullRow.domain false) (Rows.heapFullSpec.post enc Try.prog Try.f5 false true false false) := by
  refine returnsInHanded_of_change (C := Try.checked) own started (by kernel_rfl) Try.func5
    (ChangeSpec.witness6 (enc := enc) (C := Try.checked) false ⟨#[], #[.int .i64 0, .int .i64 0, .int .i64 0], []⟩ 8 (by kernel_rfl) (by kernel_rfl) (by kernel_rfl) (by kernel_rfl)) ?_
  intro W base args ds gs before hval hW hcnd _
  have hval : ∀ (j : Nat) t v, Try.f5.params[j]? = some t → args[j]? = some v → Value.okWide Try.prog W .any base t v := hval
  have hW' : DataW.Whole enc Try.prog Try.f5.params.toList Rows.heapFullSpec.vars false W args.toList ds gs before := hW
  obtain ⟨p, q, hA, hV, _⟩ := hW'
  rw [Try.params5] at hA hval
  obtain ⟨v0, v1, v2, d0, d1, d2, p0, p1, p2, rfl, rfl, rfl, h0, h1, h2⟩ := trodAll_three hA
  obtain ⟨n0, rfl, rfl, rfl, wn0⟩ := open_int Try.underlying3 (hval 0 3 v0 rfl rfl) h0
  obtain ⟨n1, rfl, rfl, rfl, wn1⟩ := open_int Try.underlying3 (hval 1 3 v1 rfl rfl) h1
  obtain ⟨n2, rfl, rfl, rfl, wn2⟩ := open_int Try.underlying3 (hval 2 3 v2 rfl rfl) h2
  refine (full_c W n0 n1 n2).mono fun e W' ⟨he, hs⟩ => ?_
  exact ⟨_, he, law_post (tb := 4) laidOut (by decide +kernel) (by kernel_rfl) Try.underlying4 rfl hW ⟨rfl, rfl, rfl⟩ hs⟩

theorem full_holds : Rows.HeapFullSaid :=
  OpenClaim.holds_of_wide 5 Try.f5 rfl rfl rfl rfl rfl rfl rfl ⟨rfl, rfl, rfl, rfl, rfl⟩ rfl rfl rfl rfl rfl (by kernel_rfl) Try.func5 (by kernel_rfl)
    (of_decide_eq_true (by kernel_rfl)) (by unfold Func.isWrapper; first | (rw [if_pos (by decide +kernel)]; kernel_rfl) | (rw [if_neg (by decide +kernel)]; exact ⟨rfl, rfl⟩))
    (fun os started H enc _ => full_lifted os started H enc)
end Go.Proofs.Ytagnepjmgkoboaa
