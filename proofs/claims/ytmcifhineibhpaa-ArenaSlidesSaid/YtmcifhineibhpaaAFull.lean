/- 'ArenaFull' answers true: as many objects of one size are made as fit, twice over. No conditions. -/
import Derived.Test.YtmcifhineibhpaaAKeeps
namespace Go.Proofs.Ytmcifhineibhpaa
open Go Go.Lw Go.Tb Go.Wd Go.Am Go.ChangeShapes Go.WideShapes Go.ChangeAt Go.RowKit

theorem osz_same {k : Nat} : ∀ {os : List Ob}, (∀ o ∈ os, o.w.length = k) → osz os = os.length * (k + 1)
  | [], _ => by simp [osz]
  | p :: l, h => by
    have h1 := h p List.mem_cons_self
    have h2 := osz_same (os := l) fun o ho => h o (List.mem_cons_of_mem _ ho)
    simp only [osz, List.length_cons, Nat.succ_mul, h1, h2]
    omega

theorem full_c (W : World) (words size : Int) :
    Calls Try.prog 4 #[.int .i64 words, .int .i64 size] W (Ret (.bool true) (Go.RowKit.Below W.heap.size W)) := by
  refine S_law7_ArenaFull_ok _ _ _ _ ?_
  unfold S_law7_ArenaFull
  refine (awake_c (Sat.ofBase W)).mono ?_
  rintro e w0 ⟨rfl, h0⟩
  refine ⟨_, rfl, cond_f rfl ?_⟩
  obtain ⟨x, hx, hxe⟩ := bAnd_le words 1023 (by omega)
  have hxe : bAnd .i64 words 1023 = (x : Int) := hxe
  obtain ⟨k, hk, hke⟩ := bAnd_le size 63 (by omega)
  have hke : bAnd .i64 size 63 = (k : Int) := hke
  have hn : IntKind.wrap .i64 (1 + bAnd .i64 words 1023) = ((x + 1 : Nat) : Int) := by rw [hxe, wrapI64 (by omega) (by omega)]; omega
  have hk1 : IntKind.wrap .i64 (bAnd .i64 size 63 + 1) = ((k + 1 : Nat) : Int) := by rw [hke, wrapI64 (by omega) (by omega)]; omega
  rw [hn]
  generalize x + 1 = n at *
  have hn1 : 1 ≤ n ∧ n ≤ 1024 := by
    have h : (n : Int) = IntKind.wrap .i64 (1 + bAnd .i64 words 1023) := hn.symm
    rw [hxe, wrapI64 (by omega) (by omega)] at h
    omega
  refine (fresh_c (n := n) (by omega) (by omega) h0).mono ?_
  rintro e w1 ⟨b, rfl, h1⟩
  refine ⟨_, rfl, cond_f rfl ?_⟩
  have hq : IntKind.wrap .i64 (Int.tdiv (n : Int) ((k + 1 : Nat) : Int)) = ((n / (k + 1) : Nat) : Int) := by
    have := Nat.div_le_self n (k + 1)
    rw [tdiv_nat]
    generalize n / (k + 1) = z at this ⊢
    rw [wrapI64 (by omega) (by omega)]
  have hqn : n / (k + 1) * (k + 1) ≤ n := Nat.div_mul_le_self n (k + 1)
  have hqm : n / (k + 1) * (k + 1) + n % (k + 1) = n := by rw [Nat.mul_comm]; exact Nat.div_add_mod n (k + 1)
  have hqr : n % (k + 1) < k + 1 := Nat.mod_lt _ (by omega)
  have hmul : ∀ j : Nat, j ≤ n / (k + 1) → j * (k + 1) ≤ n := fun j hj => Nat.le_trans (Nat.mul_le_mul_right _ hj) hqn
  have hqle : n / (k + 1) ≤ n := Nat.div_le_self n (k + 1)
  have hmi : ∀ j : Nat, j ≤ n / (k + 1) → IntKind.wrap .i64 ((j : Int) * ((k + 1 : Nat) : Int)) = ((j * (k + 1) : Nat) : Int) := fun j hj => by
    have := hmul j hj
    have e : (j : Int) * ((k + 1 : Nat) : Int) = ((j * (k + 1) : Nat) : Int) := (Int.natCast_mul _ _).symm
    rw [e, wrapI64 (by omega) (by omega)]
  generalize hqq : n / (k + 1) = q at hq hqn hqm hmul hqle hmi
  -- two rounds
  refine ⟨fun r w => ∃ r' : Nat, r = r' ∧ r' ≤ 2 ∧ Sat [Arena (Am.flat n []) b, Base W] w, fun r _ => (2 - r).toNat, ⟨0, rfl, by omega, h1⟩, ?_⟩
  rintro r w2 ⟨r, rfl, hr, h2⟩
  unfold S_law7_ArenaFull_l2
  by_cases hr2 : r < 2
  case neg => exact cond_f (by simp; omega) ⟨rfl, h2.below 1 rfl⟩
  refine cond_t (by simp; omega) ?_
  -- it is filled
  refine ⟨fun i w => ∃ os : List Ob, i = os.length ∧ os.length ≤ q ∧ (∀ o ∈ os, o.w.length = k) ∧ Sat [Arena (Am.flat n os) b, Base W] w, fun i _ => (q - i).toNat, ⟨[], rfl, by simp, fun o h => by simp at h, h2⟩, ?_⟩
  rintro i w3 ⟨os, rfl, hlq, hall, h3⟩
  unfold S_law7_ArenaFull_l1
  rw [hk1, hn, hq, hke]
  have hos := osz_same hall
  have hosq := hmul _ hlq
  refine ⟨by omega, ?_⟩
  by_cases hlt : os.length < q
  · refine cond_t (by simp; omega) ?_
    obtain ⟨ow, how, howe⟩ := bAnd_le (os.length : Int) 1023 (by omega)
    have howe : bAnd .i64 (os.length : Int) 1023 = (ow : Int) := howe
    rw [howe]
    have hroom := hmul (os.length + 1) hlt
    rw [Nat.succ_mul] at hroom
    refine (alloc2 h3 (tag := 7) (refs := 0) (size := k) (owner := ow) (by unfold Fit; omega) (by rw [flat_top, hos]; show _ ≤ n; omega)).mono ?_
    rintro e w4 ⟨rfl, h4⟩
    rw [flat_top, hos, hmi _ hlq]
    refine ⟨_, _, rfl, cond_f rfl (cond_f (by simp) ?_)⟩
    rw [wrapI64 (by omega) (by omega)]
    refine ⟨⟨os ++ [Ob.fresh 7 0 k ow], by simp, by simp; omega, fun o ho => ?_, h4⟩, by first | omega | (dsimp only; omega)⟩
    rcases List.mem_append.1 ho with ho | ho
    · exact hall o ho
    · rw [List.mem_singleton.1 ho]; simp [Ob.fresh]
  have hlen : os.length = q := by omega
  refine cond_f (by simp; omega) ?_
  rw [hlen] at hos
  refine (alloc2_full h3 (tag := 7) (refs := 0) (size := k) (owner := 0) (by unfold Fit; omega) (by rw [flat_top, hos]; show (n : Int) < _; omega)).mono ?_
  rintro e w5 ⟨rfl, h5⟩
  refine ⟨_, _, rfl, fun _ => True, trivial, cond_f rfl ⟨by omega, ?_⟩⟩
  refine (free2 h5.drew).mono ?_
  rintro e w6 ⟨rfl, h6⟩
  refine ⟨_, rfl, trivial, ?_⟩
  have hfr : (Am.flat n os).n - (Am.flat n os).top = n % (k + 1) := by rw [flat_top, hos]; show n - _ = _; omega
  rw [hfr, tmod_nat]
  refine cond_f (by simp) ?_
  refine (open2 h6).mono ?_
  intro e w7 hp
  rw [if_neg (by simp [Am.flat])] at hp
  obtain ⟨rfl, h7⟩ := hp
  refine ⟨_, rfl, trivial, cond_f rfl ?_⟩
  -- it is emptied
  refine ⟨fun i w => ∃ (j : Nat) (l : List Ob), i = j ∧ j + l.length = q ∧ (∀ o ∈ l, o.w.length = k) ∧ Sat [Arena ⟨n, [], l, j * (k + 1), true⟩ b, Base W] w, fun i _ => (q - i).toNat, ⟨0, os, rfl, by omega, hall, ?_⟩, ?_⟩
  · have e1 : (Am.flat n os).opened = ⟨n, [], os, 0 * (k + 1), true⟩ := by rw [Nat.zero_mul]; rfl
    rw [e1] at h7
    exact h7
  clear h3 h5 h6 h7
  rintro i w8 ⟨j, l, rfl, hjl, hal, h8⟩
  unfold S_law7_ArenaFull_l0
  rw [hk1, hn, hq]
  refine ⟨by omega, ?_⟩
  cases l with
  | cons o l =>
    have hjq : j < q := by simp at hjl; omega
    have hol := hal o List.mem_cons_self
    refine cond_t (by simp; omega) ?_
    refine (skip2 h8 rfl).mono ?_
    rintro e w9 ⟨rfl, h9⟩
    have hmj := hmi j (by omega)
    rw [hmj]
    refine ⟨_, _, rfl, cond_f rfl (cond_f (by simp) ?_)⟩
    rw [wrapI64 (by omega) (by omega)]
    refine ⟨⟨j + 1, l, by omega, by simp at hjl; omega, fun o ho => hal o (List.mem_cons_of_mem _ ho), ?_⟩, by first | omega | (dsimp only; omega)⟩
    have e1 : (Am.mk n [] (o :: l) (j * (k + 1)) true).skip = ⟨n, [], l, (j + 1) * (k + 1), true⟩ := by
      rw [Am.skip_eq rfl]
      dsimp only
      rw [hol, Nat.succ_mul j]
      congr 1
      omega
    rw [e1] at h9
    exact h9
  | nil =>
    have hjq : j = q := by simpa using hjl
    refine cond_f (by simp; omega) ?_
    refine (close2 h8).mono ?_
    intro e w10 hp
    rw [if_pos rfl, if_pos rfl] at hp
    obtain ⟨rfl, h10⟩ := hp
    refine ⟨_, rfl, cond_f rfl ?_⟩
    have h10 : Sat [Arena (Am.flat n []) b, Base W] w10 := h10
    refine (top2 h10).mono ?_
    rintro e w11 ⟨rfl, rfl⟩
    refine ⟨_, rfl, cond_f rfl ?_⟩
    refine (free2 h10).mono ?_
    rintro e w12 ⟨rfl, h12⟩
    have hf0 : (Am.flat n []).n - (Am.flat n []).top = n := by rw [flat_top]; show n - 0 = n; omega
    rw [hf0]
    refine ⟨_, rfl, cond_f (by simp) ?_⟩
    rw [wrapI64 (by omega) (by omega)]
    exact ⟨⟨r + 1, by omega, by omega, h12⟩, by first | omega | (dsimp only; omega)⟩

set_option maxRecDepth 100000 in
theorem full_lifted (os : Os) (started : os.Started) (H : Type) (enc : TypeId × Value → H) :
    ReturnsInHanded {} Try.checked os 4 .any (Rows.arenaFullSpec.pre6 enc Try.prog Try.f4 Rows.arenaFullRow.domain false) (Rows.arenaFullSpec.post enc Try.prog Try.f4 false true false false) := by
  refine returnsInHanded_of_change (C := Try.checked) own started (by kernel_rfl) Try.func4
    (ChangeSpec.witness6 (enc := enc) (C := Try.checked) false ⟨#[], #[.int .i64 0, .int .i64 0], []⟩ 8 (by kernel_rfl) (by kernel_rfl) (by kernel_rfl) (by kernel_rfl)) ?_
  intro W base args ds gs before hval hW hcnd _
  have hval : ∀ (j : Nat) t v, Try.f4.params[j]? = some t → args[j]? = some v → Value.okWide Try.prog W .any base t v := hval
  have hW' : DataW.Whole enc Try.prog Try.f4.params.toList Rows.arenaFullSpec.vars false W args.toList ds gs before := hW
  obtain ⟨p, q, hA, hV, _⟩ := hW'
  rw [Try.params4] at hA hval
  obtain ⟨v0, v1, d0, d1, p0, p1, rfl, rfl, rfl, h0, h1⟩ := trodAll_two hA
  obtain ⟨n0, rfl, rfl, rfl, wn0⟩ := open_int Try.underlying3 (hval 0 3 v0 rfl rfl) h0
  obtain ⟨n1, rfl, rfl, rfl, wn1⟩ := open_int Try.underlying3 (hval 1 3 v1 rfl rfl) h1
  refine (full_c W n0 n1).mono fun e W' ⟨he, hs⟩ => ?_
  exact ⟨_, he, law_post (tb := 4) laidOut (by decide +kernel) (by kernel_rfl) Try.underlying4 rfl hW ⟨rfl, rfl, rfl⟩ hs⟩

theorem full_holds : Rows.ArenaFullSaid :=
  OpenClaim.holds_of_wide 4 Try.f4 rfl rfl rfl rfl rfl rfl rfl ⟨rfl, rfl, rfl, rfl, rfl⟩ rfl rfl rfl rfl rfl (by kernel_rfl) Try.func4 (by kernel_rfl)
    (of_decide_eq_true (by kernel_rfl)) (by unfold Func.isWrapper; first | (rw [if_pos (by decide +kernel)]; kernel_rfl) | (rw [if_neg (by decide +kernel)]; exact ⟨rfl, rfl⟩))
    (fun os started H enc _ => full_lifted os started H enc)
end Go.Proofs.Ytmcifhineibhpaa
