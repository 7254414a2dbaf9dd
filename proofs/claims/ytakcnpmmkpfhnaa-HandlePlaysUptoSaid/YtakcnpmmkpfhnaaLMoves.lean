/- 'HandleMoves' answers true whatever the input: moved, a handle's number is the new one, and no other one's changes. No conditions. -/
import Derived.Test.YtakcnpmmkpfhnaaLKnown
namespace Go.Proofs.Ytakcnpmmkpfhnaa
open Go Go.Lw Go.Tb Go.ChangeShapes Go.WideShapes Go.ChangeAt Go.RowKit

def ints (l : List Nat) : List Value := l.map fun (n : Nat) => .int .i64 (n : Int)
theorem ints_set (l : List Nat) (i a : Nat) : (ints l).set i (.int .i64 (a : Int)) = ints (l.set i a) := by simp [ints, List.map_set]
theorem ints_get {l : List Nat} {i : Nat} (h : i < l.length) : (ints l)[i]? = some (.int .i64 (l[i] : Int)) := by simp [ints, h]
theorem eok_int : EOK Try.prog 38 3 1 8 := ⟨by kernel_rfl, ⟨_, _, rfl, rfl, rfl, rfl, rfl⟩, by omega⟩
/-- the first n handles. -/
def hs1 (n : Nat) : List Nat := (List.range n).map (hnd 1)
theorem hs1_len (n : Nat) : (hs1 n).length = n := by simp [hs1]
theorem hs1_succ (n : Nat) : hs1 (n + 1) = hs1 n ++ [hnd 1 n] := by simp [hs1, List.range_succ]
theorem hs1_get {n i : Nat} (h : i < n) : (words (hs1 n))[i]? = some (.int .u64 (hnd 1 i : Nat)) := by simp [words, hs1, h]
theorem hnd_lt {i : Nat} (h : i ≤ 4294967) : hnd 1 i < 18446744073709551616 := by unfold hnd; omega

/-- what the rounds' state is: the table, the handles, the numbers wanted. -/
def St (W : World) (k b gw : Nat) (wv : List Nat) (want : List Value) (p : Option Addr) (l c : Nat) (w : World) : Prop :=
  Sat [Own 25 1 p l c (words (hs1 wv.length)), Row gw want 3, Tbl (HT k wv) b, Base W] w

theorem moves_c (W : World) (n : Int) {p : Option Addr} {l c : Nat} {zs : List Int} (hz : ArgI W .i64 p l zs) :
    Calls Try.prog 6 #[.int .i64 n, .slice p l c] W (Ret (.bool true) (Go.RowKit.Below W.heap.size W)) := by
  refine S_law8_HandleMoves_ok _ _ _ _ _ _ ?_
  unfold S_law8_HandleMoves
  refine (awake_c (Sat.ofBase W)).mono ?_
  rintro e w0 ⟨rfl, h0⟩
  refine ⟨_, rfl, cond_f rfl ?_⟩
  obtain ⟨x, hx, hxe⟩ := bAnd_le n 31 (by omega)
  have hxe' : bAnd .i64 n 31 = (x : Int) := hxe
  have hke : IntKind.wrap .i64 (1 + bAnd .i64 n 31) = ((x + 1 : Nat) : Int) := by rw [hxe', wrapI64 (by omega) (by omega)]; omega
  rw [hke]
  generalize hk : x + 1 = k at hke ⊢
  refine (fresh_c (n := k) (by omega) (by omega) h0).mono ?_
  rintro e w1 ⟨b, rfl, h1⟩
  refine ⟨_, rfl, cond_f rfl ?_⟩
  refine RunS.make eok_int #[.int .i64 0] (by kernel_rfl) h1 (by omega) (by omega) (by omega) (by omega) fun gw w2 h2 => ?_
  rw [show (k : Int).toNat * 1 = k * (#[Value.int .i64 0] : Array Value).size by simp, made_rows _ _ (by simp)] at h2
  have hzr : (rowsF k fun _ => (#[Value.int .i64 0] : Array Value).toList) = List.replicate k (Value.int .i64 0) := by
    apply List.ext_getElem?
    intro i
    by_cases hi : i < k
    · have := rowsF_get (s := 1) (f := fun _ => (#[Value.int .i64 0] : Array Value).toList) (fun _ => rfl) hi (j := 0) (by omega)
      simp only [Nat.mul_one, Nat.add_zero] at this
      rw [this]; simp [hi]
    · rw [List.getElem?_eq_none (by rw [rowsF_len (s := 1) (fun _ => rfl)]; omega), List.getElem?_eq_none (by simp; omega)]
  rw [hzr] at h2
  simp only [Int.toNat_natCast]
  -- the handles are made
  refine ⟨fun lp ll lc i w => ∃ wv : List Nat, i = wv.length ∧ wv.length ≤ k ∧ ll = wv.length ∧ (∀ a ∈ wv, a < 65536) ∧ St W k b gw wv (ints wv ++ List.replicate (k - wv.length) (.int .i64 0)) lp ll lc w,
    fun _ _ _ i _ => (k - i).toNat, ⟨[], rfl, by simp, rfl, by simp, ?_⟩, ?_⟩
  · have := h2.ownNil 25 1
    simpa [St, ints, hs1, words, HT, Tab.new] using this
  rintro lp ll lc i w3 ⟨wv, rfl, hk1, rfl, hwv, h3⟩
  unfold S_law8_HandleMoves_l2
  rw [hke]
  by_cases hlt : wv.length < k
  · refine cond_t (by simp; omega) ?_
    have e10 : IntKind.wrap .i64 ((wv.length : Int) * 10) = ((wv.length * 10 : Nat) : Int) := by rw [wrapI64 (by omega) (by omega)]; omega
    rw [e10]
    refine (make_ok (h3.pull 2 rfl) (a := wv.length * 10) (by omega) (ht_full hlt)).mono ?_
    rintro e w4 ⟨rfl, h4⟩
    rw [ht_make] at h4
    have h4 : Sat [Own 25 1 lp wv.length lc (words (hs1 wv.length)), Row gw (ints wv ++ List.replicate (k - wv.length) (.int .i64 0)) 3, Tbl (HT k (wv ++ [wv.length * 10])) b, Base W] w4 := Sat.back 2 (A := Tbl (HT k wv) b) rfl h4
    refine ⟨_, _, rfl, cond_f rfl ?_⟩
    rw [ht_gen, ht_next]
    refine RunS.one eok_u64 h4 0 rfl (by rfl) (by rfl) (by omega) (by simp only [maxLen]; omega) fun p' c' w6 h6 => ?_
    have h6 : Sat [Own 25 1 p' (wv.length + 1) c' (words (hs1 wv.length) ++ [.int .u64 (hnd 1 wv.length : Nat)]), Row gw (ints wv ++ List.replicate (k - wv.length) (.int .i64 0)) 3, Tbl (HT k (wv ++ [wv.length * 10])) b, Base W] w6 := h6
    refine IdxC.of (by omega) (by omega) ?_
    have hil : (ints wv).length = wv.length := by simp [ints]
    obtain ⟨r, hr⟩ : ∃ r, k - wv.length = r + 1 := ⟨k - wv.length - 1, by omega⟩
    refine StC.of h6 1 rfl (off := wv.length) (v0 := .int .i64 0) ?_ (by simp) fun w7 h7 => ?_
    · rw [List.getElem?_append_right (by omega), hil, hr]; simp
    rw [wrapI64 (by omega) (by omega)]
    refine ⟨⟨wv ++ [wv.length * 10], by simp, by simp; omega, by simp, ?_, ?_⟩, by dsimp only; omega⟩
    · intro a ha
      rcases List.mem_append.1 ha with ha | ha
      · exact hwv a ha
      · simp at ha; omega
    · have e1 : (ints wv ++ List.replicate (k - wv.length) (Value.int .i64 0)).set wv.length (.int .i64 ((wv.length * 10 : Nat) : Int)) = ints (wv ++ [wv.length * 10]) ++ List.replicate (k - (wv ++ [wv.length * 10]).length) (.int .i64 0) := by
        rw [List.set_append_right _ _ (by omega), hil, hr, List.length_append, List.length_singleton, show k - (wv.length + 1) = r by omega]
        simp [ints, List.replicate_succ]
      simp only [List.set_cons_succ, List.set_cons_zero] at h7
      rw [e1] at h7
      unfold St
      rw [show (wv ++ [wv.length * 10]).length = wv.length + 1 by simp] at h7 ⊢
      rw [hs1_succ, words_snoc]
      exact h7
  · have hlk : wv.length = k := by omega
    refine cond_f (by simp; omega) ?_
    have h3 : St W k b gw wv (ints wv) lp wv.length lc w3 := by
      have := h3
      rw [show k - wv.length = 0 by omega] at this
      simpa using this
    clear hk1 hlt
    rw [hlk] at h3 ⊢
    -- they are moved
    refine ⟨fun i w => ∃ (j : Nat) (wv : List Nat), i = j ∧ j ≤ l ∧ wv.length = k ∧ (∀ a ∈ wv, a < 65536) ∧ St W k b gw wv (ints wv) lp k lc w, fun i _ => (l - i).toNat, ⟨0, wv, rfl, by omega, hlk, hwv, h3⟩, ?_⟩
    clear h3 hwv hlk
    rintro i w8 ⟨j, wv, rfl, hj, hlk, hwv, h8⟩
    have hmx := hz.max
    simp only [maxLen] at hmx
    unfold S_law8_HandleMoves_l1
    rw [hke]
    by_cases hlt : j < l
    · refine cond_t (by simp; omega) ?_
      have hzj : zs[j]? = some (zs[j]'(by rw [hz.len]; exact hlt)) := List.getElem?_eq_getElem _
      refine IdxC.reads (h8.baseReads 3 rfl hz.reads) (hz.some (by omega)) (by omega) (by omega) fun a hca => ?_
      refine LdI.at (n := zs[j]'(by rw [hz.len]; exact hlt)) ?_ ?_
      · have := hca 0 (.int .i64 (zs[j]'(by rw [hz.len]; exact hlt))) (by simp [hzj])
        simpa [Addr.add] using this
      obtain ⟨y, hy, hye⟩ := bAnd_le (zs[j]'(by rw [hz.len]; exact hlt)) 65535 (by omega)
      have hye' : bAnd .i64 (zs[j]'(by rw [hz.len]; exact hlt)) 65535 = (y : Int) := hye
      rw [hye', tmod_nat]
      have hym : y % k < k := Nat.mod_lt _ (by omega)
      generalize hq : y % k = q at hym ⊢
      have hown : ∀ {wv : List Nat} {want : List Value} {w : World}, wv.length = k → St W k b gw wv want lp k lc w → ∀ (K : Addr → Prop), (∀ a, w.cell? a = some (.int .u64 (hnd 1 q : Nat)) → K a) → IdxC lp k (q : Int) 1 K := by
        intro wv want w hl h K hK
        have h' := h
        unfold St at h'
        rw [hl] at h'
        obtain ⟨g, hg⟩ := h'.own_some 0 rfl (by omega)
        refine IdxC.reads (h'.reads 0 rfl) ⟨_, hg⟩ (by omega) (by omega) fun a hc => hK a ?_
        have := hc 0 (.int .u64 (hnd 1 q : Nat)) (by simpa using hs1_get hym)
        simpa [Addr.add] using this
      refine ⟨by omega, ?_⟩
      refine hown hlk h8 _ fun a hc => ?_
      refine LdI.at hc ?_
      refine (move_c (h8.pull 2 rfl) (hnd_lt (by omega)) (y : Int) (by omega)).mono ?_
      have hqw : q < wv.length := by omega
      have hf : (HT k wv).find (hnd 1 q) = some q := ht_find hqw (by omega)
      rintro e w9 (⟨hn, _⟩ | ⟨i, _, hneg, _⟩ | ⟨i, hi, _, rfl, h9⟩)
      · rw [hf] at hn; cases hn
      · omega
      rw [hf] at hi
      cases hi
      rw [ht_move, Int.toNat_natCast] at h9
      have h9 : St W k b gw (wv.set q y) (ints wv) lp k lc w9 := by
        have := Sat.back 2 (A := Tbl (HT k wv) b) rfl h9
        unfold St
        rw [List.length_set]
        exact this
      refine ⟨_, rfl, cond_f rfl ?_⟩
      refine ⟨by omega, ?_⟩
      refine hown (by rw [List.length_set]; exact hlk) h9 _ fun a hc => ?_
      refine LdI.at hc ?_
      refine (move_c (h9.pull 2 rfl) (hnd_lt (by omega)) (-1) (by omega)).mono ?_
      have hf : (HT k (wv.set q y)).find (hnd 1 q) = some q := ht_find (by rw [List.length_set]; exact hqw) (by omega)
      rintro e w10 (⟨hn, _⟩ | ⟨i, _, _, rfl, rfl⟩ | ⟨i, _, hnn, _⟩)
      · rw [hf] at hn; cases hn
      · refine ⟨_, rfl, cond_f rfl ?_⟩
        refine ⟨by omega, ?_⟩
        refine IdxC.of (by omega) (by omega) ?_
        refine StC.of h9 1 rfl (off := q) (v0 := .int .i64 (wv[q] : Int)) (ints_get hqw) (by simp) fun w11 h11 => ?_
        rw [wrapI64 (by omega) (by omega)]
        refine ⟨⟨j + 1, wv.set q y, by omega, by omega, by rw [List.length_set]; exact hlk, ?_, ?_⟩, by dsimp only; omega⟩
        · intro a ha
          rcases List.mem_or_eq_of_mem_set ha with ha | rfl
          · exact hwv a ha
          · omega
        · simp only [List.set_cons_succ, List.set_cons_zero] at h11
          rw [ints_set] at h11
          exact h11
      · omega
    · refine cond_f (by simp; omega) ?_
      -- all is told
      refine ⟨fun i w => ∃ j : Nat, i = j ∧ j ≤ k ∧ St W k b gw wv (ints wv) lp k lc w, fun i _ => (k - i).toNat, ⟨0, rfl, by omega, h8⟩, ?_⟩
      clear h8
      rintro i w12 ⟨j, rfl, hj, h8⟩
      have h8' : Sat [Own 25 1 lp k lc (words (hs1 k)), Row gw (ints wv) 3, Tbl (HT k wv) b, Base W] w12 := by
        have := h8
        unfold St at this
        rw [hlk] at this
        exact this
      unfold S_law8_HandleMoves_l0
      rw [hke]
      by_cases hlt : j < k
      · refine cond_t (by simp; omega) ?_
        obtain ⟨g, hg⟩ := h8'.own_some 0 rfl (by omega)
        have hjw : j < wv.length := by omega
        have hown : ∀ (K : Addr → Prop), (∀ a, w12.cell? a = some (.int .u64 (hnd 1 j : Nat)) → K a) → IdxC lp k (j : Int) 1 K := by
          intro K hK
          refine IdxC.reads (h8'.reads 0 rfl) ⟨_, hg⟩ (by omega) (by omega) fun a hc => hK a ?_
          have := hc 0 (.int .u64 (hnd 1 j : Nat)) (by simpa using hs1_get hlt)
          simpa [Addr.add] using this
        have hf : (HT k wv).find (hnd 1 j) = some j := ht_find hjw (by omega)
        refine hown _ fun a hc => LdI.at hc ?_
        refine (at_c (h8'.pull 2 rfl) (hnd_lt (by omega))).mono ?_
        rintro e w' ⟨rfl, rfl⟩
        rw [hf]
        refine ⟨_, _, rfl, ?_⟩
        refine hown _ fun a hc => LdI.at hc ?_
        refine (slot_c (h8'.pull 2 rfl) (hnd_lt (by omega))).mono ?_
        rintro e w' ⟨rfl, rfl⟩
        rw [hf]
        refine ⟨_, _, rfl, ?_⟩
        refine (of_c (h8'.pull 2 rfl) (j : Int)).mono ?_
        rintro e w' ⟨rfl, rfl⟩
        have hkn : (HT k wv).n = k := rfl
        rw [if_neg (by rw [hkn]; omega), Int.toNat_natCast, if_pos (ht_taken hjw), ht_gen]
        refine ⟨_, _, rfl, cond_f rfl ?_⟩
        refine IdxC.of (by omega) (by omega) ?_
        refine LdI.of h8' 1 rfl (off := j) (ints_get hjw) (by simp) ?_
        refine cond_f (by rw [ht_at hjw]; simp) (cond_f rfl (cond_f (by simp) (cond_f rfl ?_)))
        refine hown _ fun a hc => LdI.at hc ?_
        refine cond_f (by simp) ?_
        rw [wrapI64 (by omega) (by omega)]
        exact ⟨⟨j + 1, by omega, by omega, h8⟩, by dsimp only; omega⟩
      · refine cond_f (by simp; omega) ?_
        refine (live_c (h8'.pull 2 rfl)).mono ?_
        rintro e w16 ⟨p2, l2, c2, rfl, hl2, h16⟩
        rw [ht_live hlk] at hl2 h16
        have h16 : Sat [Own 25 1 p2 l2 c2 (words (hs1 k)), Tbl (HT k wv) b, Own 25 1 lp k lc (words (hs1 k)), Row gw (ints wv) 3, Base W] w16 := h16
        have hl2 : l2 = (hs1 k).length := hl2
        refine ⟨_, _, _, rfl, ?_⟩
        have key := list_c (xs := hs1 k) (ys := hs1 k) (ap := p2) (bp := lp) (ac := c2) (bc := lc) h16 (fun w h => h.reads 0 rfl) (fun w h => h.reads 2 rfl)
          (fun h => by obtain ⟨g, hg⟩ := h16.own_some 0 rfl (by rw [hl2]; exact h); exact ⟨_, hg⟩) (fun h => by obtain ⟨g, hg⟩ := h16.own_some 2 rfl (by rw [hs1_len] at h; exact h); exact ⟨_, hg⟩) (by rw [hs1_len]; simp only [maxLen]; omega)
        rw [hs1_len] at key hl2
        rw [hl2]
        refine key.mono ?_
        rintro e w17 ⟨rfl, h17⟩
        exact ⟨_, rfl, by simp, h17.below 4 rfl⟩

set_option maxRecDepth 100000 in
theorem moves_lifted (os : Os) (started : os.Started) (H : Type) (enc : TypeId × Value → H) :
    ReturnsInHanded {} Try.checked os 6 .any (Rows.handleMovesSpec.pre6 enc Try.prog Try.f6 Rows.handleMovesRow.domain false) (Rows.handleMovesSpec.post enc Try.prog Try.f6 false true false false) := by
  refine returnsInHanded_of_change (C := Try.checked) own started (by kernel_rfl) Try.func6
    (ChangeSpec.witness6 (enc := enc) (C := Try.checked) false ⟨#[], #[.int .i64 0, .slice none 0 0], []⟩ 8 (by kernel_rfl) (by kernel_rfl) (by kernel_rfl) (by kernel_rfl)) ?_
  intro W base args ds gs before hval hW hcnd _
  have hval : ∀ (j : Nat) t v, Try.f6.params[j]? = some t → args[j]? = some v → Value.okWide Try.prog W .any base t v := hval
  have hW' : DataW.Whole enc Try.prog Try.f6.params.toList Rows.handleMovesSpec.vars false W args.toList ds gs before := hW
  obtain ⟨p, q, hA, hV, _⟩ := hW'
  rw [Try.params6] at hA hval
  obtain ⟨v0, v1, d0, d1, p0, p1, rfl, rfl, rfl, h0, h1⟩ := trodAll_two hA
  obtain ⟨n, rfl, rfl, rfl, wn⟩ := open_int Try.underlying3 (hval 0 3 v0 rfl rfl) h0
  obtain ⟨a1, l1, c1, rfl⟩ := okWide_slice Try.underlying38 (hval 1 38 v1 rfl rfl)
  obtain ⟨zs, hz⟩ := argInts Try.underlying38 Try.underlying3 (by kernel_rfl) h1
  refine (moves_c W n hz).mono fun e W' ⟨he, hs⟩ => ?_
  exact ⟨_, he, law_post (tb := 4) laidOut (by decide +kernel) (by kernel_rfl) Try.underlying4 rfl hW ⟨rfl, rfl, rfl⟩ hs⟩

theorem moves_holds : Rows.HandleMovesSaid :=
  OpenClaim.holds_of_wide 6 Try.f6 rfl rfl rfl rfl rfl rfl rfl ⟨rfl, rfl, rfl, rfl, rfl⟩ rfl rfl rfl rfl rfl (by kernel_rfl) Try.func6 (by kernel_rfl)
    (of_decide_eq_true (by kernel_rfl)) (by unfold Func.isWrapper; first | (rw [if_pos (by decide +kernel)]; kernel_rfl) | (rw [if_neg (by decide +kernel)]; exact ⟨rfl, rfl⟩))
    (fun os started H enc _ => moves_lifted os started H enc)
end Go.Proofs.Ytakcnpmmkpfhnaa
