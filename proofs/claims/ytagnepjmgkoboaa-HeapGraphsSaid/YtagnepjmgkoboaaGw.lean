
/- 'HeapGraphs' answers true: objects made in another order, links set in another order, have one graph, if they hang together in the same way. No conditions. -/
import Derived.Test.YtagnepjmgkoboaaGl
set_option maxRecDepth 100000
namespace Go.Proofs.Ytagnepjmgkoboaa
open Go Go.Lw Go.Wd Go.Am Go.Tb Go.Hm Go.ChangeShapes Go.WideShapes Go.ChangeAt Go.RowKit
theorem iMin_nat (a b : Nat) : iMin (a : Int) (b : Int) = ((min a b : Nat) : Int) := by unfold iMin; split <;> omega

/-! What came in: slices of numbers in a slice. -/
structure Rw (W : World) (l : Nat) (a : Addr) (Rf : Nat → List Int × Option Addr × Nat) : Prop where
  cell : ∀ i, i < l → W.cell? (a.add (i * 1)) = some (.slice (Rf i).2.1 (Rf i).1.length (Rf i).2.2)
  max : ∀ i, i < l → (Rf i).1.length ≤ maxLen
  ptr : ∀ i, i < l → 0 < (Rf i).1.length → ∃ a, (Rf i).2.1 = some a
  reads : ∀ i, i < l → ∀ b, (Rf i).2.1 = some b → ∀ (j : Nat) (z : Int), (Rf i).1[j]? = some z → W.cell? (b.add j) = some (.int .i64 z)
  hi : ∀ i, i < l → ∀ z ∈ (Rf i).1, z ≤ 9223372036854775807
theorem row_rd {W : World} {v : Value} (h : AOK W (.slice [.int .i64]) v) : ∃ R : List Int × Option Addr × Nat, v = .slice R.2.1 R.1.length R.2.2 ∧ R.1.length ≤ maxLen ∧ (0 < R.1.length → ∃ a, R.2.1 = some a) ∧
    (∀ b, R.2.1 = some b → ∀ (j : Nat) (z : Int), R.1[j]? = some z → W.cell? (b.add j) = some (.int .i64 z)) ∧ ∀ z ∈ R.1, z ≤ 9223372036854775807 := by
  obtain ⟨p, l, c, xs, rfl, hx⟩ := h.slice
  have hl : xs.length = l := by have := hx.len; simpa using this
  have hv : ∀ j, j < l → ∃ z, xs[j]? = some (.int .i64 z) ∧ z ≤ 9223372036854775807 := fun j hj => by
    have h1 := hx.rows j hj
    obtain ⟨u, hu, hu2⟩ := AOKs.get (q := 0) h1 rfl
    rw [List.getElem?_take_of_lt (by simp), List.getElem?_drop] at hu
    simp only [AOK] at hu2
    obtain ⟨z, rfl, hw⟩ := hu2
    exact ⟨z, by simpa using hu, (wf_i64 hw).2⟩
  have hR : ∀ j : Nat, (xs.map fun v => match v with | .int _ z => z | _ => 0)[j]? = (xs[j]?).map fun v => match v with | .int _ z => z | _ => 0 := fun j => List.getElem?_map
  refine ⟨⟨xs.map fun v => match v with | .int _ z => z | _ => 0, p, c⟩, by simp [hl], by simp [hl]; exact hx.max, fun h0 => hx.ptr (by simpa [hl] using h0), fun b hb j z hz => ?_, fun z hz => ?_⟩
  · dsimp only at hb hz
    rw [hR] at hz
    cases hg : xs[j]? with
    | none => rw [hg] at hz; cases hz
    | some u =>
      rw [hg] at hz
      obtain ⟨z', hz', _⟩ := hv j (by rw [← hl]; exact get_lt hg)
      rw [hg] at hz'
      cases hz'
      cases hz
      exact hx.reads b hb j _ hg
  · obtain ⟨j, hj⟩ := List.getElem?_of_mem hz
    dsimp only at hj
    rw [hR] at hj
    cases hg : xs[j]? with
    | none => rw [hg] at hj; cases hj
    | some u =>
      rw [hg] at hj
      obtain ⟨z', hz', hle⟩ := hv j (by rw [← hl]; exact get_lt hg)
      rw [hg] at hz'
      cases hz'
      cases hj
      exact hle
theorem rows_rd {W : World} {l : Nat} {a : Addr} {xs : List Value} (hx : ArgF W [.slice [.int .i64]] (some a) l xs) : ∃ Rf, Rw W l a Rf := by
  have hl : xs.length = l := by have := hx.len; simpa using this
  have : ∀ i, ∃ R : List Int × Option Addr × Nat, i < l → (W.cell? (a.add (i * 1)) = some (.slice R.2.1 R.1.length R.2.2) ∧ R.1.length ≤ maxLen ∧ (0 < R.1.length → ∃ a, R.2.1 = some a) ∧
      (∀ b, R.2.1 = some b → ∀ (j : Nat) (z : Int), R.1[j]? = some z → W.cell? (b.add j) = some (.int .i64 z)) ∧ ∀ z ∈ R.1, z ≤ 9223372036854775807) := fun i => by
    by_cases hi : i < l
    · have h1 := hx.rows i hi
      obtain ⟨u, hu, hu2⟩ := AOKs.get (q := 0) h1 rfl
      rw [List.getElem?_take_of_lt (by simp), List.getElem?_drop] at hu
      obtain ⟨R, rfl, g⟩ := row_rd hu2
      exact ⟨R, fun _ => ⟨hx.reads a rfl _ _ (by simpa using hu), g⟩⟩
    · exact ⟨default, fun h => absurd h hi⟩
  obtain ⟨Rf, hf⟩ := Classical.axiomOfChoice this
  exact ⟨Rf, fun i hi => (hf i hi).1, fun i hi => (hf i hi).2.1, fun i hi => (hf i hi).2.2.1, fun i hi => (hf i hi).2.2.2.1, fun i hi => (hf i hi).2.2.2.2⟩

/-! The turn. -/
theorem turn_inj {n t q j : Nat} (hq : q < n) (hj : j < q) (h : (j + t) % n = (q + t) % n) : False := by
  have h1 := Nat.div_add_mod (j + t) n
  have h2 := Nat.div_add_mod (q + t) n
  rw [h] at h1
  generalize (q + t) % n = k at h1 h2
  generalize (j + t) / n = a at h1
  generalize (q + t) / n = b at h2
  rcases Nat.lt_or_ge a b with g | g
  · have := Nat.mul_le_mul_left n (show a + 1 ≤ b from g)
    rw [Nat.mul_add, Nat.mul_one] at this
    omega
  · have := Nat.mul_le_mul_left n g
    omega
theorem turn_sur {n t i : Nat} (hi : i < n) : ∃ j, j < n ∧ i = (j + t) % n := by
  refine ⟨(i + (n - t % n)) % n, Nat.mod_lt _ (by omega), ?_⟩
  have h1 := Nat.div_add_mod t n
  have h2 : t % n < n := Nat.mod_lt _ (by omega)
  rw [Nat.mod_add_mod]
  have e : i + (n - t % n) + t = i + n * (1 + t / n) := by rw [Nat.mul_add, Nat.mul_one]; omega
  rw [e, Nat.add_mul_mod_self_left, Nat.mod_eq_of_lt hi]

theorem Gs.congr {n : Nat} {X : List Nat} {H : Hp} {G G' : Nat → Sh} {rs : List (Option Nat)} (h : Gs n X H G rs) (e : ∀ i, i < n → G i = G' i) : Gs n X H G' rs :=
  ⟨h.wf, h.len, h.u64, ⟨h.sh.inj, fun i hi => by rw [← e i hi]; exact h.sh.ob i hi, fun i hi => by rw [← e i hi]; exact h.sh.links i hi, h.sh.roots, h.sh.rlinks⟩, fun i hi => by rw [← e i hi]; exact h.rl i hi, h.closed, h.op, h.tn⟩
/-- what an object holds, the ones that 'd' names being done. -/
def gD (n : Nat) (Rf : Nat → List Int × Option Addr × Nat) (ws : List Nat) (d : Nat → Bool) (i : Nat) : Sh := bif d i then finSh n (Rf i).1 ws i else iniSh (Rf i).1 i
theorem gD_upd {n : Nat} {Rf : Nat → List Int × Option Addr × Nat} {ws : List Nat} {d d' : Nat → Bool} {k : Nat} (h : ∀ i, i < n → d' i = (d i || i == k)) : ∀ i, i < n → upd (gD n Rf ws d) k (finSh n (Rf k).1 ws k) i = gD n Rf ws d' i := fun i hi => by
  unfold upd gD
  rw [h i hi]
  by_cases e : i = k
  · rw [if_pos e, e]; simp
  · rw [if_neg e]
    have : (i == k) = false := by simpa using e
    rw [this, Bool.or_false]
set_option maxHeartbeats 1000000 in
theorem graphs_c (W : World) (turn : Int) {p wp : Option Addr} {l c wl wc : Nat} {xs : List Value} {zs : List Int} (hx : ArgF W [.slice [.int .i64]] p l xs) (hz : ArgI W .u64 wp wl zs) :
    Calls Try.prog 6 #[.slice p l c, .slice wp wl wc, .int .i64 turn] W (Ret (.bool true) (Go.RowKit.Below W.heap.size W)) := by
  have hlm := hx.max
  simp only [maxLen] at hlm
  have h0 : Sat [Ro W (Mem.of W)] W := Sat.ofBase W
  refine S_law9_HeapGraphs_ok _ _ _ _ _ _ _ _ _ ?_
  unfold S_law9_HeapGraphs
  refine (awake_c h0).mono ?_
  rintro e w0 ⟨rfl, h1⟩
  refine ⟨_, rfl, cond_f rfl ?_⟩
  have hmin : iMin (l : Int) 40 = ((min l 40 : Nat) : Int) := iMin_nat l 40
  rw [hmin]
  generalize hn : min l 40 = n
  by_cases hn0 : n = 0
  · exact cond_t (by simp [hn0]) ⟨rfl, h1.roBelow 0 rfl (Ext.refl _)⟩
  refine cond_f (by simp; omega) ?_
  obtain ⟨a, rfl⟩ := hx.ptr (by omega)
  obtain ⟨Rf, hR⟩ := rows_rd hx
  refine (fresh_c (n := 4096) (k := 256) (by omega) (by omega) (by omega) (by omega) h1).mono ?_
  rintro e w1 ⟨ba, rfl, h2⟩
  refine ⟨_, rfl, ?_⟩
  refine (fresh_c (n := 4096) (k := 256) (by omega) (by omega) (by omega) (by omega) h2).mono ?_
  rintro e w2 ⟨bb, rfl, h3⟩
  refine ⟨_, rfl, cond_f rfl (cond_f rfl ?_)⟩
  refine RunS.zeros h3 (by omega) fun px w3 h4 => ?_
  refine RunS.zeros h4 (by omega) fun py w4 h5 => ?_
  have h6 : Sat [HeapH (Hp.new 4096 256) .nilIface ba, HeapH (Hp.new 4096 256) .nilIface bb, Own 23 1 px n n (words (List.replicate n 0)), Own 23 1 py n n (words (List.replicate n 0)), Ro W (Mem.of W)] w4 := ((Sat.pull h5 1 rfl).pull 2 rfl).pull 3 rfl
  have hwf := sat_wf h6
  clear h0 h1 h2 h3 h4 h5
  obtain ⟨t, ht, hte⟩ := bAnd_le turn 63 (by omega)
  have hte : bAnd .i64 turn 63 = (t : Int) := hte
  have hm8 : ∀ i, min (Rf i).1.length 8 ≤ 8 := fun i => by omega
  have hp1 : ∀ (D : Nat → Prop), (∀ i, i < n → ¬ D i) → P1 n (fun i => min (Rf i).1.length 8) D (List.replicate n 0) (Hp.new 4096 256) 0 := fun D hD => by
    have hg : ∀ i, (List.replicate n 0).getD i 0 = 0 := fun i => by rw [List.getD_eq_getElem?_getD]; cases hh : (List.replicate n 0)[i]? with
      | none => rfl
      | some y => exact List.eq_of_mem_replicate (List.mem_of_getElem? hh)
    exact ⟨hwf, List.length_replicate, fun x hx => by rw [List.eq_of_mem_replicate hx]; omega, fun i j _ _ _ h => absurd (hg i) h, fun i hi => ⟨fun h => absurd (hg i) h, fun h => absurd h (hD i hi)⟩, fun i _ h => absurd (hg i) h, rfl, rfl, rfl, rfl, by unfold Hp.new Am.new Am.top; simp [osz], closed_new _ _, rfl⟩
  refine ⟨fun i w => ∃ (q : Nat) (X Y : List Nat) (A B : Hp), i = q ∧ q ≤ n ∧ P1 n (fun i => min (Rf i).1.length 8) (fun i => i < q) X A q ∧ P1 n (fun i => min (Rf i).1.length 8) (fun i => ∃ j, j < q ∧ i = (j + t) % n) Y B q ∧
      Sat [HeapH A .nilIface ba, HeapH B .nilIface bb, Own 23 1 px n n (words X), Own 23 1 py n n (words Y), Ro W (Mem.of W)] w, fun i _ => (n - i).toNat,
    ⟨0, _, _, _, _, rfl, by omega, hp1 _ (fun i _ => by omega), hp1 _ (fun i _ ⟨j, hj, _⟩ => by omega), h6⟩, ?_⟩
  clear h6 hp1 hwf
  rintro i w5 ⟨q, X, Y, A, B, rfl, hq, hA, hB, h7⟩
  unfold S_law9_HeapGraphs_l1
  rw [hmin, hn]
  have rdc : ∀ i, i < l → ∀ w, Has (Mem.of W) w → w.cell? (a.add (i * 1)) = some (.slice (Rf i).2.1 (Rf i).1.length (Rf i).2.2) := fun i hi w hw => RdS.base (hR.cell i hi) w hw
  have ix : ∀ {i : Nat} {K : Addr → Prop}, i < l → K (a.add (i * 1)) → IdxC (some a) l (i : Int) 1 K := fun hi h => ⟨by omega, by omega, by rw [Int.toNat_natCast]; exact h⟩
  have hX : ∀ {X : List Nat} {j : Nat}, X.length = n → j < n → (words X)[j * 1]? = some (.int .u64 (X.getD j 0 : Nat)) := fun {X j} hl hj => by
    rw [Nat.mul_one]; unfold words
    rw [List.getElem?_map, List.getD_eq_getElem?_getD, List.getElem?_eq_getElem (by omega)]; rfl
  by_cases hqn : q < n
  · refine cond_t (by simp; omega) ?_
    refine ⟨by omega, ?_⟩
    have hk : Int.tmod (IntKind.wrap .i64 ((q : Int) + bAnd .i64 turn 63)) ((n : Nat) : Int) = (((q + t) % n : Nat) : Int) := by
      rw [hte, wrapI64 (by omega) (by omega), Int.tmod_eq_emod_of_nonneg (by omega)]; push_cast; rfl
    have hkn : (q + t) % n < n := Nat.mod_lt _ (by omega)
    have hD : ¬ ∃ j, j < q ∧ (q + t) % n = (j + t) % n := fun ⟨j, hj, e⟩ => turn_inj hqn hj e.symm
    have hD' : ∀ i, (∃ j, j < q + 1 ∧ i = (j + t) % n) ↔ ((∃ j, j < q ∧ i = (j + t) % n) ∨ i = (q + t) % n) := fun i => by
      constructor
      · rintro ⟨j, hj, e⟩
        rcases Nat.lt_or_ge j q with g | g
        · exact .inl ⟨j, g, e⟩
        · have : j = q := by omega
          subst this; exact .inr e
      · rintro (⟨j, hj, e⟩ | e)
        · exact ⟨j, by omega, e⟩
        · exact ⟨q, by omega, e⟩
    rw [hk]
    generalize (q + t) % n = k at hkn hD hD' hk
    have h8 := h7.drew
    generalize w5.drew = w6 at h8
    clear h7
    have mi : ∀ i, iMin ((Rf i).1.length : Int) 8 = ((min (Rf i).1.length 8 : Nat) : Int) := fun i => iMin_nat _ 8
    have w1i : ∀ i : Nat, i < 40 → IntKind.wrap .i64 (1 + (i : Int)) = ((1 + i : Nat) : Int) := fun i hi => by rw [wrapI64 (by omega) (by omega)]; omega
    have w2i : ∀ m : Nat, m ≤ 8 → IntKind.wrap .i64 ((m : Int) + 1) = ((m + 1 : Nat) : Int) := fun m hm => by rw [wrapI64 (by omega) (by omega)]; omega
    refine ⟨fun w => Has (Mem.of W) w, h8.has 4 rfl, ix (by omega) ⟨_, _, _, fun w hw => LdS.cell (rdc q (by omega) w hw) rfl, ix (by omega) ⟨_, _, _, fun w hw => LdS.cell (rdc q (by omega) w hw) rfl, ?_⟩⟩⟩
    dsimp only
    rw [mi, w1i q (by omega), w2i _ (hm8 q)]
    refine (mk_c h8 (hA.makes (k := q) (by omega) (by omega) (hm8 q))).mono ?_
    rintro e w7 ⟨rfl, h9⟩
    refine ⟨_, _, rfl, ?_⟩
    have h10 := h9.drew
    generalize w7.drew = w8 at h10
    clear h8 h9
    refine ⟨fun w => Has (Mem.of W) w, h10.has 4 rfl, ix (by omega) ⟨_, _, _, fun w hw => LdS.cell (rdc k (by omega) w hw) rfl, ix (by omega) ⟨_, _, _, fun w hw => LdS.cell (rdc k (by omega) w hw) rfl, ?_⟩⟩⟩
    dsimp only
    rw [mi, w1i k (by omega), w2i _ (hm8 k)]
    refine (mk_c (Sat.p1 h10) (hB.makes (k := k) (by omega) (by omega) (hm8 k))).mono ?_
    rintro e w9 ⟨rfl, h11⟩
    refine ⟨_, _, rfl, cond_f rfl (cond_f rfl ?_)⟩
    have hXl := hA.len
    have hYl := hB.len
    refine IdxC.ownAt h11 2 rfl hqn fun g hg => ?_
    refine StC.ownAt h11 2 rfl hg (hX hXl hqn) rfl fun w10 h12 => ?_
    refine IdxC.ownAt h12 3 rfl hkn fun g2 hg2 => ?_
    refine StC.ownAt h12 3 rfl hg2 (hX hYl hkn) rfl fun w11 h13 => ?_
    have e1 : (words X).set (q * 1) (.int .u64 (nextH A.t : Int)) = words (X.set q (nextH A.t)) := by rw [Nat.mul_one]; simp [words, List.map_set]
    have e2 : (words Y).set (k * 1) (.int .u64 (nextH B.t : Int)) = words (Y.set k (nextH B.t)) := by rw [Nat.mul_one]; simp [words, List.map_set]
    simp only [List.set_cons_zero, List.set_cons_succ, e1, e2] at h13
    rw [wrapI64 (by omega) (by omega)]
    exact ⟨⟨q + 1, _, _, _, _, by omega, by omega, hA.step (by omega) hqn (by omega) (hm8 q) (by omega) (fun i => by omega), hB.step (by omega) hkn (by omega) (hm8 k) hD hD', Sat.p1 h13⟩, by first | omega | (dsimp only; omega)⟩
  refine cond_f (by simp; omega) ?_
  have hqe : q = n := by omega
  subst hqe
  have hGA := hA.gs fun i hi => hi
  have hGB := hB.gs fun i hi => turn_sur hi
  clear hA hB
  -- the words
  have hzl := hz.len
  have hzr : ∀ (j z : Nat), (zs.map Int.toNat)[j]? = some z → zs[j]? = some (z : Int) := fun j z hj => by
    rw [List.getElem?_map] at hj
    cases hg : zs[j]? with
    | none => rw [hg] at hj; cases hj
    | some u =>
      rw [hg] at hj
      obtain ⟨x, rfl, _⟩ := wf_u64 (hz.wf u (List.mem_of_getElem? hg))
      cases hj
      rfl
  have hw64 : ∀ z ∈ zs.map Int.toNat, z < 18446744073709551616 := fun z hh => by
    obtain ⟨u, hu, rfl⟩ := List.mem_map.1 hh
    obtain ⟨x, rfl, hx⟩ := wf_u64 (hz.wf u hu)
    exact hx
  have hwr : ∀ a, wp = some a → ∀ (j z : Nat), (zs.map Int.toNat)[j]? = some z → ∀ w, Has (Mem.of W) w → w.cell? (a.add j) = some (.int .u64 (z : Int)) := fun a ha j z hj w hw =>
    RdS.base (hz.reads a ha j _ (by rw [List.getElem?_map, hzr j z hj]; rfl)) w hw
  have ini : ∀ i, (⟨1 + i, List.replicate (min (Rf i).1.length 8) none, [0]⟩ : Sh) = iniSh (Rf i).1 i := fun i => rfl
  -- an object's links and word
  have lk : ∀ {X : List Nat} {H : Hp} {G : Nat → Sh} {rs : List (Option Nat)} {b i : Nat} {pp : Option Addr} {F : List HP} {w : World}, Gs q X H G rs → i < q → G i = iniSh (Rf i).1 i → Sat (HeapH H .nilIface b :: Own 23 1 pp q q (words X) :: Ro W (Mem.of W) :: F) w →
      Calls Try.prog 28 #[.pointer (some ⟨b, 0, none⟩), .slice pp q q, .int .i64 (i : Int), .slice (Rf i).2.1 (Rf i).1.length (Rf i).2.2, .slice wp wl wc] w fun e w' =>
        e = .returned (.bool true) ∧ ∃ H', Gs q X H' (upd G i (finSh q (Rf i).1 (zs.map Int.toNat) i)) rs ∧ Sat (HeapH H' .nilIface b :: Own 23 1 pp q q (words X) :: Ro W (Mem.of W) :: F) w' := by
    intro X H G rs b i pp F w hG hi hGi hS
    exact links_c (by omega) hG hi hGi rfl (hR.max i (by omega)) (hR.ptr i (by omega)) (fun a ha j z hj w hw => RdS.base (hR.reads i (by omega) a ha j z hj) w hw) (hR.hi i (by omega)) (by rw [List.length_map]; exact hzl) hz.max hz.some hwr hw64 hS
  have hGA : Gs q X A (gD q Rf (zs.map Int.toNat) fun i => decide (i < 0)) (List.replicate 16 none) := hGA.congr fun i hi => by unfold gD; simp; rfl
  have hGB : Gs q Y B (gD q Rf (zs.map Int.toNat) fun i => decide (q - 0 ≤ i)) (List.replicate 16 none) := hGB.congr fun i hi => by
    have : decide (q - 0 ≤ i) = false := decide_eq_false (by omega)
    unfold gD; dsimp only; rw [this]; rfl
  refine ⟨fun i w => ∃ (k : Nat) (A B : Hp), i = k ∧ k ≤ q ∧ Gs q X A (gD q Rf (zs.map Int.toNat) fun i => decide (i < k)) (List.replicate 16 none) ∧ Gs q Y B (gD q Rf (zs.map Int.toNat) fun i => decide (q - k ≤ i)) (List.replicate 16 none) ∧
      Sat [HeapH A .nilIface ba, HeapH B .nilIface bb, Own 23 1 px q q (words X), Own 23 1 py q q (words Y), Ro W (Mem.of W)] w, fun i _ => (q - i).toNat, ⟨0, A, B, rfl, by omega, hGA, hGB, h7⟩, ?_⟩
  clear h7 hGA hGB
  rintro i w6 ⟨k, A, B, rfl, hk, hGA, hGB, h7⟩
  unfold S_law9_HeapGraphs_l0
  rw [hmin, hn]
  by_cases hkq : k < q
  · refine cond_t (by simp; omega) ?_
    refine ix (by omega) (LdS.cell (rdc k (by omega) _ (h7.has 4 rfl)) ?_)
    refine (lk hGA hkq (by unfold gD; simp) (((Sat.pull h7 4 rfl).pull 3 rfl).pull 2 rfl)).mono ?_
    rintro e w7 ⟨rfl, A2, hA2, h8⟩
    have h8 : Sat (HeapH A2 .nilIface ba :: Own 23 1 px q q (words X) :: Ro W (Mem.of W) :: [HeapH B .nilIface bb, Own 23 1 py q q (words Y)]) w7 := h8
    refine ⟨_, rfl, cond_f rfl ?_⟩
    have hw : IntKind.wrap .i64 (IntKind.wrap .i64 (((q : Nat) : Int) - 1) - (k : Int)) = ((q - 1 - k : Nat) : Int) := by rw [wrapI64 (n := ((q : Nat) : Int) - 1) (by omega) (by omega), wrapI64 (by omega) (by omega)]; omega
    rw [hw]
    refine ix (by omega) (LdS.cell (rdc (q - 1 - k) (by omega) _ (h8.has 2 rfl)) ?_)
    have h9 : Sat (HeapH B .nilIface bb :: Own 23 1 py q q (words Y) :: Ro W (Mem.of W) :: [HeapH A2 .nilIface ba, Own 23 1 px q q (words X)]) w7 := ((Sat.pull h8 2 rfl).pull 4 rfl).pull 4 rfl
    refine (lk hGB (i := q - 1 - k) (by omega) (by unfold gD; dsimp only; rw [decide_eq_false (by omega)]; rfl) h9).mono ?_
    rintro e w8 ⟨rfl, B2, hB2, h10⟩
    have h10 : Sat (HeapH B2 .nilIface bb :: Own 23 1 py q q (words Y) :: Ro W (Mem.of W) :: [HeapH A2 .nilIface ba, Own 23 1 px q q (words X)]) w8 := h10
    refine ⟨_, rfl, cond_f rfl ?_⟩
    rw [wrapI64 (by omega) (by omega)]
    refine ⟨⟨k + 1, A2, B2, by omega, by omega, hA2.congr (gD_upd fun i hi => ?_), hB2.congr (gD_upd fun i hi => ?_), ((((Sat.pull h10 2 rfl).pull 2 rfl).pull 4 rfl).pull 3 rfl).pull 4 rfl⟩, by first | omega | (dsimp only; omega)⟩
    · rw [Bool.eq_iff_iff]; simp only [decide_eq_true_eq, Bool.or_eq_true, beq_iff_eq]; omega
    · rw [Bool.eq_iff_iff]; simp only [decide_eq_true_eq, Bool.or_eq_true, beq_iff_eq]; omega
  refine cond_f (by simp; omega) ?_
  have hke : k = q := by omega
  subst hke
  have hGB := hGB.congr (G' := gD k Rf (zs.map Int.toNat) fun i => decide (i < k)) fun i hi => by unfold gD; dsimp only; rw [decide_eq_true (by omega), decide_eq_true hi]
  have hXl := hGA.len
  have hYl := hGB.len
  refine IdxC.ownAt (k := 0) h7 2 rfl (by omega) fun g hg => LdI.at (h7.ownAt 2 rfl hg (hX hXl (by omega))) ?_
  have hrA := hGA.root (q := 2) (i := 0) (by omega)
  have hrB := hGB.root (q := 2) (i := 0) (by omega)
  have eA : Hp.rootE A 2 (X.getD 0 0) = 0 := by unfold Hp.rootE; rw [if_pos (by omega), if_pos (hGA.may (by omega))]
  have eB : Hp.rootE B 2 (Y.getD 0 0) = 0 := by unfold Hp.rootE; rw [if_pos (by omega), if_pos (hGB.may (by omega))]
  refine (sroot_c h7 2 (hGA.small (i := 0) (by omega))).mono ?_
  rintro e w7 ⟨rfl, h8⟩
  rw [if_pos eA] at h8
  rw [eA]
  have h8 : Sat [HeapH (A.rooted 2 (X.getD 0 0)) .nilIface ba, HeapH B .nilIface bb, Own 23 1 px k k (words X), Own 23 1 py k k (words Y), Ro W (Mem.of W)] w7 := h8
  refine ⟨_, rfl, cond_t rfl ?_⟩
  refine IdxC.ownAt (k := 0) h8 3 rfl (by omega) fun g hg => LdI.at (h8.ownAt 3 rfl hg (hX hYl (by omega))) ?_
  refine (sroot_c (Sat.p1 h8) 2 (hGB.small (i := 0) (by omega))).mono ?_
  rintro e w8 ⟨rfl, h9⟩
  rw [if_pos eB] at h9
  rw [eB]
  have h9 : Sat [HeapH (B.rooted 2 (Y.getD 0 0)) .nilIface bb, HeapH (A.rooted 2 (X.getD 0 0)) .nilIface ba, Own 23 1 px k k (words X), Own 23 1 py k k (words Y), Ro W (Mem.of W)] w8 := h9
  refine ⟨_, rfl, cond_t rfl ?_⟩
  generalize A.rooted 2 (X.getD 0 0) = A2 at hrA h9
  generalize B.rooted 2 (Y.getD 0 0) = B2 at hrB h9
  obtain ⟨ga1, ga2⟩ := shp_graph hrA.wf hrA.sh
  obtain ⟨gb1, gb2⟩ := shp_graph hrB.wf hrB.sh
  rw [hrA.tn] at ga1 ga2
  rw [hrB.tn] at gb1 gb2
  have hRR : graphR B2 = graphR A2 := by rw [ga1, gb1]
  have hNN : graphN B2 = graphN A2 := by rw [ga2, gb2]
  refine (graph_c (((Sat.pull h9 4 rfl).pull 2 rfl))).mono ?_
  rintro e w9 ⟨gp, gc, np, nc, S1, gs, rfl, hE1, hR1, hN1, h10⟩
  have h10 : Sat [HeapH A2 .nilIface ba, Ro W S1, HeapH B2 .nilIface bb, Own 23 1 px k k (words X), Own 23 1 py k k (words Y)] w9 := h10
  refine ⟨_, _, _, _, _, _, rfl, ?_⟩
  refine (graph_c (((Sat.pull h10 1 rfl).pull 2 rfl))).mono ?_
  rintro e w10 ⟨gp2, gc2, np2, nc2, S2, gs2, rfl, hE2, hR2, hN2, h11⟩
  have h11 : Sat [HeapH B2 .nilIface bb, Ro W S2, HeapH A2 .nilIface ba, Own 23 1 px k k (words X), Own 23 1 py k k (words Y)] w10 := h11
  refine ⟨_, _, _, _, _, _, rfl, ?_⟩
  refine (apart_c hrA.wf hRR hNN (Sat.p1 h11) (hR1.mono hE2) (hN1.mono hE2) hR2 hN2).mono ?_
  rintro e w11 ⟨rfl, h12⟩
  refine ⟨_, rfl, cond_t rfl ?_⟩
  refine (check_c (Sat.pull h12 2 rfl) hrA.closed hrA.op).mono ?_
  rintro e w12 ⟨rfl, h13⟩
  refine ⟨_, rfl, cond_t rfl ?_⟩
  have h13 : Sat [HeapH A2 .nilIface ba, Ro W S2, HeapH B2 .nilIface bb, Own 23 1 px k k (words X), Own 23 1 py k k (words Y)] w12 := h13
  refine (check_c (Sat.pull h13 2 rfl) hrB.closed hrB.op).mono ?_
  rintro e w13 ⟨rfl, h14⟩
  exact ⟨_, rfl, rfl, h14.roBelow 2 rfl (hE1.trans hE2)⟩

set_option maxRecDepth 100000 in
theorem graphs_lifted (os : Os) (started : os.Started) (H : Type) (enc : TypeId × Value → H) :
    ReturnsInHanded {} Try.checked os 6 .any (Rows.heapGraphsSpec.pre6 enc Try.prog Try.f6 Rows.heapGraphsRow.domain false) (Rows.heapGraphsSpec.post enc Try.prog Try.f6 false true false false) := by
  refine returnsInHanded_of_change (C := Try.checked) own started (by kernel_rfl) Try.func6
    (ChangeSpec.witness6 (enc := enc) (C := Try.checked) false ⟨#[], #[.slice none 0 0, .slice none 0 0, .int .i64 0], []⟩ 8 (by kernel_rfl) (by kernel_rfl) (by kernel_rfl) (by kernel_rfl)) ?_
  intro W base args ds gs before hval hW hcnd _
  have hval : ∀ (j : Nat) t v, Try.f6.params[j]? = some t → args[j]? = some v → Value.okWide Try.prog W .any base t v := hval
  have hW' : DataW.Whole enc Try.prog Try.f6.params.toList Rows.heapGraphsSpec.vars false W args.toList ds gs before := hW
  obtain ⟨p, q, hA, hV, _⟩ := hW'
  rw [Try.params6] at hA hval
  obtain ⟨v0, v1, v2, d0, d1, d2, p0, p1, p2, rfl, rfl, rfl, h0, h1, h2⟩ := trodAll_three hA
  obtain ⟨a0, l0, c0, rfl⟩ := okWide_slice Try.underlying61 (hval 0 61 v0 rfl rfl)
  obtain ⟨q0, m0, r0, xs0, hv0, hx0⟩ := (argOf (n := 5) (a := .slice [.slice [.int .i64]]) (by kernel_rfl) rfl h0).slice
  cases hv0
  obtain ⟨a1, l1, c1, rfl⟩ := okWide_slice Try.underlying22 (hval 1 22 v1 rfl rfl)
  obtain ⟨zs1, hz1⟩ := argInts Try.underlying22 Try.underlying23 (by kernel_rfl) h1
  obtain ⟨n2, rfl, rfl, rfl, wn2⟩ := open_int Try.underlying3 (hval 2 3 v2 rfl rfl) h2
  refine (graphs_c W n2 hx0 hz1).mono fun e W' ⟨he, hs⟩ => ?_
  exact ⟨_, he, law_post (tb := 4) laidOut (by decide +kernel) (by kernel_rfl) Try.underlying4 rfl hW ⟨rfl, rfl, rfl⟩ hs⟩

theorem graphs_holds : Rows.HeapGraphsSaid :=
  OpenClaim.holds_of_wide 6 Try.f6 rfl rfl rfl rfl rfl rfl rfl ⟨rfl, rfl, rfl, rfl, rfl⟩ rfl rfl rfl rfl rfl (by kernel_rfl) Try.func6 (by kernel_rfl)
    (of_decide_eq_true (by kernel_rfl)) (by unfold Func.isWrapper; first | (rw [if_pos (by decide +kernel)]; kernel_rfl) | (rw [if_neg (by decide +kernel)]; exact ⟨rfl, rfl⟩))
    (fun os started H enc _ => graphs_lifted os started H enc)
