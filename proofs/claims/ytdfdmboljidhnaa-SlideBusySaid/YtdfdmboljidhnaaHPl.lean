
/- Deeds in a row, where whoever watches leaves the heap as it is: data; and the deeds that come in. -/
import Derived.Test.YtdfdmboljidhnaaHP
set_option maxRecDepth 100000
namespace Go.Proofs.Ytdfdmboljidhnaa
open Go Go.Lw Go.Wd Go.Am Go.Tb Go.Hm
/-- what a deed does. -/
def playH (H : Hp) (hs : List Nat) (d : Dd) : Hp × List Nat :=
  if d.d ≤ 2 then (if Hp.makeE H d.i d.j d.y = 0 then (H.made d.i.toNat d.j.toNat d.y.toNat, hs ++ [nextH H.t]) else (H, hs))
  else if d.d ≤ 4 then (if Hp.refE H (pickN hs d.x) d.i (pickN hs d.y) = 0 then (Hp.setRef H (pickN hs d.x) d.i (pickN hs d.y), hs) else (H, hs))
  else if d.d = 5 then (if Hp.wordE H (pickN hs d.x) d.i = 0 then (Hp.setWord H (pickN hs d.x) d.i d.w, hs) else (H, hs))
  else if d.d ≤ 7 then (if Hp.rootE H d.i (pickN hs d.y) = 0 then (H.rooted d.i.toNat (pickN hs d.y), hs) else (H, hs))
  else (H, hs)
def lk2 (s : List Nat × List Nat) (y : Nat) : List Nat × List Nat := if y = 0 then s else (s.1, s.2 ++ [y])
/-- what a watcher that notes is told. -/
def noteF (H : Hp) (s : List Nat × List Nat) (hs : List Nat) (d : Dd) : List Nat × List Nat :=
  if d.d ≤ 2 then (if Hp.makeE H d.i d.j d.y = 0 then (s.1 ++ [nextH H.t], s.2) else s)
  else if d.d ≤ 4 then (if Hp.refE H (pickN hs d.x) d.i (pickN hs d.y) = 0 then lk2 s (pickN hs d.y) else s)
  else if d.d = 5 then s
  else if d.d ≤ 7 then (if Hp.rootE H d.i (pickN hs d.y) = 0 then lk2 s (pickN hs d.y) else s)
  else s
theorem setRef_t (H : Hp) (x : Nat) (i : Int) (y : Nat) : (Hp.setRef H x i y).t = H.t := by unfold Hp.setRef; split <;> rfl
theorem setWord_t (H : Hp) (x : Nat) (i : Int) (y : Nat) : (Hp.setWord H x i y).t = H.t := by unfold Hp.setWord; split <;> rfl
theorem made_count {H : Hp} (h : H.t.WF) {a b c : Nat} : (H.made a b c).t.count = H.t.count + 1 := count_make h
theorem playH_count {H : Hp} {hs : List Nat} {d : Dd} (h : H.t.WF) (hc : hs.length = H.t.count) : (playH H hs d).2.length = (playH H hs d).1.t.count ∧ (playH H hs d).1.t.n = H.t.n ∧ ((playH H hs d).2 = hs ∨ (playH H hs d).2 = hs ++ [nextH H.t]) := by
  unfold playH
  split
  · split
    · refine ⟨?_, make_n _ _, .inr rfl⟩
      dsimp only
      rw [made_count h, List.length_append, hc]
      rfl
    · exact ⟨hc, rfl, .inl rfl⟩
  · split
    · split
      · dsimp only; rw [setRef_t]; exact ⟨hc, rfl, .inl rfl⟩
      · exact ⟨hc, rfl, .inl rfl⟩
    · split
      · split
        · dsimp only; rw [setWord_t]; exact ⟨hc, rfl, .inl rfl⟩
        · exact ⟨hc, rfl, .inl rfl⟩
      · split
        · split
          · exact ⟨hc, rfl, .inl rfl⟩
          · exact ⟨hc, rfl, .inl rfl⟩
        · exact ⟨hc, rfl, .inl rfl⟩
/-- the told handles, and the made ones. -/
theorem note_made {H : Hp} {s : List Nat × List Nat} {hs : List Nat} {d : Dd} : ((playH H hs d).2 = hs ∧ (noteF H s hs d).1 = s.1) ∨ ((playH H hs d).2 = hs ++ [nextH H.t] ∧ (noteF H s hs d).1 = s.1 ++ [nextH H.t]) := by
  have hl : ∀ y, (lk2 s y).1 = s.1 := fun y => by unfold lk2; split <;> rfl
  unfold playH noteF
  by_cases a : d.d ≤ 2
  · by_cases m : Hp.makeE H d.i d.j d.y = 0
    · right; simp [a, m]
    · left; simp [a, m]
  left
  by_cases b : d.d ≤ 4
  · by_cases m : Hp.refE H (pickN hs d.x) d.i (pickN hs d.y) = 0 <;> simp [a, b, m, hl]
  by_cases c : d.d = 5
  · by_cases m : Hp.wordE H (pickN hs d.x) d.i = 0
    · simp [c, m]
    · simp [c, m]
  by_cases e : d.d ≤ 7
  · by_cases m : Hp.rootE H d.i (pickN hs d.y) = 0 <;> simp [a, b, c, e, m, hl]
  · simp [a, b, c, e]
theorem lk2_yes {s : List Nat × List Nat} {y : Nat} (h : y ≠ 0) : (lk2 s y).2 = s.2 ++ [y] := by unfold lk2; rw [if_neg h]
theorem note2_ref {H : Hp} {s : List Nat × List Nat} {hs : List Nat} {d : Dd} (a : ¬ d.d ≤ 2) (b : d.d ≤ 4) (hy : pickN hs d.y ≠ 0) :
    (noteF H s hs d).2 = if Hp.refE H (pickN hs d.x) d.i (pickN hs d.y) = 0 then s.2 ++ [pickN hs d.y] else s.2 := by
  unfold noteF
  rw [if_neg a, if_pos b]
  split
  · exact lk2_yes hy
  · rfl
theorem note2_root {H : Hp} {s : List Nat × List Nat} {hs : List Nat} {d : Dd} (a : 6 ≤ d.d) (b : d.d ≤ 7) (hy : pickN hs d.y ≠ 0) :
    (noteF H s hs d).2 = if Hp.rootE H d.i (pickN hs d.y) = 0 then s.2 ++ [pickN hs d.y] else s.2 := by
  unfold noteF
  rw [if_neg (by omega), if_neg (by omega), if_neg (by omega), if_pos b]
  split
  · exact lk2_yes hy
  · rfl
theorem note2_no {H : Hp} {s : List Nat × List Nat} {hs : List Nat} {d : Dd} (h : d.d ≤ 2 ∨ d.d = 5 ∨ 8 ≤ d.d ∨ pickN hs d.y = 0) : (noteF H s hs d).2 = s.2 := by
  have hl : pickN hs d.y = 0 → (lk2 s (pickN hs d.y)).2 = s.2 := fun e => by unfold lk2; rw [if_pos e]
  unfold noteF
  by_cases a : d.d ≤ 2
  · rw [if_pos a]; split <;> rfl
  rw [if_neg a]
  by_cases b : d.d ≤ 4
  · rw [if_pos b]
    have := h.resolve_left a |>.resolve_left (by omega) |>.resolve_left (by omega)
    split
    · exact hl this
    · rfl
  rw [if_neg b]
  by_cases c : d.d = 5
  · rw [if_pos c]
  rw [if_neg c]
  by_cases e : d.d ≤ 7
  · rw [if_pos e]
    have := h.resolve_left a |>.resolve_left c |>.resolve_left (by omega)
    split
    · exact hl this
    · rfl
  · rw [if_neg e]
theorem note_len {H : Hp} {s : List Nat × List Nat} {hs : List Nat} {d : Dd} {k : Nat} (h1 : s.1.length ≤ k) (h2 : s.2.length ≤ k) : (noteF H s hs d).1.length ≤ k + 1 ∧ (noteF H s hs d).2.length ≤ k + 1 := by
  have hl : ∀ y, (lk2 s y).1.length ≤ k + 1 ∧ (lk2 s y).2.length ≤ k + 1 := fun y => by
    unfold lk2; split
    · exact ⟨by omega, by omega⟩
    · exact ⟨by dsimp only; omega, by simp; omega⟩
  unfold noteF
  split
  · split
    · exact ⟨by simp; omega, by dsimp only; omega⟩
    · exact ⟨by omega, by omega⟩
  · split
    · split
      · exact hl _
      · exact ⟨by omega, by omega⟩
    · split
      · exact ⟨by omega, by omega⟩
      · split
        · split
          · exact hl _
          · exact ⟨by omega, by omega⟩
        · exact ⟨by omega, by omega⟩
theorem playF_none (b : Nat) (H : Hp) (hs : List Nat) (d : Dd) : playF (Wt.none b) H () hs d = ((playH H hs d).1, (), (playH H hs d).2) := by
  have hl : ∀ H' y, (Wt.none b).lk H' () y = (H', ()) := fun H' y => by unfold Wt.lk; split <;> rfl
  unfold playF playH
  by_cases a : d.d ≤ 2
  · by_cases m : Hp.makeE H d.i d.j d.y = 0
    · simp only [if_pos a, if_pos m]; rfl
    · simp only [if_pos a, if_neg m]
  by_cases c : d.d ≤ 4
  · by_cases m : Hp.refE H (pickN hs d.x) d.i (pickN hs d.y) = 0
    · simp only [if_neg a, if_pos c, if_pos m, hl]
    · simp only [if_neg a, if_pos c, if_neg m]
  by_cases e : d.d = 5
  · by_cases m : Hp.wordE H (pickN hs d.x) d.i = 0
    · simp only [if_neg a, if_neg c, if_pos e, if_pos m]
    · simp only [if_neg a, if_neg c, if_pos e, if_neg m]
  by_cases g : d.d ≤ 7
  · by_cases m : Hp.rootE H d.i (pickN hs d.y) = 0
    · simp only [if_neg a, if_neg c, if_neg e, if_pos g, if_pos m, hl]
    · simp only [if_neg a, if_neg c, if_neg e, if_pos g, if_neg m]
  · simp only [if_neg a, if_neg c, if_neg e, if_neg g]
/-! What stays, deed behind deed. -/
theorem setL_len : ∀ (l : List Ob) (k a : Nat) (o : Ob), (setL k l a o).length = l.length
  | [], _, _, _ => rfl
  | p :: l, k, a, o => by
    simp only [setL]
    split
    · rfl
    · simp only [List.length_cons, setL_len l]
structure Pl (n k : Nat) (H : Hp) (hs : List Nat) : Prop where
  cnt : hs.length = H.t.count
  tn : H.t.n = k
  mn : H.m.n = n
  op : H.m.op = false
  objs : H.m.low.length + H.m.high.length = hs.length
section
variable {n k : Nat} {H : Hp} {hs : List Nat}
theorem Pl.new (n k : Nat) : Pl n k (Hp.new n k) [] := ⟨rfl, rfl, rfl, rfl, rfl⟩
theorem Pl.set (h : Pl n k H hs) (x : Nat) (o : Ob) : Pl n k (H.set x o) hs := by
  refine ⟨h.cnt, h.tn, h.mn, h.op, ?_⟩
  have := h.objs
  unfold Hp.set Am.set
  dsimp only
  rw [setL_len]
  split
  · exact this
  · rw [setL_len]; exact this
theorem Pl.rooted (h : Pl n k H hs) (i x : Nat) : Pl n k (H.rooted i x) hs := ⟨h.cnt, h.tn, h.mn, h.op, h.objs⟩
theorem Pl.made (h : Pl n k H hs) (hm : H.t.WF) (a b c x : Nat) : Pl n k (H.made a b c) (hs ++ [x]) := by
  have h4 := h.op; have h5 := h.objs; have h3 := h.mn
  have e : (H.made a b c).m = ⟨H.m.n, H.m.low ++ [Fresh a b c H.t.nextSlot], H.m.high, H.m.hi, false⟩ := by
    show H.m.alloc _ = _
    unfold Am.alloc
    cases hop : H.m.op with
    | true => rw [hop] at h4; cases h4
    | false => rfl
  refine ⟨?_, (make_n _ _).trans h.tn, ?_, ?_, ?_⟩
  · rw [made_count hm, List.length_append, h.cnt]; rfl
  · rw [e]; exact h3
  · rw [e]
  · rw [e]; simp only [List.length_append, List.length_cons, List.length_nil]; omega
theorem Pl.play (h : Pl n k H hs) (hm : H.t.WF) (d : Dd) : Pl n k (playH H hs d).1 (playH H hs d).2 := by
  have hr : ∀ x i y, Pl n k (Hp.setRef H x i y) hs := fun x i y => by
    unfold Hp.setRef; split
    · exact h.set _ _
    · exact h
  have hw : ∀ x i y, Pl n k (Hp.setWord H x i y) hs := fun x i y => by
    unfold Hp.setWord; split
    · exact h.set _ _
    · exact h
  unfold playH
  split
  · split
    · exact h.made hm _ _ _ _
    · exact h
  · split
    · split
      · exact hr _ _ _
      · exact h
    · split
      · split
        · exact hw _ _ _
        · exact h
      · split
        · split
          · exact h.rooted _ _
          · exact h
        · exact h
end
/-! What came in. -/
theorem nums_get : ∀ {ks : List IntKind} {cs : List Value} {j : Nat} {k : IntKind}, Nums ks cs → ks[j]? = some k → ∃ n, cs[j]? = some (.int k n) ∧ (Lit.int k n).wf = true
  | [], _, _, _, _, h => by simp at h
  | k0 :: ks, [], _, _, h, _ => by simp [Nums] at h
  | k0 :: ks, v :: vs, 0, k, h, hk => by
    simp only [List.getElem?_cons_zero, Option.some.injEq] at hk
    subst hk
    simp only [Nums] at h
    obtain ⟨⟨n, rfl, hw⟩, _⟩ := h
    exact ⟨n, rfl, hw⟩
  | k0 :: ks, v :: vs, j + 1, k, h, hk => by
    simp only [List.getElem?_cons_succ] at hk ⊢
    simp only [Nums] at h
    exact nums_get h.2 hk
abbrev dks9 : List IntKind := [.i64, .i64, .i64, .i64, .i64, .u64]
theorem deed_rd {W : World} {p : Option Addr} {l q : Nat} {xs : List Value} (hx : ArgR W dks9 p l xs) (hq : q < l) : ∃ (a : Addr) (d : Dd), p = some a ∧ d.w < 18446744073709551616 ∧ (-9223372036854775808 ≤ d.y ∧ d.y ≤ 9223372036854775807) ∧
    ∀ j v, d.cells[j]? = some v → W.cell? ((a.add (q * 6)).add j) = some v := by
  obtain ⟨a, rfl⟩ := hx.some (by omega)
  have h := hx.rows q hq
  have hg : ∀ j k, dks9[j]? = some k → ∃ n, W.cell? ((a.add (q * 6)).add j) = some (.int k n) ∧ (Lit.int k n).wf = true := by
    intro j k hk
    obtain ⟨n, h1, h2⟩ := nums_get h hk
    have hj : j < 6 := get_lt hk
    rw [List.getElem?_take_of_lt (by simpa using hj), List.getElem?_drop] at h1
    refine ⟨n, ?_, h2⟩
    rw [add_add]
    exact hx.reads a rfl _ _ h1
  obtain ⟨d0, g0, _⟩ := hg 0 _ rfl
  obtain ⟨d1, g1, _⟩ := hg 1 _ rfl
  obtain ⟨d2, g2, w2⟩ := hg 2 _ rfl
  obtain ⟨d3, g3, _⟩ := hg 3 _ rfl
  obtain ⟨d4, g4, _⟩ := hg 4 _ rfl
  obtain ⟨d5, g5, w5⟩ := hg 5 _ rfl
  obtain ⟨z, rfl, hz⟩ := wf_u64 w5
  refine ⟨a, ⟨d0, d1, d2, d3, d4, z⟩, rfl, hz, wf_i64 w2, fun j v hj => ?_⟩
  have hlt := get_lt hj
  unfold Dd.cells at hj hlt
  rcases j with _ | _ | _ | _ | _ | _ | j
  · cases hj; exact g0
  · cases hj; exact g1
  · cases hj; exact g2
  · cases hj; exact g3
  · cases hj; exact g4
  · cases hj; exact g5
  · simp only [List.length_cons, List.length_nil] at hlt; omega
theorem crs_nil (S : Mem) (k c : Nat) : CRs S k [] none 0 c := ⟨by simp, by omega, by omega, by simp, by simp⟩
theorem mir_new (S : Mem) (n k : Nat) : Mir S (Hp.new n k) [] Rh.zero [] :=
  ⟨by simp, fun x hx => (by cases hx), fun y hy => (by rw [new_look] at hy; cases hy), rfl, ⟨rfl, by simp, crs_nil _ _ _⟩⟩
end Go.Proofs.Ytdfdmboljidhnaa
