
/- More on parts of the heap: their order, slices that are owned, what came in. No program in sight. -/
import Derived.Test.YtpicofkhioalkaaLaw
namespace Go.Lw
open Go Go.Tb

theorem sepL_perm {L L' : List HP} (h : L.Perm L') {s : Still} : ∀ {f : Nat → Option Obj}, sepL L s f → sepL L' s f := by
  induction h with
  | nil => exact fun x => x
  | cons A _ ih => exact fun x => star_mono (fun _ y => ih y) x
  | swap A B L => exact fun x => star_swap x
  | trans _ _ ih1 ih2 => exact fun x => ih2 (ih1 x)
theorem Sat.perm {L L' : List HP} {w : World} (hs : Sat L w) (h : L.Perm L') : Sat L' w := by
  obtain ⟨f, hw, x⟩ := hs
  exact ⟨f, hw, sepL_perm h x⟩
theorem Sat.last {A : HP} {L : List HP} {w : World} (hs : Sat (A :: L) w) : Sat (L ++ [A]) w := hs.perm (List.perm_append_singleton A L).symm

section
variable {L : List HP} {w : World}
theorem IdxC.ownAt {e s l c k : Nat} {p : Option Addr} {xs : List Value} {K : Addr → Prop} (hs : Sat L w) (i : Nat) (hi : L[i]? = some (Own e s p l c xs)) (hk : k < l) (h : ∀ g, p = some ⟨g, 0, none⟩ → K ⟨g, k * s, none⟩) : IdxC p l (k : Int) s K := by
  obtain ⟨g, hg⟩ := hs.own_some i hi (by omega)
  have hh := h g hg
  subst hg
  refine IdxC.of (by omega) (by omega) ?_
  simpa using hh
theorem Sat.ownAt {e s g l c off : Nat} {p : Option Addr} {xs : List Value} {v : Value} (hs : Sat L w) (i : Nat) (hi : L[i]? = some (Own e s p l c xs)) (hp : p = some ⟨g, 0, none⟩) (hc : xs[off]? = some v) : w.cell? ⟨g, off, none⟩ = some v := by
  subst hp; exact hs.ownCell i hi hc
theorem StC.ownAt {e s g l c off : Nat} {p : Option Addr} {xs : List Value} {a : Addr} {v v0 : Value} {K : World → Prop} (hs : Sat L w) (i : Nat) (hi : L[i]? = some (Own e s p l c xs)) (hp : p = some ⟨g, 0, none⟩) (hc : xs[off]? = some v0) (ha : a = ⟨g, off, none⟩)
    (h : ∀ w', Sat (L.set i (Own e s p l c (xs.set off v))) w' → K w') : StC w a v K := by
  subst hp; exact StC.own hs i hi hc ha h
end

def intsL (l : List Nat) : List Value := l.map fun (n : Nat) => .int .i64 (n : Int)
def boolsL (l : List Bool) : List Value := l.map .bool

theorem Nums.get : ∀ {ks : List IntKind} {cs : List Value} {q : Nat} {k : IntKind}, Nums ks cs → ks[q]? = some k → ∃ n, cs[q]? = some (.int k n) ∧ (Lit.int k n).wf = true
  | [], _, _, _, _, hq => by simp at hq
  | k :: ks, [], _, _, h, _ => h.elim
  | k :: ks, v :: cs, 0, k', h, hq => by
    simp only [List.getElem?_cons_zero, Option.some.injEq] at hq
    subst hq
    obtain ⟨n, rfl, hw⟩ := h.1
    exact ⟨n, rfl, hw⟩
  | k :: ks, v :: cs, q + 1, k', h, hq => by
    simp only [List.getElem?_cons_succ] at hq ⊢
    exact h.2.get hq
/-- a number of an element of structs of numbers that came in. -/
theorem argCell {W : World} {ks : List IntKind} {p : Option Addr} {l : Nat} {xs : List Value} (hz : ArgR W ks p l xs) {j q : Nat} {k : IntKind} (hj : j < l) (hq : ks[q]? = some k) : ∃ n, xs[j * ks.length + q]? = some (.int k n) ∧ (Lit.int k n).wf = true := by
  obtain ⟨n, hn, hw⟩ := (hz.rows j hj).get hq
  have hlt : q < ks.length := by
    rcases Nat.lt_or_ge q ks.length with h | h
    · exact h
    · rw [List.getElem?_eq_none h] at hq; cases hq
  rw [List.getElem?_take_of_lt hlt, List.getElem?_drop] at hn
  exact ⟨n, hn, hw⟩
theorem wf_u64 {n : Int} (h : (Lit.int .u64 n).wf = true) : ∃ x : Nat, n = x ∧ x < 18446744073709551616 := by
  have h2 : 0 ≤ n ∧ n ≤ 18446744073709551615 := by simpa [Lit.wf, IntKind.min, IntKind.max, IntKind.signed, IntKind.bits] using h
  obtain ⟨x, rfl⟩ := Int.eq_ofNat_of_zero_le h2.1
  exact ⟨x, rfl, by omega⟩
theorem wf_i64 {n : Int} (h : (Lit.int .i64 n).wf = true) : -9223372036854775808 ≤ n ∧ n ≤ 9223372036854775807 := by
  simpa [Lit.wf, IntKind.min, IntKind.max, IntKind.signed, IntKind.bits] using h
theorem tdiv_nat (x k : Nat) : Int.tdiv (x : Int) (k : Int) = ((x / k : Nat) : Int) := by
  rw [Int.tdiv_eq_ediv_of_nonneg (by omega)]; omega

/-! What came in, by its type: numbers, bools, strings, slices of structs of such, each part in one cell. -/
inductive ATy where
  | int (k : IntKind) | bool | str | slice (fs : List ATy)
mutual
def AOK (W : World) : ATy → Value → Prop
  | .int k, v => ∃ n, v = .int k n ∧ (Lit.int k n).wf = true
  | .bool, v => ∃ b : Bool, v = .bool b
  | .str, v => ∃ s : ByteArray, v = .string s ∧ s.size ≤ maxLen
  | .slice fs, v => ∃ (p : Option Addr) (l c : Nat) (xs : List Value), v = .slice p l c ∧ (0 < l → ∃ a, p = some a) ∧ Reads W p xs ∧ xs.length = l * fs.length ∧ l ≤ maxLen ∧ ∀ i, i < l → AOKs W fs ((xs.drop (i * fs.length)).take fs.length)
def AOKs (W : World) : List ATy → List Value → Prop
  | [], [] => True
  | a :: ts, v :: vs => AOK W a v ∧ AOKs W ts vs
  | _, _ => False
end
def fldTys (P : Program) (g : TypeId → Option ATy) : List Field → Nat → Option (List ATy)
  | [], _ => some []
  | f :: fs, i =>
    match g f.type, fldTys P g fs (i + 1) with
    | some a, some ts => if f.offset = i ∧ P.cellsOf f.type = 1 then some (a :: ts) else none
    | _, _ => none
def aty (P : Program) : Nat → TypeId → Option ATy
  | 0, _ => none
  | n + 1, t =>
    match P.underlying t with
    | some (.int k) => some (.int k)
    | some .bool => some .bool
    | some .string => some .str
    | some (.slice e) =>
      match P.underlying e with
      | some (.struct fs) => if P.cellsOf e = fs.size then (fldTys P (aty P n) fs.toList 0).map .slice else none
      | _ => if P.cellsOf e = 1 then (aty P n e).map fun a => .slice [a] else none
    | _ => none

section
variable {H : Type} {enc : TypeId × Value → H} {P : Program} {W : World} {base : Nat} {spare : Nat → Bool} {held : Bool}
theorem fldTys_ok {g : TypeId → Option ATy} {fuel : Nat} (hg : ∀ t a cs x, g t = some a → DataW.trod enc P W base spare held fuel t cs = some x → ∃ v, cs = [v] ∧ AOK W a v) :
    ∀ (fs : List Field) (i : Nat) (ts : List ATy) (cs : List Value) (xs : List (DataW H × List MemPlace)), fldTys P g fs i = some ts → cs.length = i + fs.length →
      (fs.mapM fun f => DataW.trod enc P W base spare held fuel f.type ((cs.drop f.offset).take (P.cellsOf f.type))) = some xs → AOKs W ts (cs.drop i) ∧ ts.length = fs.length
  | [], i, ts, cs, xs, hk, hl, _ => by
    simp only [fldTys, Option.some.injEq] at hk
    subst hk
    rw [List.drop_eq_nil_of_le (by simp at hl; omega)]
    exact ⟨by simp [AOKs], rfl⟩
  | f :: fs, i, ts, cs, xs, hk, hl, hm => by
    simp only [fldTys] at hk
    split at hk
    · rename_i a ts' ha has
      split at hk
      · rename_i hc
        simp only [Option.some.injEq] at hk
        subst hk
        simp only [List.length_cons] at hl
        rw [List.mapM_cons] at hm
        obtain ⟨y, hy, hm⟩ := Option.bind_eq_some_iff.1 hm
        obtain ⟨ys, hys, _⟩ := Option.bind_eq_some_iff.1 hm
        have ih := fldTys_ok hg fs (i + 1) ts' cs ys has (by omega) hys
        have hlt : i < cs.length := by omega
        rw [List.drop_eq_getElem_cons hlt]
        rw [hc.1, hc.2, List.drop_eq_getElem_cons hlt] at hy
        simp only [List.take_succ_cons, List.take_zero] at hy
        obtain ⟨v, h1, h2⟩ := hg _ _ _ _ ha hy
        simp only [List.cons.injEq, and_true] at h1
        rw [h1]
        refine ⟨?_, by simp [ih.2]⟩
        simp only [AOKs]
        exact ⟨h2, ih.1⟩
      · cases hk
    · cases hk

/-- a slice's elements, all in one row. -/
theorem slice_rows {e : TypeId} {s : Nat} {ts : List ATy} {fuel : Nat} {a : Addr} {len : Nat} {elems : List (DataW H × List MemPlace)} (hc : P.cellsOf e = s) (has : ts.length = s)
    (he : ∀ cs x, cs.length = s → DataW.trod enc P W base spare held fuel e cs = some x → AOKs W ts cs) (hlen : elems.length = len)
    (hel : ∀ i, i < len → (W.cells? base (a.add (i * P.cellsOf e)) (P.cellsOf e)).bind (DataW.trod enc P W base spare held fuel e) = elems[i]?) :
    ∃ xs, Reads W (some a) xs ∧ xs.length = len * s ∧ ∀ i, i < len → AOKs W ts ((xs.drop (i * s)).take s) := by
  have each : ∀ i, i < len → ∃ cs, W.cells? base (a.add (i * s)) s = some cs ∧ AOKs W ts cs := by
    intro i hi
    have h1 := hel i hi
    rw [List.getElem?_eq_getElem (by omega), hc] at h1
    obtain ⟨cs, h2, h3⟩ := Option.bind_eq_some_iff.1 h1
    exact ⟨cs, h2, he cs _ (World.cells?_some h2).2.1 h3⟩
  let f : Nat → List Value := fun i => if h : i < len then (each i h).choose else List.replicate s (.bool true)
  have hfl : ∀ i, (f i).length = s := by
    intro i
    simp only [f]
    split
    · rename_i h; exact (World.cells?_some (each i h).choose_spec.1).2.1
    · simp
  refine ⟨Go.Tb.rowsF len f, ?_, Go.Tb.rowsF_len hfl len, ?_⟩
  · intro b hb' j v hj
    cases hb'
    have hj' : j < len * s := by
      rcases Nat.lt_or_ge j (len * s) with h | h
      · exact h
      · rw [List.getElem?_eq_none (by rw [Go.Tb.rowsF_len hfl]; exact h)] at hj; cases hj
    have hs : 0 < s := by
      rcases Nat.eq_zero_or_pos s with h | h
      · rw [h] at hj'; omega
      · exact h
    rw [Go.Tb.rowsF_get' hfl hs hj'] at hj
    have hi : j / s < len := (Nat.div_lt_iff_lt_mul hs).2 hj'
    have hfi : f (j / s) = (each _ hi).choose := by simp only [f]; rw [dif_pos hi]
    have hcs := (each _ hi).choose_spec.1
    rw [hfi] at hj
    have h5 := (World.cells?_some hcs).2.2 (j % s) (Nat.mod_lt _ hs)
    rw [hj] at h5
    rw [← h5]
    congr 1
    have h3 : j / s * s + j % s = j := by rw [Nat.mul_comm]; exact Nat.div_add_mod j s
    generalize j / s * s = u at h3 ⊢
    generalize j % s = v' at h3 ⊢
    subst h3
    unfold Addr.add
    by_cases e1 : u = 0 <;> by_cases e2 : v' = 0 <;> simp [e1, e2, Nat.add_assoc]
  · intro i hi
    have hfi : f i = (each _ hi).choose := by simp only [f]; rw [dif_pos hi]
    have : ((Go.Tb.rowsF len f).drop (i * s)).take s = f i := by
      apply List.ext_getElem?
      intro j
      by_cases hj : j < s
      · rw [List.getElem?_take_of_lt hj, List.getElem?_drop, Go.Tb.rowsF_get hfl hi hj]
      · rw [List.getElem?_eq_none (by simp; omega), List.getElem?_eq_none (by rw [hfl]; omega)]
    rw [this, hfi]
    exact (each _ hi).choose_spec.2

theorem aty_ok : ∀ {n : Nat} {t : TypeId} {a : ATy} {fuel : Nat} {cs : List Value} {x : DataW H × List MemPlace}, aty P n t = some a → DataW.trod enc P W base spare held fuel t cs = some x → ∃ v, cs = [v] ∧ AOK W a v
  | 0, t, a, fuel, cs, x, h, _ => by simp [aty] at h
  | n + 1, t, a, fuel, cs, x, h, hx => by
    unfold aty at h
    split at h
    · rename_i k hu
      simp only [Option.some.injEq] at h
      subst h
      obtain ⟨m, h1, _, h3⟩ := DataW.trod_int hu hx
      exact ⟨_, h1, by simp only [AOK]; exact ⟨m, rfl, h3⟩⟩
    · rename_i hu
      simp only [Option.some.injEq] at h
      subst h
      obtain ⟨b, h1, _⟩ := DataW.trod_bool hu hx
      exact ⟨_, h1, by simp only [AOK]; exact ⟨b, rfl⟩⟩
    · rename_i hu
      simp only [Option.some.injEq] at h
      subst h
      obtain ⟨s, h1, _, h3⟩ := DataW.trod_string hu hx
      exact ⟨_, h1, by simp only [AOK]; exact ⟨s, rfl, h3⟩⟩
    · rename_i e hu
      have nilCase : ∀ (fs : List ATy), AOK W (.slice fs) (.slice none 0 0) := fun fs => by
        simp only [AOK]
        exact ⟨none, 0, 0, [], rfl, (fun h => absurd h (by omega)), (fun a ha => by cases ha), by simp, by simp [maxLen], (fun i hi => absurd hi (by omega))⟩
      rcases DataW.trod_slice hu hx with ⟨h0, _⟩ | ⟨ad, len, cap, elems, rest, m, _, h0, _, _, hl, hm, hlen, hel, _, _⟩
      · have ha : ∃ fs, a = .slice fs := by
          split at h
          · split at h
            · obtain ⟨fs', _, hf⟩ := Option.map_eq_some_iff.1 h; exact ⟨_, hf.symm⟩
            · cases h
          · split at h
            · obtain ⟨fs', _, hf⟩ := Option.map_eq_some_iff.1 h; exact ⟨_, hf.symm⟩
            · cases h
        obtain ⟨fs, rfl⟩ := ha
        exact ⟨_, h0, nilCase fs⟩
      · split at h
        · rename_i fs hue
          split at h
          · rename_i hc
            obtain ⟨ts, has, rfl⟩ := Option.map_eq_some_iff.1 h
            have hasl : ts.length = fs.size := by
              have : ∀ (l : List Field) (i : Nat) (ts : List ATy), fldTys P (aty P n) l i = some ts → ts.length = l.length := by
                intro l
                induction l with
                | nil => intro i ts h; simp only [fldTys, Option.some.injEq] at h; subst h; rfl
                | cons f l ih =>
                  intro i ts h
                  simp only [fldTys] at h
                  split at h
                  · rename_i a' ts' ha has'
                    split at h
                    · simp only [Option.some.injEq] at h; subst h; simp [ih _ _ has']
                    · cases h
                  · cases h
              simpa using this _ _ _ has
            obtain ⟨xs, h1, h2, h3⟩ := slice_rows (ts := ts) hc hasl (fun cs y hcl hy => by
              cases m with
              | zero => simp [DataW.trod] at hy
              | succ m =>
                unfold DataW.trod at hy
                rw [hue] at hy
                simp only [hc, hcl, if_true, Option.map_eq_some_iff] at hy
                obtain ⟨ys, h4, _⟩ := hy
                have := (fldTys_ok (fun t a cs x h1 h2 => aty_ok h1 h2) fs.toList 0 ts cs ys has (by simp [hcl]) h4).1
                simpa using this) hlen hel
            refine ⟨_, h0, ?_⟩
            simp only [AOK]
            exact ⟨_, len, cap, xs, rfl, fun _ => ⟨ad, rfl⟩, h1, by rw [hasl]; exact h2, by omega, by rw [hasl]; exact h3⟩
          · cases h
        · split at h
          · rename_i hc
            obtain ⟨a', ha', rfl⟩ := Option.map_eq_some_iff.1 h
            obtain ⟨xs, h1, h2, h3⟩ := slice_rows (ts := [a']) hc rfl (fun cs y _ hy => by
              obtain ⟨v, rfl, hv⟩ := aty_ok ha' hy
              simp only [AOKs, and_true]
              exact hv) hlen hel
            refine ⟨_, h0, ?_⟩
            simp only [AOK]
            exact ⟨_, len, cap, xs, rfl, fun _ => ⟨ad, rfl⟩, h1, h2, by omega, h3⟩
          · cases h
    · cases h
end

/-- A slice that came in. -/
structure ArgF (W : World) (fs : List ATy) (p : Option Addr) (l : Nat) (xs : List Value) : Prop where
  ptr : 0 < l → ∃ a, p = some a
  reads : Reads W p xs
  len : xs.length = l * fs.length
  max : l ≤ maxLen
  rows : ∀ i, i < l → AOKs W fs ((xs.drop (i * fs.length)).take fs.length)
theorem AOK.slice {W : World} {fs : List ATy} {v : Value} (h : AOK W (.slice fs) v) : ∃ p l c xs, v = .slice p l c ∧ ArgF W fs p l xs := by
  simp only [AOK] at h
  obtain ⟨p, l, c, xs, rfl, h1, h2, h3, h4, h5⟩ := h
  exact ⟨p, l, c, xs, rfl, h1, h2, h3, h4, h5⟩
theorem AOKs.get {W : World} : ∀ {fs : List ATy} {cs : List Value} {q : Nat} {a : ATy}, AOKs W fs cs → fs[q]? = some a → ∃ v, cs[q]? = some v ∧ AOK W a v
  | [], _, _, _, _, hq => by simp at hq
  | f :: fs, [], _, _, h, _ => by simp [AOKs] at h
  | f :: fs, v :: cs, 0, a, h, hq => by
    simp only [List.getElem?_cons_zero, Option.some.injEq] at hq
    subst hq
    simp only [AOKs] at h
    exact ⟨v, rfl, h.1⟩
  | f :: fs, v :: cs, q + 1, a, h, hq => by
    simp only [List.getElem?_cons_succ] at hq ⊢
    simp only [AOKs] at h
    exact AOKs.get h.2 hq
/-- a part of an element. -/
theorem ArgF.part {W : World} {fs : List ATy} {p : Option Addr} {l : Nat} {xs : List Value} (hz : ArgF W fs p l xs) {j q : Nat} {a : ATy} (hj : j < l) (hq : fs[q]? = Option.some a) : ∃ v, xs[j * fs.length + q]? = Option.some v ∧ AOK W a v := by
  obtain ⟨v, hv, h⟩ := (hz.rows j hj).get hq
  have hlt : q < fs.length := by
    rcases Nat.lt_or_ge q fs.length with h | h
    · exact h
    · rw [List.getElem?_eq_none h] at hq; cases hq
  rw [List.getElem?_take_of_lt hlt, List.getElem?_drop] at hv
  exact ⟨v, hv, h⟩
theorem AOK.int {W : World} {k : IntKind} {v : Value} (h : AOK W (.int k) v) : ∃ n, v = .int k n ∧ (Lit.int k n).wf = true := by simpa only [AOK] using h
theorem AOK.bool {W : World} {v : Value} (h : AOK W .bool v) : ∃ b : Bool, v = .bool b := by simpa only [AOK] using h
theorem argOf {H : Type} {enc : TypeId × Value → H} {P : Program} {W : World} {n : Nat} {t : TypeId} {a : ATy} {v : Value} {d : DataW H} {ps : List MemPlace} (h : aty P n t = some a)
    (hc : v.cells.toList = [v]) (ht : DataW.Trod enc P W 0 (fun _ => true) true t v d ps) : AOK W a v := by
  obtain ⟨fuel, hf⟩ := ht
  obtain ⟨u, hu, ha⟩ := aty_ok h hf
  rw [hc] at hu
  cases hu
  exact ha
end Go.Lw
