
/- From what a law's call comes to, to its row: a law answers true and leaves its arguments alone. -/
import Derived.Test.YtpicofkhioalkaaTb
import Derived.ProofKit
import Derived.OpenShut
namespace Go.Lw
open Go Go.ChangeShapes Go.WideShapes Go.ChangeAt Go.RowKit

theorem trodAll_below {H : Type} {enc : TypeId × Value → H} {P : Program} (hl : laidOutB P = true) {W W' : World} (hb : Below W.heap.size W W') :
    ∀ {ts : List TypeId} {vs : List Value} {ds : List (DataW H)} {ps : List MemPlace}, (∀ t ∈ ts, P.readableRec t = true ∧ t < P.types.size) →
      DataW.TrodAll enc P W 0 (fun _ => true) true ts vs ds ps → (∀ x ∈ ps, x.block < W.heap.size) → DataW.TrodAll enc P W' 0 (fun b => decide (b < W.heap.size)) true ts vs ds ps
  | [], vs, ds, ps, _, h, _ => by
    obtain ⟨rfl, rfl, rfl⟩ := trodAll_nil h
    exact trodAll_mk0
  | t :: ts, vs, ds, ps, ht, h, hlt => by
    obtain ⟨v, vs', d, ds', p, q, rfl, rfl, rfl, h0, hr⟩ := trodAll_cons h
    obtain ⟨h1, h2⟩ := ht t List.mem_cons_self
    exact trodAll_cons_mk (Below.trod hl h1 h2 h0 hb fun x hx => hlt x (List.mem_append_left _ hx))
      (trodAll_below hl hb (fun t' ht' => ht t' (List.mem_cons_of_mem _ ht')) hr fun x hx => hlt x (List.mem_append_right _ hx))

/-- A law's row, behind the call: it has answered true, and below the heap's old end nothing has turned. -/
theorem law_post {H : Type} {enc : TypeId × Value → H} {P : Program} {f : Func} {s : ChangeSpec} {W W' : World} {args : Array Value} {ds gs : List (DataW H)} {before : List MemPlace} {tb : TypeId}
    (hl : laidOutB P = true) (hts : ∀ t ∈ f.params.toList, P.readableRec t = true ∧ t < P.types.size) (hr : f.resultTypes = #[tb]) (hu : P.underlying tb = some .bool) (hv : s.vars = [])
    (hW : DataW.Whole enc P f.params.toList s.vars false W args.toList ds gs before) (hfn : (s.fn H ds).results = [.lit (.bool true)] ∧ (s.fn H ds).args = ds ∧ (s.fn H ds).vars = []) (hb : Below W.heap.size W W') :
    s.post enc P f false true false false W args (.bool true) W' := by
  have hW0 := hW
  have hlt : ∀ x ∈ before, x.block < W.heap.size := fun x hx => hW.lt x hx
  obtain ⟨p, q, hA, hV, rfl, hfz, hnd⟩ := hW
  rw [hv] at hV
  obtain ⟨rfl, rfl⟩ := trodVars_none hV
  obtain ⟨f1, f2, f3⟩ := hfn
  refine ⟨ds, [], p ++ [], [], p, [], hW0, ?_, ?_, ?_, ?_, fun h => by cases h⟩
  · rw [List.append_nil, f1, hr]
    exact trodAll_mk1 (shut_bool hu true)
  · rw [List.append_nil, f2]
    exact trodAll_below hl hb hts hA fun x hx => hlt x (List.mem_append_left _ hx)
  · rw [List.append_nil, f3, hv]
    exact hV
  · exact hb.frame _

/-- A slice of whole numbers that came in, as it is read. -/
structure ArgI (W : World) (k : IntKind) (p : Option Addr) (l : Nat) (zs : List Int) : Prop where
  len : zs.length = l
  some : 0 < l → ∃ a, p = some a
  reads : Reads W p (zs.map (Value.int k))
  wf : ∀ n ∈ zs, (Lit.int k n).wf = true
  max : l ≤ maxLen

theorem argInts {H : Type} {enc : TypeId × Value → H} {P : Program} {W : World} {t e : TypeId} {k : IntKind} {p : Option Addr} {l c : Nat} {d : DataW H} {ps : List MemPlace}
    (ht : P.underlying t = some (.slice e)) (he : P.underlying e = some (.int k)) (hc : P.cellsOf e = 1) (h : DataW.Trod enc P W 0 (fun _ => true) true t (.slice p l c) d ps) :
    ∃ zs, ArgI W k p l zs := by
  obtain ⟨fuel, hf⟩ := h
  rcases open_ints ht he hc hf with ⟨hcs, hx⟩ | ⟨a, len, cap, zs, hcs, _, hl, hm, hz, hx, hcell, hwz⟩
  · simp [Value.cells] at hcs
    obtain ⟨rfl, rfl, rfl⟩ := hcs
    exact ⟨[], rfl, (fun h => by omega), (fun a ha => by cases ha), (fun n hn => by cases hn), by simp [maxLen]⟩
  · simp [Value.cells] at hcs
    obtain ⟨rfl, rfl, rfl⟩ := hcs
    refine ⟨zs.take l, ?_, fun _ => ⟨a, rfl⟩, ?_, ?_, by omega⟩
    · simp at hz; simp [hz]; omega
    · intro b hb j u hj
      cases hb
      simp at hz
      rw [List.getElem?_map] at hj
      cases hjj : (zs.take l)[j]? with
      | none => rw [hjj] at hj; cases hj
      | some z =>
        rw [hjj] at hj
        simp only [Option.map_some, Option.some.injEq] at hj
        subst hj
        have hlt : j < l := by
          rcases Nat.lt_or_ge j l with h | h
          · exact h
          · rw [List.getElem?_eq_none (by simp; omega)] at hjj; cases hjj
        rw [List.getElem?_take_of_lt hlt] at hjj
        rw [hcell j (by omega)]
        simp [List.getD_eq_getElem?_getD, hjj]
    · intro n hn
      exact hwz n (List.mem_of_mem_take hn)

/-- A struct of whole numbers, each in its cell. -/
def intFields (P : Program) : List Field → Nat → Option (List IntKind)
  | [], _ => some []
  | f :: fs, i =>
    match P.underlying f.type, intFields P fs (i + 1) with
    | some (.int k), some ks => if f.offset = i ∧ P.cellsOf f.type = 1 then some (k :: ks) else none
    | _, _ => none

/-- cells that are numbers of their kinds. -/
def Nums : List IntKind → List Value → Prop
  | [], [] => True
  | k :: ks, v :: vs => (∃ n, v = .int k n ∧ (Lit.int k n).wf = true) ∧ Nums ks vs
  | _, _ => False

theorem trod_fields {H : Type} {enc : TypeId × Value → H} {P : Program} {W : World} {base : Nat} {spare : Nat → Bool} {held : Bool} {fuel : Nat} :
    ∀ (fs : List Field) (i : Nat) (ks : List IntKind) (cs : List Value) (xs : List (DataW H × List MemPlace)), intFields P fs i = some ks → cs.length = i + fs.length →
      (fs.mapM fun f => DataW.trod enc P W base spare held fuel f.type ((cs.drop f.offset).take (P.cellsOf f.type))) = some xs → Nums ks (cs.drop i)
  | [], i, ks, cs, xs, hk, hl, _ => by
    simp only [intFields, Option.some.injEq] at hk
    subst hk
    rw [List.drop_eq_nil_of_le (by simp at hl; omega)]
    trivial
  | f :: fs, i, ks, cs, xs, hk, hl, hm => by
    simp only [intFields] at hk
    split at hk
    · rename_i k ks' hu hks
      split at hk
      · rename_i hc
        simp only [Option.some.injEq] at hk
        subst hk
        simp only [List.length_cons] at hl
        rw [List.mapM_cons] at hm
        obtain ⟨y, hy, hm⟩ := Option.bind_eq_some_iff.1 hm
        obtain ⟨ys, hys, _⟩ := Option.bind_eq_some_iff.1 hm
        have ih := trod_fields fs (i + 1) ks' cs ys hks (by omega) hys
        have hlt : i < cs.length := by omega
        rw [List.drop_eq_getElem_cons hlt]
        rw [hc.1, hc.2, List.drop_eq_getElem_cons hlt] at hy
        simp only [List.take_succ_cons, List.take_zero] at hy
        obtain ⟨n, h1, _, h3⟩ := DataW.trod_int hu hy
        simp only [List.cons.injEq, and_true] at h1
        exact ⟨⟨n, h1, h3⟩, ih⟩
      · cases hk
    · cases hk

/-- A slice of structs of whole numbers that came in, as it is read: so many cells in a row. -/
structure ArgR (W : World) (ks : List IntKind) (p : Option Addr) (l : Nat) (xs : List Value) : Prop where
  some : 0 < l → ∃ a, p = some a
  reads : Reads W p xs
  rows : ∀ i, i < l → Nums ks ((xs.drop (i * ks.length)).take ks.length)
  max : l ≤ maxLen

theorem argRows {H : Type} {enc : TypeId × Value → H} {P : Program} {W : World} {t e : TypeId} {fs : Array Field} {ks : List IntKind} {p : Option Addr} {l c : Nat} {d : DataW H} {ps : List MemPlace}
    (ht : P.underlying t = some (.slice e)) (he : P.underlying e = some (.struct fs)) (hk : intFields P fs.toList 0 = some ks) (hc : P.cellsOf e = ks.length) (hf : fs.size = ks.length)
    (h : DataW.Trod enc P W 0 (fun _ => true) true t (.slice p l c) d ps) : (∃ xs, ArgR W ks p l xs) ∧ (l = 0 ∨ ∃ elems spare, d = .slice elems spare ∧ elems.length = l) := by
  obtain ⟨fuel, hfu⟩ := h
  rcases DataW.trod_slice ht hfu with ⟨hcs, hx⟩ | ⟨a, len, cap, elems, rest, n, rfl, hcs, hx, hb, hl, hm, hlen, hel, _, _⟩
  · simp [Value.cells] at hcs
    obtain ⟨rfl, rfl, rfl⟩ := hcs
    exact ⟨⟨[], (fun h => by omega), (fun a ha => by cases ha), (fun i hi => by omega), by simp [maxLen]⟩, .inl rfl⟩
  · simp [Value.cells] at hcs
    obtain ⟨rfl, rfl, rfl⟩ := hcs
    refine ⟨?_, .inr ⟨elems.map (·.1), rest.map (·.1), (Prod.mk.inj hx).1, by simpa using hlen⟩⟩
    -- each element's cells
    have each : ∀ i, i < l → ∃ cs, W.cells? 0 (a.add (i * ks.length)) ks.length = some cs ∧ Nums ks cs := by
      intro i hi
      have h1 := hel i hi
      rw [List.getElem?_eq_getElem (by omega), hc] at h1
      obtain ⟨cs, h2, h3⟩ := Option.bind_eq_some_iff.1 h1
      refine ⟨cs, h2, ?_⟩
      have hcl : cs.length = ks.length := (World.cells?_some h2).2.1
      cases n with
      | zero => simp [DataW.trod] at h3
      | succ n =>
        unfold DataW.trod at h3
        rw [he] at h3
        simp only [hc, hcl, if_true, Option.map_eq_some_iff] at h3
        obtain ⟨xs, h4, _⟩ := h3
        have := trod_fields fs.toList 0 ks cs xs hk (by simp [hcl, hf]) h4
        simpa using this
    let f : Nat → List Value := fun i => if h : i < l then (each i h).choose else List.replicate ks.length (.bool true)
    have hfl : ∀ i, (f i).length = ks.length := by
      intro i
      simp only [f]
      split
      · rename_i h; exact (World.cells?_some (each i h).choose_spec.1).2.1
      · simp
    refine ⟨Go.Tb.rowsF l f, fun _ => ⟨a, rfl⟩, ?_, ?_, by omega⟩
    · intro b hb' j v hj
      cases hb'
      have hj' : j < l * ks.length := by
        rcases Nat.lt_or_ge j (l * ks.length) with h | h
        · exact h
        · rw [List.getElem?_eq_none (by rw [Go.Tb.rowsF_len hfl]; exact h)] at hj; cases hj
      have hs : 0 < ks.length := by
        rcases Nat.eq_zero_or_pos ks.length with h | h
        · rw [h] at hj'; omega
        · exact h
      rw [Go.Tb.rowsF_get' hfl hs hj'] at hj
      have hi : j / ks.length < l := (Nat.div_lt_iff_lt_mul hs).2 hj'
      have hfi : f (j / ks.length) = (each _ hi).choose := by simp only [f]; rw [dif_pos hi]
      have hcs := (each _ hi).choose_spec.1
      rw [hfi] at hj
      have h5 := (World.cells?_some hcs).2.2 (j % ks.length) (Nat.mod_lt _ hs)
      rw [hj] at h5
      rw [← h5]
      congr 1
      have h3 : j / ks.length * ks.length + j % ks.length = j := by rw [Nat.mul_comm]; exact Nat.div_add_mod j ks.length
      generalize j / ks.length * ks.length = u at h3 ⊢
      generalize j % ks.length = v' at h3 ⊢
      subst h3
      unfold Addr.add
      by_cases e1 : u = 0 <;> by_cases e2 : v' = 0 <;> simp [e1, e2, Nat.add_assoc]
    · intro i hi
      have hfi : f i = (each _ hi).choose := by simp only [f]; rw [dif_pos hi]
      have : ((Go.Tb.rowsF l f).drop (i * ks.length)).take ks.length = f i := by
        apply List.ext_getElem?
        intro j
        by_cases hj : j < ks.length
        · rw [List.getElem?_take_of_lt hj, List.getElem?_drop, Go.Tb.rowsF_get hfl hi hj]
        · rw [List.getElem?_eq_none (by simp; omega), List.getElem?_eq_none (by rw [hfl]; omega)]
      rw [this, hfi]
      exact (each _ hi).choose_spec.2

theorem cell_lt {W : World} {a : Addr} {v : Value} (h : W.cell? a = some v) : a.block < W.heap.size := by
  rcases Nat.lt_or_ge a.block W.heap.size with hh | hh
  · exact hh
  · simp [World.cell?, Array.getElem?_eq_none hh] at h

theorem Sat.baseCell {L : List HP} {w W : World} (hs : Sat L w) (i : Nat) (hi : L[i]? = some (Base W)) {a : Addr} {v : Value} (h : W.cell? a = some v) : w.cell? a = some v := by
  have := hs.base i hi (cell_lt h)
  rw [← h]
  exact World.cell?_of_block this

theorem Sat.baseReads {L : List HP} {w W : World} (hs : Sat L w) (i : Nat) (hi : L[i]? = some (Base W)) {p : Option Addr} {xs : List Value} (h : Reads W p xs) : Reads w p xs :=
  fun a ha j v hj => hs.baseCell i hi (h a ha j v hj)

theorem bAnd_le (n : Int) (mask : Nat) (hm : mask < 9223372036854775808) : ∃ x : Nat, x ≤ mask ∧ bAnd .i64 n (mask : Int) = (x : Int) := by
  refine ⟨(BitVec.ofInt (IntKind.bits .i64) n &&& BitVec.ofInt (IntKind.bits .i64) (mask : Int)).toNat, ?_, ?_⟩
  · rw [BitVec.toNat_and]
    refine Nat.le_trans Nat.and_le_right ?_
    rw [BitVec.ofInt_natCast, BitVec.toNat_ofNat]
    exact Nat.mod_le _ _
  · have h1 : (BitVec.ofInt (IntKind.bits .i64) n &&& BitVec.ofInt (IntKind.bits .i64) (mask : Int)).toNat ≤ mask := by
      rw [BitVec.toNat_and]
      refine Nat.le_trans Nat.and_le_right ?_
      rw [BitVec.ofInt_natCast, BitVec.toNat_ofNat]
      exact Nat.mod_le _ _
    unfold bAnd
    rw [IntKind.wrap_i64]
    omega

theorem tmod_nat (x k : Nat) : Int.tmod (x : Int) (k : Int) = ((x % k : Nat) : Int) := by
  rw [Int.tmod_eq_emod_of_nonneg (by omega)]
  omega
end Go.Lw
