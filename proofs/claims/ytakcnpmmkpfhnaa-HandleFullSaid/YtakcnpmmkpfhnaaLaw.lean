/- From what a law's call comes to, to its row: a law answers true and leaves its arguments alone. -/
import Derived.Test.YtakcnpmmkpfhnaaLw
import Derived.ProofKit
import Derived.OpenShut
namespace Go.Lw
open Go Go.ChangeShapes Go.WideShapes Go.ChangeAt Go.RowKit

theorem trodAll_below {H : Type} {enc : TypeId × Value → H} {P : Program} (hl : laidOutB P = true) {W W' : World} (hb : Below W.heap.size W W') :
    ∀ {ts : List TypeId} {vs : List Value} {ds : List (DataW H)} {ps : List MemPlace}, (∀ t ∈ ts, P.readableRec t = true ∧ t < P.types.size) →
      DataW.TrodAll enc P W 0 (fun _ => true) true ts vs ds ps → (∀ x ∈ ps, x.block < W.heap.size) → DataW.TrodAll enc P W' 0 (fun b => decide (b < W.heap.size)) true ts vs ds ps
  | [], vs, ds, ps, _, h, _ => by
    obtain ⟨rfl, rfl, rfl⟩ := trodAll_nil h
    exact trodAll_mk0
  | t :: ts, vs, ds, ps, ht, h, hlt => by
    obtain ⟨v, vs', d, ds', p, q, rfl, rfl, rfl, h0, hr⟩ := trodAll_cons h
    obtain ⟨h1, h2⟩ := ht t List.mem_cons_self
    exact trodAll_cons_mk (Below.trod hl h1 h2 h0 hb fun x hx => hlt x (List.mem_append_left _ hx))
      (trodAll_below hl hb (fun t' ht' => ht t' (List.mem_cons_of_mem _ ht')) hr fun x hx => hlt x (List.mem_append_right _ hx))

/-- A law's row, behind the call: it has answered true, and below the heap's old end nothing has turned. -/
theorem law_post {H : Type} {enc : TypeId × Value → H} {P : Program} {f : Func} {s : ChangeSpec} {W W' : World} {args : Array Value} {ds gs : List (DataW H)} {before : List MemPlace} {tb : TypeId}
    (hl : laidOutB P = true) (hts : ∀ t ∈ f.params.toList, P.readableRec t = true ∧ t < P.types.size) (hr : f.resultTypes = #[tb]) (hu : P.underlying tb = some .bool) (hv : s.vars = [])
    (hW : DataW.Whole enc P f.params.toList s.vars false W args.toList ds gs before) (hfn : (s.fn H ds).results = [.lit (.bool true)] ∧ (s.fn H ds).args = ds ∧ (s.fn H ds).vars = []) (hb : Below W.heap.size W W') :
    s.post enc P f false true false false W args (.bool true) W' := by
  have hW0 := hW
  have hlt : ∀ x ∈ before, x.block < W.heap.size := fun x hx => hW.lt x hx
  obtain ⟨p, q, hA, hV, rfl, hfz, hnd⟩ := hW
  rw [hv] at hV
  obtain ⟨rfl, rfl⟩ := trodVars_none hV
  obtain ⟨f1, f2, f3⟩ := hfn
  refine ⟨ds, [], p ++ [], [], p, [], hW0, ?_, ?_, ?_, ?_, fun h => by cases h⟩
  · rw [List.append_nil, f1, hr]
    exact trodAll_mk1 (shut_bool hu true)
  · rw [List.append_nil, f2]
    exact trodAll_below hl hb hts hA fun x hx => hlt x (List.mem_append_left _ hx)
  · rw [List.append_nil, f3, hv]
    exact hV
  · exact hb.frame _

/-- A slice of whole numbers that came in, as it is read. -/
structure ArgI (W : World) (k : IntKind) (p : Option Addr) (l : Nat) (zs : List Int) : Prop where
  len : zs.length = l
  some : 0 < l → ∃ a, p = some a
  reads : Reads W p (zs.map (Value.int k))
  wf : ∀ n ∈ zs, (Lit.int k n).wf = true
  max : l ≤ maxLen

theorem argInts {H : Type} {enc : TypeId × Value → H} {P : Program} {W : World} {t e : TypeId} {k : IntKind} {p : Option Addr} {l c : Nat} {d : DataW H} {ps : List MemPlace}
    (ht : P.underlying t = some (.slice e)) (he : P.underlying e = some (.int k)) (hc : P.cellsOf e = 1) (h : DataW.Trod enc P W 0 (fun _ => true) true t (.slice p l c) d ps) :
    ∃ zs, ArgI W k p l zs := by
  obtain ⟨fuel, hf⟩ := h
  rcases open_ints ht he hc hf with ⟨hcs, hx⟩ | ⟨a, len, cap, zs, hcs, _, hl, hm, hz, hx, hcell, hwz⟩
  · simp [Value.cells] at hcs
    obtain ⟨rfl, rfl, rfl⟩ := hcs
    exact ⟨[], rfl, (fun h => by omega), (fun a ha => by cases ha), (fun n hn => by cases hn), by simp [maxLen]⟩
  · simp [Value.cells] at hcs
    obtain ⟨rfl, rfl, rfl⟩ := hcs
    refine ⟨zs.take l, ?_, fun _ => ⟨a, rfl⟩, ?_, ?_, by omega⟩
    · simp at hz; simp [hz]; omega
    · intro b hb j u hj
      cases hb
      simp at hz
      rw [List.getElem?_map] at hj
      cases hjj : (zs.take l)[j]? with
      | none => rw [hjj] at hj; cases hj
      | some z =>
        rw [hjj] at hj
        simp only [Option.map_some, Option.some.injEq] at hj
        subst hj
        have hlt : j < l := by
          rcases Nat.lt_or_ge j l with h | h
          · exact h
          · rw [List.getElem?_eq_none (by simp; omega)] at hjj; cases hjj
        rw [List.getElem?_take_of_lt hlt] at hjj
        rw [hcell j (by omega)]
        simp [List.getD_eq_getElem?_getD, hjj]
    · intro n hn
      exact hwz n (List.mem_of_mem_take hn)

theorem cell_lt {W : World} {a : Addr} {v : Value} (h : W.cell? a = some v) : a.block < W.heap.size := by
  rcases Nat.lt_or_ge a.block W.heap.size with hh | hh
  · exact hh
  · simp [World.cell?, Array.getElem?_eq_none hh] at h

theorem Sat.baseCell {L : List HP} {w W : World} (hs : Sat L w) (i : Nat) (hi : L[i]? = some (Base W)) {a : Addr} {v : Value} (h : W.cell? a = some v) : w.cell? a = some v := by
  have := hs.base i hi (cell_lt h)
  rw [← h]
  exact World.cell?_of_block this

theorem Sat.baseReads {L : List HP} {w W : World} (hs : Sat L w) (i : Nat) (hi : L[i]? = some (Base W)) {p : Option Addr} {xs : List Value} (h : Reads W p xs) : Reads w p xs :=
  fun a ha j v hj => hs.baseCell i hi (h a ha j v hj)

theorem bAnd_le (n : Int) (mask : Nat) (hm : mask < 9223372036854775808) : ∃ x : Nat, x ≤ mask ∧ bAnd .i64 n (mask : Int) = (x : Int) := by
  refine ⟨(BitVec.ofInt (IntKind.bits .i64) n &&& BitVec.ofInt (IntKind.bits .i64) (mask : Int)).toNat, ?_, ?_⟩
  · rw [BitVec.toNat_and]
    refine Nat.le_trans Nat.and_le_right ?_
    rw [BitVec.ofInt_natCast, BitVec.toNat_ofNat]
    exact Nat.mod_le _ _
  · have h1 : (BitVec.ofInt (IntKind.bits .i64) n &&& BitVec.ofInt (IntKind.bits .i64) (mask : Int)).toNat ≤ mask := by
      rw [BitVec.toNat_and]
      refine Nat.le_trans Nat.and_le_right ?_
      rw [BitVec.ofInt_natCast, BitVec.toNat_ofNat]
      exact Nat.mod_le _ _
    unfold bAnd
    rw [IntKind.wrap_i64]
    omega

theorem tmod_nat (x k : Nat) : Int.tmod (x : Int) (k : Int) = ((x % k : Nat) : Int) := by
  rw [Int.tmod_eq_emod_of_nonneg (by omega)]
  omega
end Go.Lw
