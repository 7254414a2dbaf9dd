
/- From what a law's call comes to, to its row: a law answers true and leaves its arguments alone. -/
import Derived.Test.YtpicofkhioalkaaGreatTb
import Derived.ProofKit
import Derived.OpenShut
namespace Go.Lw
open Go Go.ChangeShapes Go.WideShapes Go.ChangeAt Go.RowKit
theorem trodAll_below {H : Type} {enc : TypeId × Value -> H} {P : Program} (hl : laidOutB P = true) {W W' : World} (hb : Below W.heap.size W W') :
  ∀ {ts : List TypeId} {vs : List Value} {ds : List (DataW H)} {ps : List MemPlace}, (∀ t ∈ ts, P.readableRec t = true /\ t < P.types.size) ->
   DataW.TrodAll enc P W 0 (fun _ => true) true ts vs ds ps -> (∀ x ∈ ps, x.block < W.heap.size) -> DataW.TrodAll enc P W' 0 (fun b => decide (b < W.heap.size)) true ts vs ds ps
 | [], vs, ds, ps, _, h, _ => by
  obtain ⟨rfl, rfl, rfl⟩ := trodAll_nil h
  exact trodAll_mk0
 | t :: ts, vs, ds, ps, ht, h, hlt => by
  obtain ⟨v, vs', d, ds', p, q, rfl, rfl, rfl, h0, hr⟩ := trodAll_cons h
  obtain ⟨h1, h2⟩ := ht t List.mem_cons_self
  exact trodAll_cons_mk (Below.trod hl h1 h2 h0 hb fun x hx => hlt x (List.mem_append_left _ hx))
   (trodAll_below hl hb (fun t' ht' => ht t' (List.mem_cons_of_mem _ ht')) hr fun x hx => hlt x (List.mem_append_right _ hx))
theorem law_post {H : Type} {enc : TypeId × Value -> H} {P : Program} {f : Func} {s : ChangeSpec} {W W' : World} {args : Array Value} {ds gs : List (DataW H)} {before : List MemPlace} {tb : TypeId}
  (hl : laidOutB P = true) (hts : ∀ t ∈ f.params.toList, P.readableRec t = true /\ t < P.types.size) (hr : f.resultTypes = #[tb]) (hu : P.underlying tb = some .bool) (hv : s.vars = [])
  (hW : DataW.Whole enc P f.params.toList s.vars false W args.toList ds gs before) (hfn : (s.fn H ds).results = [.lit (.bool true)] /\ (s.fn H ds).args = ds /\ (s.fn H ds).vars = []) (hb : Below W.heap.size W W') :
  s.post enc P f false true false false W args (.bool true) W' := by
 have hW0 := hW
 have hlt : ∀ x ∈ before, x.block < W.heap.size := fun x hx => hW.lt x hx
 obtain ⟨p, q, hA, hV, rfl, hfz, hnd⟩ := hW
 rw [hv] at hV
 obtain ⟨rfl, rfl⟩ := trodVars_none hV
 obtain ⟨f1, f2, f3⟩ := hfn
 refine ⟨ds, [], p ++ [], [], p, [], hW0, ?_, ?_, ?_, ?_, fun h => by cases h⟩
 ·rw [List.append_nil, f1, hr]
  exact trodAll_mk1 (shut_bool hu true)
 ·rw [List.append_nil, f2]
  exact trodAll_below hl hb hts hA fun x hx => hlt x (List.mem_append_left _ hx)
 ·rw [List.append_nil, f3, hv]
  exact hV
 ·exact hb.frame _
theorem cell_lt {W : World} {a : Addr} {v : Value} (h : W.cell? a = some v) : a.block < W.heap.size := by
 rcases Nat.lt_or_ge a.block W.heap.size with hh | hh
 ·exact hh
 ·simp [World.cell?, Array.getElem?_eq_none hh] at h
theorem bAnd_le (n : Int) (mask : Nat) (hm : mask < 9223372036854775808) : ∃ x : Nat, x <= mask /\ bAnd .i64 n (mask : Int) = (x : Int) := by
 refine ⟨(BitVec.ofInt (IntKind.bits .i64) n &&& BitVec.ofInt (IntKind.bits .i64) (mask : Int)).toNat, ?_, ?_⟩
 ·rw [BitVec.toNat_and]
  refine Nat.le_trans Nat.and_le_right ?_
  rw [BitVec.ofInt_natCast, BitVec.toNat_ofNat]
  exact Nat.mod_le _ _
 ·have h1 : (BitVec.ofInt (IntKind.bits .i64) n &&& BitVec.ofInt (IntKind.bits .i64) (mask : Int)).toNat <= mask := by
   rw [BitVec.toNat_and]
   refine Nat.le_trans Nat.and_le_right ?_
   rw [BitVec.ofInt_natCast, BitVec.toNat_ofNat]
   exact Nat.mod_le _ _
  unfold bAnd
  rw [IntKind.wrap_i64]
  omega
theorem tmod_nat (x k : Nat) : Int.tmod (x : Int) (k : Int) = ((x % k : Nat) : Int) := by
 rw [Int.tmod_eq_emod_of_nonneg (by omega)]
 omega
end Go.Lw
