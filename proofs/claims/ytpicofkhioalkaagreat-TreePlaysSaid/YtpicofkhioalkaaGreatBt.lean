
/- Bytes that came of strings: their row bears a mark behind its end. -/
import Derived.Test.YtpicofkhioalkaaGreatTs
import Derived.Lib.ConvBytes
import Derived.ArgAppend
set_option maxRecDepth 100000
namespace Go.Lw
def Str (e : TypeId) (p : Option Addr) (l c : Nat) (xs : List Value) : HP := fun v h =>
 xs.length = l /\ ∃ g rest, p = some ⟨g, 0, none⟩ /\ l <= c /\ c <= maxLen /\ (xs ++ rest).length = c /\ Blk g (.cells (xs ++ rest).toArray e (c, c + 1)) v h
section
variable {P : Program} {L : List HP} {w : World} {e : TypeId} {p : Option Addr} {l c : Nat} {xs : List Value}
theorem Sat.str (hs : Sat L w) (i : Nat) (hi : L[i]? = some (Str e p l c xs)) :
  xs.length = l /\ ∃ g rest, p = some ⟨g, 0, none⟩ /\ l <= c /\ c <= maxLen /\ (xs ++ rest).length = c /\ Sat (L.set i (Blk g (.cells (xs ++ rest).toArray e (c, c + 1)))) w := by
 obtain ⟨h, hw, h1, h2, hd, hh, ⟨hl, g, rest, hp, hlc, hcm, hc, hr⟩, x⟩ := hs.pull i hi
 exact ⟨hl, g, rest, hp, hlc, hcm, hc, Sat.back i hi ⟨h, hw, h1, h2, hd, hh, hr, x⟩⟩
theorem Sat.mkStr {g : Nat} {rest : List Value} (hs : Sat L w) (i : Nat) (hi : L[i]? = some (Blk g (.cells (xs ++ rest).toArray e (c, c + 1)))) (hl : xs.length = l) (hlc : l <= c) (hcm : c <= maxLen) (hc : (xs ++ rest).length = c) :
  Sat (L.set i (Str e (some ⟨g, 0, none⟩) l c xs)) w :=
 Sat.back i hi ((hs.pull i hi).tail1 fun _ _ a => ⟨hl, g, rest, rfl, hlc, hcm, hc, a⟩)
theorem Sat.strReads (hs : Sat L w) (i : Nat) (hi : L[i]? = some (Str e p l c xs)) : Reads w p xs := by
 intro a ha j v hj
 obtain ⟨hl, g, rest, hp, hlc, hcm, hc, h2⟩ := hs.str i hi
 rw [hp] at ha
 cases ha
 have hb := h2.blk i (get_set_self hi)
 have hlt : j < xs.length := by
  rcases Nat.lt_or_ge j xs.length with h | h
  ·exact h
  ·rw [List.getElem?_eq_none h] at hj; cases hj
 rw [add_mk, Nat.zero_add]
 simp only [World.cell?, hb, List.getElem?_toArray]
 rw [List.getElem?_append_left hlt]
 exact hj
theorem RunS.ofStr {s d : TypeId} {u : TypeDesc} {x : ByteArray} {K : Option Addr -> Nat -> Nat -> World -> Prop} (hu : P.underlying s = some u) (hd : P.underlying d = some (.slice e)) (he : P.underlying e = some (.int .u8)) (hs : Sat L w) (hx : x.size <= maxLen)
  (h : ∀ g c w', Sat (Str e (some ⟨g, 0, none⟩) x.size c (x.data.toList.map fun (b : UInt8) => Value.int IntKind.u8 ((b.toNat : Nat) : Int)) :: L) w' -> K (some ⟨g, 0, none⟩) x.size c w') : RunS P (convert s d (.string x)) w K := by
 have hr := Lib.run_convert_string_bytes (P := P) w s d e x hu hd he
 refine ⟨_, _, _, _, hr, h _ _ _ ?_⟩
 have hcap := grownCap_max (w := w) (need := x.size) (old := 0) (e := e) hx
 have e1 : (Lib.bytesCells w e x) = ((x.data.toList.map fun (b : UInt8) => Value.int IntKind.u8 ((b.toNat : Nat) : Int)) ++ List.replicate (grownCap w x.size 0 e - x.size) (Value.int IntKind.u8 0)).toArray := by
  apply Array.ext'
  simp [Lib.bytesCells]
 have es : (Lib.bytesCells w e x).size = grownCap w x.size 0 e := by
  rw [e1]
  simp only [List.size_toArray, List.length_append, List.length_map, List.length_replicate, Array.length_toList]
  have : x.data.size = x.size := rfl
  omega
 have h1 := hs.drew.new (.cells (Lib.bytesCells w e x) e)
 have h2 := h1.upd (w' := Lib.bytesWorld w e x) (o' := .cells (Lib.bytesCells w e x) e ((Lib.bytesCells w e x).size, (Lib.bytesCells w e x).size + 1)) 0 rfl (Lib.bytesWorld_at_new w e x) ?_ ?_
 ·rw [es, e1] at h2
  refine h2.mkStr 0 rfl (by rw [List.length_map, Array.length_toList]; rfl) hcap.1 hcap.2 ?_
  rw [<- es, e1]; simp
 ·intro k hk
  have hk : w.heap.size ≠ k := Ne.symm hk
  simp [Lib.bytesWorld, World.freeze, World.alloc, World.drew, -World.alloc_eq, -World.drew_eq, Array.getElem?_modify, hk]
 ·simp [Lib.bytesWorld, World.freeze, stillOf, World.alloc, World.drew, -World.alloc_eq, -World.drew_eq]
end
end Go.Lw
namespace Go.Proofs.YtpicofkhioalkaaGreat
open Go Go.Lw Go.Wd Go.Am Go.Tb Go.Hm Go.Kd Go.Td
structure RdB (F : List HP) (p : Option Addr) (x : K) : Prop where
 reads : ∀ w, Sat F w -> Reads w p (bytesV x)
 some : x ≠ [] -> ∃ a, p = some a
theorem RdB.tail {A : HP} {F : List HP} {p : Option Addr} {x : K} (h : RdB F p x) : RdB (A :: F) p x := ⟨fun w hs => h.reads w hs.drop, h.some⟩
theorem RdB.nil {F : List HP} : RdB F none [] := ⟨(fun _ _ a ha => by cases ha), fun h => absurd rfl h⟩
theorem RdB.run {F : List HP} {p : Option Addr} {x : K} (h : RdB F p x) {w : World} (hs : Sat F w) {l c : Nat} (hl : l = x.length) {Q : ByteArray -> Prop} (hq : Q (str x)) : RunStr Tryz.prog (convert 28 9 (.slice p l c)) w Q :=
 run_str (e := 5) (by kernel_rfl) (by kernel_rfl) (by kernel_rfl) (h.reads w hs) hl.symm (fun h0 => h.some fun e => by rw [e] at hl; simp at hl; omega) hq
theorem RdB.str {F : List HP} {p : Option Addr} {l c : Nat} {x : K} (k : Nat) (hk : F[k]? = Option.some (Str 5 p l c (bytesV x))) (hp : ∃ a, p = Option.some a) : RdB F p x := ⟨fun _ h => h.strReads k hk, fun _ => hp⟩
theorem RdB.own {F : List HP} {p : Option Addr} {l c : Nat} {x : K} (k : Nat) (hk : F[k]? = Option.some (Own 5 1 p l c (bytesV x))) (hp : x ≠ [] -> ∃ a, p = Option.some a) : RdB F p x := ⟨fun _ h => h.reads k hk, hp⟩
theorem ofStr_c {L : List HP} {w : World} {x : K} {K : Option Addr -> Nat -> Nat -> World -> Prop} (hs : Sat L w) (hx : x.length <= 1048576) (h : ∀ g c w', Sat (Str 5 (some ⟨g, 0, none⟩) x.length c (bytesV x) :: L) w' -> K (some ⟨g, 0, none⟩) x.length c w') :
  RunS Tryz.prog (convert 9 28 (.string (str x))) w K := by
 refine RunS.ofStr (u := .string) (e := 5) (by kernel_rfl) (by kernel_rfl) (by kernel_rfl) hs (by rw [str_size]; simp only [maxLen]; omega) fun g c w' h' => ?_
 rw [str_size] at h' ⊢
 exact h g c w' h'
end Go.Proofs.YtpicofkhioalkaaGreat
