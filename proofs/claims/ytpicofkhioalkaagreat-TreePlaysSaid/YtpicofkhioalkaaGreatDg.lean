
/- Deeds that came in: numbers, and a key. -/
import Derived.Test.YtpicofkhioalkaaGreatEk
import Derived.Test.YtpicofkhioalkaaGreatRo
import Derived.Test.YtpicofkhioalkaaGreatRows
import Derived.SizedLaws
set_option maxRecDepth 100000
namespace Go.Proofs.YtpicofkhioalkaaGreat
open Go Go.Lw Go.Wd Go.Am Go.Tb Go.Hm Go.Kd Go.Td
theorem dadd (a : Addr) (m n : Nat) : (a.add m).add n = a.add (m + n) := by
 unfold Addr.add
 by_cases h1 : m = 0 <;> by_cases h2 : n = 0 <;> simp [h1, h2, Nat.add_assoc]
structure Dd where
 do_ : Int
 tr : Int
 x : Int
 k : K
def ArgD (W : World) (p : Option Addr) (l : Nat) (L : List Dd) : Prop := l = L.length /\ ∀ i d, L[i]? = some d -> ∃ (a : Addr) (kp : Option Addr) (kc : Nat), p = some a /\ RdS (Mem.of W) (a.add (i * 4)) (.int .i64 d.do_) /\ RdS (Mem.of W) (a.add (i * 4 + 1)) (.int .i64 d.tr) /\ RdS (Mem.of W) (a.add (i * 4 + 2)) (.int .i64 d.x) /\
 RdS (Mem.of W) (a.add (i * 4 + 3)) (.slice kp d.k.length kc) /\ ∀ j v, (bytesV d.k)[j]? = some v -> ∃ b, kp = some b /\ RdS (Mem.of W) (b.add j) v
theorem ArgD.at {W : World} {p : Option Addr} {l : Nat} {L : List Dd} (h : ArgD W p l L) {i : Nat} {d : Dd} (hi : L[i]? = some d) : ∃ (ad : Addr) (kp : Option Addr) (kc : Nat), (∀ (j : Int) (K : Addr -> Prop), j = i -> K ad -> IdxC p l j 4 K) /\ RdS (Mem.of W) ad (.int .i64 d.do_) /\ RdS (Mem.of W) (ad.add 1) (.int .i64 d.tr) /\ RdS (Mem.of W) (ad.add 2) (.int .i64 d.x) /\
  RdS (Mem.of W) (ad.add 3) (.slice kp d.k.length kc) /\ (d.k ≠ [] -> ∃ b, kp = some b) /\ ∀ w, Has (Mem.of W) w -> Reads w kp (bytesV d.k) := by
 obtain ⟨rfl, h⟩ := h
 obtain ⟨a, kp, kc, rfl, h0, h1, h2, h3, h4⟩ := h i d hi
 have hil := kget_lt hi
 refine ⟨a.add (i * 4), kp, kc, fun j K hj hk => ?_, h0, by rw [dadd]; exact h1, by rw [dadd]; exact h2, by rw [dadd]; exact h3, fun hne => ?_, fun w hw b hb j v hj => ?_⟩
 ·subst hj
  refine ⟨by omega, by omega, ?_⟩
  show K _
  rw [Int.toNat_natCast]; exact hk
 ·obtain ⟨b, r, he⟩ := List.exists_cons_of_ne_nil hne
  obtain ⟨c, hc, _⟩ := h4 0 (.int .u8 ((b.toNat : Nat) : Int)) (by rw [he]; rfl)
  exact ⟨c, hc⟩
 ·obtain ⟨c, hc, hr⟩ := h4 j v hj
  rw [hb] at hc
  cases hc
  exact hr w hw
theorem RdB.arg {W : World} {F : List HP} {kp : Option Addr} {k : K} (i : Nat) (hF : F[i]? = Option.some (Ro W (Mem.of W))) (h1 : k ≠ [] -> ∃ b, kp = Option.some b) (h2 : ∀ w, Has (Mem.of W) w -> Reads w kp (bytesV k)) : RdB F kp k :=
 ⟨fun w hs => h2 w (hs.has i hF), h1⟩
section
variable {H : Type} {enc : TypeId × Value -> H} {P : Program} {W : World} {sp : Nat -> Bool} {held : Bool}
theorem dwf_u8 {n : Int} (h : (Lit.int .u8 n).wf = true) : 0 <= n /\ n <= 255 := by
 simpa [Lit.wf, IntKind.min, IntKind.max, IntKind.signed, IntKind.bits] using h
theorem dtrod_fld {fuel t : Nat} {fs : Array Field} {cs : List Value} {x : DataW H × List MemPlace} (hu : P.underlying t = some (.struct fs)) (h : DataW.trod enc P W 0 sp held fuel t cs = some x) :
  ∃ n, fuel = n + 1 /\ cs.length = P.cellsOf t /\ ∀ (i : Nat) (f : Field), fs[i]? = some f -> ∃ y, DataW.trod enc P W 0 sp held n f.type ((cs.drop f.offset).take (P.cellsOf f.type)) = some y /\ ∀ m ∈ y.1.weights P f.type, m ∈ x.1.weights P t := by
 obtain ⟨xs, n, h1, h2, h3, h4, h5⟩ := DataW.trod_struct hu h
 refine ⟨n, h1, h3, fun i f hf => ?_⟩
 have hil : i < xs.length := by
  rw [h4]
  rcases Nat.lt_or_ge i fs.size with h | h
  ·exact h
  ·rw [Array.getElem?_eq_none h] at hf; cases hf
 have hx : xs[i]? = some xs[i] := List.getElem?_eq_getElem hil
 refine ⟨xs[i], (h5 i f hf).trans hx, fun m hm => ?_⟩
 rw [h2]
 show m ∈ DataW.weights P t (.agg (xs.map (·.1)))
 have e : DataW.weights P t (.agg (xs.map (·.1))) = DataW.weightsEach P (fs.toList.map (·.type)) (xs.map (·.1)) := by rw [DataW.weights, hu]
 rw [e]
 exact DataW.weights_mem_each (j := i) (t := f.type) (d := xs[i].1) (by rw [List.getElem?_map, Array.getElem?_toList, hf]; rfl) (by rw [List.getElem?_map, hx]; rfl) m hm
theorem weights_all {e : TypeId} : ∀ {l : List (DataW H)} {d : DataW H}, d ∈ l -> ∀ m ∈ d.weights P e, m ∈ DataW.weightsAll P e l
 | [], _, h, _, _ => by cases h
 | c :: l, d, h, m, hm => by
  rw [DataW.weightsAll]
  rcases List.mem_cons.1 h with rfl | h
  ·exact List.mem_append_left _ hm
  ·exact List.mem_append_right _ (weights_all h m hm)
theorem dtrod_els {α : Type} {fuel t e s : Nat} {cs : List Value} {x : DataW H × List MemPlace} (hu : P.underlying t = some (.slice e)) (hc : P.cellsOf e = s) (R : α -> List Value -> Prop)
  {N : Nat} (hw : ∀ m ∈ x.1.weights P t, m <= N) (hr : ∀ n cs y, DataW.trod enc P W 0 sp held n e cs = some y -> (∀ m ∈ y.1.weights P e, m <= N) -> ∃ a, R a cs)
  (h : DataW.trod enc P W 0 sp held fuel t cs = some x) : ∃ (p : Option Addr) (c : Nat) (L : List α), cs = [.slice p L.length c] /\ L.length * P.bytesOf e <= N /\
   ∀ (i : Nat) (a : α), L[i]? = some a -> ∃ xs : List Value, R a xs /\ xs.length = s /\ ∀ (j : Nat) (v : Value), xs[j]? = some v -> ∃ ad, p = some ad /\ RdS (Mem.of W) (ad.add (i * s + j)) v := by
 rcases DataW.trod_slice hu h with ⟨h0, _⟩ | ⟨ad, len, cap, elems, rest, m, hm, h0, hx, _, hl, _, hlen, hel, _, _⟩
 ·exact ⟨none, 0, [], h0, by simp, by simp⟩
 ·have hwe : DataW.weights P t (.slice (elems.map (·.1)) (rest.map (·.1))) = (((elems.map (·.1)).length + (rest.map (·.1)).length) * P.bytesOf e :: (DataW.weightsAll P e (elems.map (·.1)) ++ DataW.weightsAll P e (rest.map (·.1)))) := by
   rw [DataW.weights, hu]
  rw [hx] at hw
  dsimp only at hw
  rw [hwe] at hw
  have hsz := hw _ List.mem_cons_self
  rw [List.length_map, hlen] at hsz
  have hsz : len * P.bytesOf e <= N := Nat.le_trans (Nat.mul_le_mul_right _ (Nat.le_add_right _ _)) hsz
  have key : ∀ n, n <= len -> ∃ L : List α, L.length = n /\ ∀ i a, L[i]? = some a -> ∃ xs, R a xs /\ xs.length = s /\ ∀ j v, xs[j]? = some v -> RdS (Mem.of W) (ad.add (i * s + j)) v := by
   intro n
   induction n with
   | zero => intro _; exact ⟨[], rfl, by simp⟩
   | succ n ih =>
    intro hn
    obtain ⟨L, h1, h3⟩ := ih (by omega)
    have he := hel n (by omega)
    have hy : elems[n]? = some elems[n] := List.getElem?_eq_getElem (by omega)
    rw [hy, hc] at he
    obtain ⟨ds, h4, h5⟩ := Option.bind_eq_some_iff.1 he
    obtain ⟨a, h6⟩ := hr m ds _ h5 fun q hq => hw q (List.mem_cons_of_mem _ (List.mem_append_left _ (weights_all (List.mem_map.2 ⟨elems[n], List.mem_of_getElem? hy, rfl⟩) q hq)))
    refine ⟨L ++ [a], by simp [h1], fun i b hi => ?_⟩
    by_cases hin : i < n
    ·rw [List.getElem?_append_left (by omega)] at hi
     exact h3 i b hi
    ·have hi' := kget_lt hi
     simp only [List.length_append, List.length_singleton, h1] at hi'
     obtain rfl : i = n := by omega
     rw [List.getElem?_append_right (by omega), h1, Nat.sub_self] at hi
     simp only [List.getElem?_cons_zero, Option.some.injEq] at hi
     subst hi
     have h8 := World.cells?_some h4
     refine ⟨ds, h6, h8.2.1, fun j v hj => RdS.base ?_⟩
     have hjl := kget_lt hj
     rw [h8.2.1] at hjl
     rw [<- dadd, h8.2.2 j hjl, hj]
  obtain ⟨L, h1, h3⟩ := key len (Nat.le_refl _)
  refine ⟨some ad, cap, L, by rw [h0, h1], by rw [h1]; exact hsz, fun i a hi => ?_⟩
  obtain ⟨xs, h4, h5, h6⟩ := h3 i a hi
  exact ⟨xs, h4, h5, fun j v hj => ⟨ad, rfl, h6 j v hj⟩⟩
end
section
variable {H : Type} {enc : TypeId × Value -> H} {W : World} {sp : Nat -> Bool} {held : Bool}
theorem dbytes_arg {fuel N : Nat} {v : Value} {x : DataW H × List MemPlace} (hw : ∀ m ∈ x.1.weights Tryz.prog 28, m <= N) (h : DataW.trod enc Tryz.prog W 0 sp held fuel 28 [v] = some x) :
  ∃ p c, ∃ L : K, v = .slice p L.length c /\ L.length <= N /\ ∀ j u, (bytesV L)[j]? = some u -> ∃ b, p = some b /\ RdS (Mem.of W) (b.add j) u := by
 obtain ⟨p, c, L, e, hlm, h3⟩ := dtrod_els (α := UInt8) (s := 1) Tryz.underlying28 (by kernel_rfl) (fun b cs => cs = [.int .u8 ((b.toNat : Nat) : Int)]) hw
  (fun q cs y hy _ => by
   obtain ⟨m, e1, _, e2⟩ := DataW.trod_int Tryz.underlying5 hy
   have e3 := dwf_u8 e2
   refine ⟨UInt8.ofNat m.toNat, ?_⟩
   rw [e1, show (((UInt8.ofNat m.toNat).toNat : Nat) : Int) = m by rw [UInt8.toNat_ofNat']; omega]) h
 cases e
 have hb1 : (Tryz.prog).bytesOf 5 = 1 := by kernel_rfl
 rw [hb1, Nat.mul_one] at hlm
 refine ⟨p, c, L, rfl, hlm, fun j u hj => ?_⟩
 unfold bytesV at hj
 rw [List.getElem?_map] at hj
 obtain ⟨b, hb, rfl⟩ := Option.map_eq_some_iff.1 hj
 obtain ⟨xs, rfl, _, h5⟩ := h3 j b hb
 have := h5 0 _ rfl
 rw [Nat.mul_one, Nat.add_zero] at this
 exact this
theorem dlen4 {α : Type} {l : List α} (h : l.length = 4) : ∃ c0 c1 c2 c3, l = [c0, c1, c2, c3] := by
 match l, h with
 | [a, b, c, d], _ => exact ⟨_, _, _, _, rfl⟩
theorem dtrod_i {fuel t : Nat} {k : IntKind} {v : Value} {x : DataW H × List MemPlace} (hu : (Tryz.prog).underlying t = some (.int k)) (h : DataW.trod enc Tryz.prog W 0 sp held fuel t [v] = some x) : ∃ n, v = .int k n := by
 obtain ⟨m, h1, _, h3⟩ := DataW.trod_int hu h
 cases h1
 exact ⟨m, rfl⟩
set_option maxRecDepth 100000 in
theorem deeds13_arg2 {fuel N : Nat} {v : Value} {x : DataW H × List MemPlace} (hw : ∀ m ∈ x.1.weights Tryz.prog 22, m <= N) (h : DataW.trod enc Tryz.prog W 0 sp held fuel 22 [v] = some x) :
  ∃ p c L, v = .slice p L.length c /\ ArgD W p L.length L /\ ∀ d ∈ L, d.k.length <= N := by
 obtain ⟨p, c, L, e, _, h3⟩ := dtrod_els (α := Dd) (s := 4) Tryz.underlying22 (by kernel_rfl) (fun d cs => d.k.length <= N /\ ∃ kp kc, cs = [.int .i64 d.do_, .int .i64 d.tr, .int .i64 d.x, .slice kp d.k.length kc] /\ ∀ j u, (bytesV d.k)[j]? = some u -> ∃ b, kp = some b /\ RdS (Mem.of W) (b.add j) u) hw
  (fun q cs y hy hwy => by
   obtain ⟨q', rfl, hl, hf⟩ := dtrod_fld Tryz.underlying30 hy
   obtain ⟨c0, c1, c2, c3, rfl⟩ := dlen4 (hl.trans (by kernel_rfl))
   obtain ⟨y0, f0, _⟩ := hf 0 _ rfl
   obtain ⟨y1, f1, _⟩ := hf 1 _ rfl
   obtain ⟨y2, f2, _⟩ := hf 2 _ rfl
   obtain ⟨y3, f3, w3⟩ := hf 3 _ rfl
   obtain ⟨n0, rfl⟩ := dtrod_i (k := .i64) (v := c0) Tryz.underlying3 f0
   obtain ⟨n1, rfl⟩ := dtrod_i (k := .i64) (v := c1) Tryz.underlying3 f1
   obtain ⟨n2, rfl⟩ := dtrod_i (k := .i64) (v := c2) Tryz.underlying3 f2
   obtain ⟨kp, kc, k, rfl, hkm, hk⟩ := dbytes_arg (v := c3) (fun m hm => hwy m (w3 m hm)) f3
   exact ⟨⟨n0, n1, n2, k⟩, hkm, kp, kc, rfl, hk⟩) h
 cases e
 refine ⟨p, c, L, rfl, ⟨rfl, fun i d hi => ?_⟩, fun d hd => ?_⟩
 rotate_left
 ·obtain ⟨i, hi⟩ := List.getElem?_of_mem hd
  obtain ⟨xs, ⟨hm, _⟩, _⟩ := h3 i d hi
  exact hm
 obtain ⟨xs, ⟨_, kp, kc, rfl, hk⟩, _, h5⟩ := h3 i d hi
 obtain ⟨a, rfl, h0⟩ := h5 0 _ rfl
 refine ⟨a, kp, kc, rfl, h0, ?_, ?_, ?_, hk⟩
 ·obtain ⟨b, e, h⟩ := h5 1 _ rfl; cases e; exact h
 ·obtain ⟨b, e, h⟩ := h5 2 _ rfl; cases e; exact h
 ·obtain ⟨b, e, h⟩ := h5 3 _ rfl; cases e; exact h
end
end Go.Proofs.YtpicofkhioalkaaGreat
