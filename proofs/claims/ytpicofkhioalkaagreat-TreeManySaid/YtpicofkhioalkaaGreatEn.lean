
/- A tree and the model's list side by side, while there is ample room. -/
import Derived.Test.YtpicofkhioalkaaGreatEm
set_option maxRecDepth 100000
namespace Go.Proofs.YtpicofkhioalkaaGreat
open Go Go.Lw Go.Wd Go.Am Go.Tb Go.Hm Go.Kd Go.Td
/-- a tree and the model's list, while there is ample room. -/
structure Am1 (s : Hp × Nat) (b t : Nat) (es : List Ent) (us xs : List Nat) (q L : Nat) : Prop where
  tr : TrS (engJ keeps_any b) s t es us
  len : es.length ≤ q
  kl : ∀ a ∈ kv es, a.1.length ≤ L
  top : s.1.m.top ≤ 100 + 265 * q
  cnt : s.1.t.count ≤ 20 + 10 * q
  n : s.1.m.n = 262144
  tn : s.1.t.n = 65536
  xlen : xs.length = 5
  x : ∀ y ∈ xs, (s.1.look y).isSome = true
theorem gnd_am {H : Hp} {t r b : Nat} {xs : List Nat} (g : Gnd (fun _ _ => True) 262144 65536 H [t] xs r) (hx : xs.length = 5) (L : Nat) : Am1 (H, 0) b t [] [t] xs 0 L := by
  refine ⟨gnd_ok g (by simp) b keeps_any 0, by simp, by simp, ?_, ?_, g.n, g.tn, hx, fun y hy => ?_⟩
  · show H.m.top ≤ _; rw [g.top, hx]; simp
  · show H.t.count ≤ _; rw [g.cnt, hx]; simp
  · obtain ⟨i, hi⟩ := List.getElem?_of_mem hy
    exact gnd_x g hi
section
variable {s : Hp × Nat} {b t : Nat} {es : List Ent} {us xs : List Nat} {q L : Nat} {F : List HP} {w : World}
theorem am_put (a : Am1 s b t es us xs q L) (hq : q ≤ 900) (hs : Sat (HeapH s.1 .nilIface b :: F) w) {key : K} (hkl : key.length ≤ L) (hL : L ≤ 200) {kp : Option Addr} {kl kc : Nat} (hl : kl = key.length) (hk : RdB F kp key) {x : Nat} (hx : x ∈ xs) :
    Calls Tryz.prog 11 #[.pointer (some ⟨b, 0, none⟩), .int .u64 (t : Int), .slice kp kl kc, .int .u64 (x : Int)] w fun e w' => ∃ (s' : Hp × Nat) (es' : List Ent) (us' : List Nat) (old : Nat) (had : Bool) (A o C : KV),
      e = .returned (.tuple #[.int .u64 (old : Int), .bool had, .int .i64 0]) ∧ Cut (kv es) key A o C ∧ kv es' = A ++ (key, x) :: C ∧ (o = [] ∧ had = false ∧ old = 0 ∨ o = [(key, old)] ∧ had = true) ∧ Am1 s' b t es' us' xs (q + 1) L ∧ Sat (HeapH s'.1 .nilIface b :: F) w' := by
  have h1 := a.top; have h2 := a.cnt; have h3 := a.n; have h4 := a.tn; have h5 := a.len
  refine (gput_c (E := engJ keeps_any b) (toS keeps_any hs) trivial a.tr (by omega) (by omega) hl hk (.inr (a.x x hx)) (by show s.1.m.top + 240 + key.length / 8 ≤ s.1.m.n; omega) (by show s.1.t.count + 10 ≤ s.1.t.n; omega)).mono ?_
  rintro e w' ⟨s', es', us', k, m, old, had, A, o, C, rfl, c1, c2, c3, c4, c5, c6, c7, h'⟩
  refine ⟨s', es', us', old, had, A, o, C, rfl, c1, c2, c3, ⟨c4, ?_, ?_, ?_, ?_, c5.mv.n.trans h3, c5.mv.tn.trans h4, a.xlen, fun y hy => c5.mv.ok y (a.x y hy)⟩, ofS keeps_any h'⟩
  · have e1 : es'.length = (A ++ (key, x) :: C).length := by rw [← c2, kv_len]
    have e2 : es.length = (A ++ o ++ C).length := by rw [← c1.eq, kv_len]
    simp at e1 e2; omega
  · intro z hz
    rw [c2] at hz
    rcases List.mem_append.1 hz with hz | hz
    · exact a.kl z (by rw [c1.eq]; simp [hz])
    · rcases List.mem_cons.1 hz with rfl | hz
      · exact hkl
      · exact a.kl z (by rw [c1.eq]; simp [hz])
  · have := c5.mv.top
    have this : s'.1.m.top = s.1.m.top + m := this
    omega
  · have this : s'.1.t.count = s.1.t.count + k := c5.mv.cnt
    omega
theorem am_take (a : Am1 s b t es us xs q L) (hq : q ≤ 900) (hs : Sat (HeapH s.1 .nilIface b :: F) w) {key : K} (hkl : key.length ≤ 16384) {kp : Option Addr} {kl kc : Nat} (hl : kl = key.length) (hk : RdB F kp key) :
    Calls Tryz.prog 10 #[.pointer (some ⟨b, 0, none⟩), .int .u64 (t : Int), .slice kp kl kc] w fun e w' => ∃ (s' : Hp × Nat) (es' : List Ent) (us' : List Nat) (old : Nat) (had : Bool) (A o C : KV),
      e = .returned (.tuple #[.int .u64 (old : Int), .bool had, .int .i64 0]) ∧ Cut (kv es) key A o C ∧ kv es' = A ++ C ∧ (o = [] ∧ had = false ∧ old = 0 ∨ o = [(key, old)] ∧ had = true) ∧ Am1 s' b t es' us' xs q L ∧ Sat (HeapH s'.1 .nilIface b :: F) w' := by
  have h1 := a.top; have h2 := a.cnt; have h3 := a.n; have h4 := a.tn; have h5 := a.len
  refine (eTake_c (E := engJ keeps_any b) (toS keeps_any hs) trivial a.tr (by omega) hkl hl hk).mono ?_
  rintro e w' ⟨s', es', us', old, had, A, o, C, rfl, c1, c2, c3, c4, c5, h'⟩
  refine ⟨s', es', us', old, had, A, o, C, rfl, c1, c2, c3, ⟨c4, ?_, ?_, ?_, ?_, c5.mv.n.trans h3, c5.mv.tn.trans h4, a.xlen, fun y hy => c5.mv.ok y (a.x y hy)⟩, ofS keeps_any h'⟩
  · have e1 : es'.length = (A ++ C).length := by rw [← c2, kv_len]
    have e2 : es.length = (A ++ o ++ C).length := by rw [← c1.eq, kv_len]
    simp at e1 e2; omega
  · intro z hz
    rw [c2] at hz
    rcases List.mem_append.1 hz with hz | hz
    · exact a.kl z (by rw [c1.eq]; simp [hz])
    · exact a.kl z (by rw [c1.eq]; simp [hz])
  · have this : s'.1.m.top = s.1.m.top + 0 := c5.mv.top
    omega
  · have this : s'.1.t.count = s.1.t.count + 0 := c5.mv.cnt
    omega
end
end Go.Proofs.YtpicofkhioalkaaGreat
