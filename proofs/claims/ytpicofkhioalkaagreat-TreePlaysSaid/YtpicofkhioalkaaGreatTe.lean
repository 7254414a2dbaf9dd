
/- What a tree needs of the heap below it: objects made, refs and words set, whoever watches. -/
import Derived.Test.YtpicofkhioalkaaGreatTa
import Derived.Test.YtpicofkhioalkaaGreatTd
set_option maxRecDepth 100000
namespace Go.Proofs.YtpicofkhioalkaaGreat
open Go Go.Lw Go.Wd Go.Am Go.Tb Go.Hm Go.Kd Go.Td
structure Eng (v : Value) (b : Nat) where
 σ : Type
 H : σ -> Hp
 rest : σ -> HP
 inv : σ -> Prop
 ok : σ -> Nat -> Prop
 cost : σ -> Nat
 live : ∀ {s y}, inv s -> ok s y -> ((H s).look y).isSome = true
 mkF : ∀ {s : σ} {tag refs size : Nat}, inv s -> (H s).WF -> (1 <= tag /\ tag <= 255) -> refs <= size -> size <= 4096 -> (H s).m.top + 1 + size <= (H s).m.n -> (H s).t.count < (H s).t.n ->
  ∃ (s' : σ) (x : Nat), x ≠ 0 /\ x < 18446744073709551616 /\ (H s).ov x = none /\ inv s' /\ ok s' x /\ (∀ y, ok s y -> ok s' y) /\ cost s' = cost s + 1 /\ (H s').m.top = (H s).m.top + 1 + size /\ (H s').m.n = (H s).m.n /\
   (H s').t.n = (H s).t.n /\ (H s').t.count = (H s).t.count + 1 /\ (H s').roots = (H s).roots /\ (H s').ov = updO (H s).ov x ⟨tag, refs, List.replicate size 0⟩ /\
   ∀ (F : List HP) (w : World), Sat (HeapH (H s) v b :: rest s :: F) w -> Calls Tryz.prog 37 #[.pointer (some ⟨b, 0, none⟩), .int .i64 (tag : Int), .int .i64 (refs : Int), .int .i64 (size : Int)] w
    (Ret (.tuple #[.int .u64 (x : Int), .int .i64 0]) (Sat (HeapH (H s') v b :: rest s' :: F)))
 sr : ∀ {s : σ} {x i y : Nat} {o : Ov}, inv s -> (H s).WF -> (H s).ov x = some o -> ok s x -> i < o.refs -> (y = 0 ∨ ok s y) -> y < 18446744073709551616 ->
  ∃ s' : σ, inv s' /\ (∀ y, ok s y -> ok s' y) /\ cost s' = cost s /\ (H s').m.top = (H s).m.top /\ (H s').m.n = (H s).m.n /\ (H s').t = (H s).t /\ (H s').roots = (H s).roots /\ (H s').ov = updO (H s).ov x ⟨o.tag, o.refs, o.w.set i y⟩ /\
   ∀ (F : List HP) (w : World), Sat (HeapH (H s) v b :: rest s :: F) w -> Calls Tryz.prog 38 #[.pointer (some ⟨b, 0, none⟩), .int .u64 (x : Int), .int .i64 (i : Int), .int .u64 (y : Int)] w
    (Ret (.int .i64 0) (Sat (HeapH (H s') v b :: rest s' :: F)))
 sw : ∀ {s : σ} {x i y : Nat} {o : Ov}, inv s -> (H s).WF -> (H s).ov x = some o -> ok s x -> o.refs + i < o.w.length -> y < 18446744073709551616 ->
  ∃ s' : σ, inv s' /\ (∀ y, ok s y -> ok s' y) /\ cost s' = cost s /\ (H s').m.top = (H s).m.top /\ (H s').m.n = (H s).m.n /\ (H s').t = (H s).t /\ (H s').roots = (H s).roots /\ (H s').ov = updO (H s).ov x ⟨o.tag, o.refs, o.w.set (o.refs + i) y⟩ /\
   ∀ (F : List HP) (w : World), Sat (HeapH (H s) v b :: rest s :: F) w -> Calls Tryz.prog 39 #[.pointer (some ⟨b, 0, none⟩), .int .u64 (x : Int), .int .i64 (i : Int), .int .u64 (y : Int)] w
    (Ret (.int .i64 0) (Sat (HeapH (H s') v b :: rest s' :: F)))
section
variable {v : Value} {b : Nat}
abbrev Eng.ov (E : Eng v b) (s : E.σ) : Lk := (E.H s).ov
abbrev Eng.S (E : Eng v b) (s : E.σ) (F : List HP) : List HP := HeapH (E.H s) v b :: E.rest s :: F
structure Eng.Mv (E : Eng v b) (s s' : E.σ) (k : Nat) (m : Nat) : Prop where
 inv : E.inv s'
 ok : ∀ y, E.ok s y -> E.ok s' y
 cost : E.cost s' = E.cost s + k
 top : (E.H s').m.top = (E.H s).m.top + m
 n : (E.H s').m.n = (E.H s).m.n
 tn : (E.H s').t.n = (E.H s).t.n
 cnt : (E.H s').t.count = (E.H s).t.count + k
 roots : (E.H s').roots = (E.H s).roots
 alive : ∀ y, (E.ov s y).isSome = true -> (E.ov s' y).isSome = true
variable {E : Eng v b}
theorem Eng.Mv.refl {s : E.σ} (h : E.inv s) : E.Mv s s 0 0 := ⟨h, fun _ h => h, rfl, rfl, rfl, rfl, rfl, rfl, fun _ h => h⟩
theorem Eng.Mv.trans {s1 s2 s3 : E.σ} {k1 k2 m1 m2 : Nat} (h : E.Mv s1 s2 k1 m1) (g : E.Mv s2 s3 k2 m2) : E.Mv s1 s3 (k1 + k2) (m1 + m2) :=
 ⟨g.inv, fun y hy => g.ok y (h.ok y hy), by rw [g.cost, h.cost]; omega, by rw [g.top, h.top]; omega, g.n.trans h.n, g.tn.trans h.tn, by rw [g.cnt, h.cnt]; omega, g.roots.trans h.roots, fun y hy => g.alive y (h.alive y hy)⟩
theorem updO_alive {f : Lk} {x : Nat} {o : Ov} {y : Nat} (h : (f y).isSome = true) : (updO f x o y).isSome = true := by
 unfold updO; split
 ·rfl
 ·exact h
theorem ov_isSome {H : Hp} {x : Nat} : (H.ov x).isSome = (H.look x).isSome := by unfold Hp.ov; cases H.look x <;> rfl
theorem sat_S {s : E.σ} {F : List HP} {w : World} (h : Sat (E.S s F) w) : (E.H s).WF := sat_wf h
theorem ok_lt {s : E.σ} (hi : E.inv s) (hm : (E.H s).WF) {y : Nat} (h : E.ok s y) : y < 18446744073709551616 := by
 have := E.live hi h
 cases hl : (E.H s).look y with
 | none => rw [hl] at this; cases this
 | some o => exact look_lt hm hl
theorem ok_some {s : E.σ} (hi : E.inv s) {y : Nat} (h : E.ok s y) : (E.ov s y).isSome = true := by
 show ((E.H s).ov y).isSome = true
 rw [ov_isSome]; exact E.live hi h
theorem emk_c {s : E.σ} {F : List HP} {w : World} (hs : Sat (E.S s F) w) (hi : E.inv s) {tag refs size : Nat} (h1 : 1 <= tag /\ tag <= 255) (h2 : refs <= size) (h3 : size <= 4096) (h4 : (E.H s).m.top + 1 + size <= (E.H s).m.n) (h5 : (E.H s).t.count < (E.H s).t.n)
  {K : Ending -> World -> Prop} (hK : ∀ (s' : E.σ) (x : Nat) (w' : World), E.Mv s s' 1 (1 + size) -> x ≠ 0 -> x < 18446744073709551616 -> E.ov s x = none -> E.ok s' x -> E.ov s' = updO (E.ov s) x ⟨tag, refs, List.replicate size 0⟩ -> Sat (E.S s' F) w' ->
   K (.returned (.tuple #[.int .u64 (x : Int), .int .i64 0])) w') :
  Calls Tryz.prog 37 #[.pointer (some ⟨b, 0, none⟩), .int .i64 (tag : Int), .int .i64 (refs : Int), .int .i64 (size : Int)] w K := by
 obtain ⟨s', x, a1, a2, a3, a4, a5, a6, a7, a8, a9, b1, b2, b3, b4, b5⟩ := E.mkF hi (sat_S hs) h1 h2 h3 h4 h5
 refine (b5 F w hs).mono ?_
 rintro e w' ⟨rfl, h'⟩
 exact hK s' x w' ⟨a4, a6, a7, by rw [a8]; omega, a9, b1, b2, b3, fun y hy => by show ((E.H s').ov y).isSome = true; rw [b4]; exact updO_alive hy⟩ a1 a2 a3 a5 b4 h'
theorem esr_c {s : E.σ} {F : List HP} {w : World} (hs : Sat (E.S s F) w) (hi : E.inv s) {x i y : Nat} {o : Ov} {j : Int} (ho : E.ov s x = some o) (hx : E.ok s x) (h2 : i < o.refs) (hj : j = i) (hy : y = 0 ∨ E.ok s y)
  {K : Ending -> World -> Prop} (hK : ∀ (s' : E.σ) (w' : World), E.Mv s s' 0 0 -> E.ov s' = updO (E.ov s) x ⟨o.tag, o.refs, o.w.set i y⟩ -> Sat (E.S s' F) w' -> K (.returned (.int .i64 0)) w') :
  Calls Tryz.prog 38 #[.pointer (some ⟨b, 0, none⟩), .int .u64 (x : Int), .int .i64 j, .int .u64 (y : Int)] w K := by
 subst hj
 have hyl : y < 18446744073709551616 := by
  rcases hy with rfl | hy
  ·omega
  ·exact ok_lt hi (sat_S hs) hy
 obtain ⟨s', a4, a6, a7, a8, a9, b1, b3, b4, b5⟩ := E.sr hi (sat_S hs) ho hx h2 hy hyl
 refine (b5 F w hs).mono ?_
 rintro e w' ⟨rfl, h'⟩
 exact hK s' w' ⟨a4, a6, a7, a8, a9, by rw [b1], by rw [b1]; rfl, b3, fun y hy => by show ((E.H s').ov y).isSome = true; rw [b4]; exact updO_alive hy⟩ b4 h'
theorem esw_c {s : E.σ} {F : List HP} {w : World} (hs : Sat (E.S s F) w) (hi : E.inv s) {x i y : Nat} {o : Ov} {j : Int} (ho : E.ov s x = some o) (hx : E.ok s x) (h2 : o.refs + i < o.w.length) (hj : j = i) (hy : y < 18446744073709551616)
  {K : Ending -> World -> Prop} (hK : ∀ (s' : E.σ) (w' : World), E.Mv s s' 0 0 -> E.ov s' = updO (E.ov s) x ⟨o.tag, o.refs, o.w.set (o.refs + i) y⟩ -> Sat (E.S s' F) w' -> K (.returned (.int .i64 0)) w') :
  Calls Tryz.prog 39 #[.pointer (some ⟨b, 0, none⟩), .int .u64 (x : Int), .int .i64 j, .int .u64 (y : Int)] w K := by
 subst hj
 obtain ⟨s', a4, a6, a7, a8, a9, b1, b3, b4, b5⟩ := E.sw hi (sat_S hs) ho hx h2 hy
 refine (b5 F w hs).mono ?_
 rintro e w' ⟨rfl, h'⟩
 exact hK s' w' ⟨a4, a6, a7, a8, a9, by rw [b1], by rw [b1]; rfl, b3, fun y hy => by show ((E.H s').ov y).isSome = true; rw [b4]; exact updO_alive hy⟩ b4 h'
end
theorem ov_set {H : Hp} (hm : H.WF) {x : Nat} {o p : Ob} (hl : H.look x = some o) (hw : p.w.length = o.w.length) : (H.set x p).ov = updO H.ov x ⟨p.tag, p.refs, p.w⟩ := by
 funext y
 unfold Hp.ov updO
 rw [set_look hm hl hw]
 split <;> rfl
theorem ov_made {H : Hp} (hm : H.WF) (hn : ¬ H.t.full) {tag refs size : Nat} : (H.made tag refs size).ov = updO H.ov (nextH H.t) ⟨tag, refs, List.replicate size 0⟩ := by
 funext y
 unfold Hp.ov updO
 rw [made_look hm hn]
 split <;> rfl
end Go.Proofs.YtpicofkhioalkaaGreat
