
/- What may be linked while a tree is changed; what topped comes to; the way's last step taken off. -/
import Derived.Test.YtpicofkhioalkaaGreatTi
import Derived.Test.YtpicofkhioalkaaGreatTd
set_option maxRecDepth 100000
namespace Go.Proofs.YtpicofkhioalkaaGreat
open Go Go.Lw Go.Wd Go.Am Go.Tb Go.Hm Go.Kd Go.Td
section
variable {v : Value} {b : Nat} {E : Eng v b}
structure St (E : Eng v b) (s0 : E.σ) (U : List Nat) (s : E.σ) (V : List Nat) (k m : Nat) : Prop where
 mv : E.Mv s0 s k m
 frame : ∀ z, (E.ov s0 z).isSome = true -> z ∉ U -> E.ov s z = E.ov s0 z
 new : ∀ z ∈ V, z ∈ U ∨ E.ov s0 z = none
 ok : ∀ z ∈ V, E.ok s z
variable {s0 s s' : E.σ} {U V V' : List Nat} {k m k' m' : Nat}
theorem St.start (hi : E.inv s) (h : ∀ z ∈ V, E.ok s z) : St E s V s V 0 0 := ⟨.refl hi, fun _ _ _ => rfl, fun _ h => .inl h, h⟩
theorem St.step (h : St E s0 U s V k m) (hm : E.Mv s s' k' m') (hf : ∀ z, z ∉ V -> (E.ov s z).isSome = true -> E.ov s' z = E.ov s z) (hn : ∀ z ∈ V', z ∈ V ∨ E.ov s z = none) (hk : ∀ z ∈ V', E.ok s' z) : St E s0 U s' V' (k + k') (m + m') := by
 refine ⟨h.mv.trans hm, fun z hz hu => ?_, fun z hz => ?_, hk⟩
 ·have h1 := h.frame z hz hu
  have h2 : z ∉ V := fun hv => by
   rcases h.new z hv with h3 | h3
   ·exact hu h3
   ·rw [h3] at hz; cases hz
  rw [hf z h2 (by rw [h1]; exact hz), h1]
 ·rcases hn z hz with h1 | h1
  ·exact h.new z h1
  ·right
   cases h2 : E.ov s0 z with
   | none => rfl
   | some o => have := h.mv.alive z (by rw [h2]; rfl); rw [h1] at this; cases this
theorem kid_ok {ov : Lk} {d : Nat} {c : Kid} (hr : Rep ov d 6 c) (hV : ∀ z ∈ c.hs, E.ok s z) (he : ∀ e ∈ c.es, e.x = 0 ∨ E.ok s e.x) : (c.pr.1 = 0 ∨ E.ok s c.pr.1) /\ (c.pr.2 = 0 ∨ E.ok s c.pr.2) := by
 refine ⟨.inr (hV _ (hr.keyOK (by omega)).2.2.1), ?_⟩
 cases d with
 | zero => obtain ⟨e, h1, h2, _⟩ := hr; show c.x = 0 ∨ E.ok s c.x; rw [h2]; exact he e (by rw [h1]; simp)
 | succ d => exact .inr (hV _ hr.xmem)
theorem kids_ok {ov : Lk} {d : Nat} {L : List Kid} (hr : ∀ c ∈ L, Rep ov d 6 c) (hV : ∀ z ∈ hsOf L, E.ok s z) (he : ∀ e ∈ esOf L, e.x = 0 ∨ E.ok s e.x) : ∀ p ∈ L.map Kid.pr, (p.1 = 0 ∨ E.ok s p.1) /\ (p.2 = 0 ∨ E.ok s p.2) := by
 intro p hp
 obtain ⟨c, hc, rfl⟩ := List.mem_map.1 hp
 exact kid_ok (hr c hc) (fun z hz => hV z (mem_hsOf.2 ⟨c, hc, hz⟩)) fun e hh => he e (mem_esOf.2 ⟨c, hc, hh⟩)
theorem kid_ok2 {ov : Lk} {d : Nat} {c : Kid} (hd : 0 < d) (hr : Rep ov d 6 c) (hV : ∀ z ∈ c.hs, E.ok s z) : (c.pr.1 = 0 ∨ E.ok s c.pr.1) /\ (c.pr.2 = 0 ∨ E.ok s c.pr.2) := by
 refine ⟨.inr (hV _ (hr.keyOK (by omega)).2.2.1), ?_⟩
 cases d with
 | zero => omega
 | succ d => exact .inr (hV _ hr.xmem)
theorem okw_of : ∀ {bs : List Fr} {d : Nat} {p : Nat × Nat}, Zip (E.ov s) bs d p -> (∀ z ∈ whs bs, E.ok s z) -> E.ok s p.1 -> E.ok s p.2 -> OkW E s bs
 | [], _, _, _, _, _, _ => fun f hf => by simp at hf
 | f :: r, d, p, ⟨h1, ⟨g1, g2, g3, g4, g5⟩, h3, h4⟩, hV, k1, k2 => by
  have hA : ∀ c ∈ f.A, ∀ z ∈ c.hs, E.ok s z := fun c hc z hz => hV z (by simp only [whs, List.mem_cons, List.mem_append]; exact .inr (.inl (.inl (mem_hsOf.2 ⟨c, hc, hz⟩))))
  have hB : ∀ c ∈ f.B, ∀ z ∈ c.hs, E.ok s z := fun c hc z hz => hV z (by simp only [whs, List.mem_cons, List.mem_append]; exact .inr (.inl (.inr (mem_hsOf.2 ⟨c, hc, hz⟩))))
  have hx : E.ok s f.x := hV _ (by simp [whs])
  have hkey : E.ok s f.key := by
   unfold Fr.key
   cases hA2 : f.A with
   | nil => simp only; rw [h1]; exact k1
   | cons a A => exact hA a (by rw [hA2]; simp) _ ((g2 a (by rw [hA2]; simp)).keyOK (by omega)).2.2.1
  have hrest := okw_of h4 (fun z hz => hV z (by simp only [whs, List.mem_cons, List.mem_append]; exact .inr (.inr hz))) hkey hx
  intro f' hf'
  rcases List.mem_cons.1 hf' with rfl | hf'
  ·refine ⟨hx, ⟨f'.l, g1, by rw [Fr.l_len]; exact g5⟩, by rw [Fr.l_len]; exact g5, fun q hq => ?_⟩
   simp only [Fr.l, List.mem_append, List.mem_cons, List.mem_map] at hq
   rcases hq with ⟨c, hc, rfl⟩ | rfl | ⟨c, hc, rfl⟩
   ·exact kid_ok2 h3 (g2 c hc) (hA c hc)
   ·rw [h1]; exact ⟨.inr k1, .inr k2⟩
   ·exact kid_ok2 h3 (g3 c hc) (hB c hc)
  ·exact hrest f' hf'
theorem firstK_mem {ov : Lk} {d : Nat} {L : List Kid} (h0 : L ≠ []) (hr : ∀ c ∈ L, Rep ov d 6 c) : firstK L ∈ hsOf L := by
 obtain ⟨c, r, rfl⟩ := List.exists_cons_of_ne_nil h0
 exact mem_hsOf.2 ⟨c, by simp, ((hr c (by simp)).keyOK (by omega)).2.2.1⟩
end
theorem RdP.sub {F : List HP} {p : Option Addr} {l : List (Nat × Nat)} (h : RdP F p l) {k c : Nat} (hk : k < c) (hl : k < l.length) : RdP F (slAddr p c k 2) (l.drop k) := by
 refine ⟨fun w hw => ?_, fun _ => ?_⟩
 ·have h1 := (Reads.slice (m := c) (l := k) (s := 2) (n := l.length - k) (h.reads w hw)).resolve_right (by omega)
  rw [pairsV_drop, List.take_of_length_le (by rw [pairsV_len, List.length_drop]; exact Nat.le_refl _)] at h1
  exact h1
 ·obtain ⟨a, rfl⟩ := h.some (by intro e; rw [e] at hl; simp at hl)
  unfold slAddr
  rw [if_neg (by omega)]
  exact ⟨_, rfl⟩
theorem RdP.take {F : List HP} {p : Option Addr} {l : List (Nat × Nat)} (h : RdP F p l) (k : Nat) : RdP F p (l.take k) := by
 refine ⟨fun w hw a ha j v hj => h.reads w hw a ha j v ?_, fun hn => h.some fun e => hn (by rw [e]; simp)⟩
 rw [<- pairsV_take] at hj
 have hlt := get_lt hj
 rw [List.length_take] at hlt
 rw [List.getElem?_take_of_lt (by omega)] at hj
 exact hj
theorem RdP.row {F : List HP} {d : Nat} {l : List (Nat × Nat)} (k : Nat) (hk : F[k]? = Option.some (Row d (pairsV l) 96)) : RdP F (Option.some ⟨d, 0, none⟩) l :=
 ⟨fun w hw a ha j v hj => by
  cases ha
  rw [add_mk, Nat.zero_add]
  exact hw.cell k hk hj, fun _ => ⟨_, rfl⟩⟩
theorem way_pop {f : Fr} {r : List Fr} {p : Option Addr} {c : Nat} {q : Option Addr × Nat} {qr : List (Option Addr × Nat)} {L : List HP} {w : World} (hq : qr.length = r.length)
  (h : Sat (Own 152 3 p (f :: r).length c (stepsV (f :: r) (q :: qr)) :: LsH r qr :: L) w) : Sat (Way r p c :: L) w := by
 refine way_shut hq ?_
 have h1 := Sat.ownTake (l' := r.length) h 0 rfl (by simp)
 have e : (stepsV (f :: r) (q :: qr)).take (r.length * 3) = stepsV r qr := by
  show (stepsV r qr ++ stepV f q).take _ = _
  rw [<- stepsV_len hq, List.take_left]
 rw [e] at h1
 exact h1
theorem way_top {f : Fr} {r : List Fr} {p : Option Addr} {c : Nat} {L : List HP} {w : World} (h : Sat (Way (f :: r) p c :: L) w) : ∃ (q : Option Addr × Nat) (qr : List (Option Addr × Nat)), qr.length = r.length /\ f.l.length + 1 <= q.2 /\
  (∀ {j : Nat} {u : Value}, (stepV f q)[j]? = some u -> (stepsV (f :: r) (q :: qr))[r.length * 3 + j]? = some u) /\
  Sat (Own 96 2 q.1 f.l.length q.2 (pairsV f.l) :: LsH r qr :: Own 152 3 p (f :: r).length c (stepsV (f :: r) (q :: qr)) :: L) w := by
 obtain ⟨qs, hq, h1⟩ := way_open h
 cases qs with
 | nil => simp at hq
 | cons q qr =>
  have hq' : qr.length = r.length := by simpa using hq
  obtain ⟨h2, h3⟩ := lsH_cons (Sat.p1 h1)
  exact ⟨q, qr, hq', h2, fun hj => stepsV_get (P := []) (qp := []) rfl hq' hj, h3⟩
end Go.Proofs.YtpicofkhioalkaaGreat
