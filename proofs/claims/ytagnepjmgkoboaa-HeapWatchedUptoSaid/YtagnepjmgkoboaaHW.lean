
/- A watcher that notes what it is told. -/
import Derived.Test.YtagnepjmgkoboaaHP
set_option maxRecDepth 100000
namespace Go.Proofs.Ytagnepjmgkoboaa
open Go Go.Lw Go.Wd Go.Am Go.Tb Go.Hm

/-- a watcher in memory. -/
def WatH (wb : Nat) (s : List Nat × List Nat) : HP := HEx fun q : (Option Addr × Nat) × (Option Addr × Nat) =>
  star (Row wb [.slice q.1.1 s.1.length q.1.2, .slice q.2.1 s.2.length q.2.2] 38) (star (Own 23 1 q.1.1 s.1.length q.1.2 (words s.1)) (Own 23 1 q.2.1 s.2.length q.2.2 (words s.2)))
section
variable {wb : Nat} {s : List Nat × List Nat} {F : List HP} {w : World}
theorem wat_open (hs : Sat (WatH wb s :: F) w) : ∃ p c q d, Sat (Row wb [.slice p s.1.length c, .slice q s.2.length d] 38 :: Own 23 1 p s.1.length c (words s.1) :: Own 23 1 q s.2.length d (words s.2) :: F) w := by
  obtain ⟨⟨⟨p, c⟩, ⟨q, d⟩⟩, h⟩ := hs.ex
  exact ⟨p, c, q, d, h.split.p1.split.p2⟩
theorem wat_shut {p q : Option Addr} {c d : Nat} (hs : Sat (Row wb [.slice p s.1.length c, .slice q s.2.length d] 38 :: Own 23 1 p s.1.length c (words s.1) :: Own 23 1 q s.2.length d (words s.2) :: F) w) : Sat (WatH wb s :: F) w :=
  Sat.mkEx ((p, c), (q, d)) hs.p2.p2.join.p1.join
theorem wmade_c (hs : Sat (WatH wb s :: F) w) (x : Nat) (hl : s.1.length < 1000000000) : Calls Try.prog 93 #[.pointer (some ⟨wb, 0, none⟩), .int .u64 (x : Int)] w (Ret (.tuple #[]) (Sat (WatH wb (s.1 ++ [x], s.2) :: F))) := by
  obtain ⟨p, c, q, d, h0⟩ := wat_open hs
  refine S_law9_watcher_Made_ok _ _ _ _ ?_
  unfold S_law9_watcher_Made
  show LdS _ _ _
  refine LdS.of h0 0 rfl (off := 0) rfl rfl ?_
  refine NewC.ofRow h0 fun b0 w1 h1 => ?_
  refine RunS.own eok_u64 h1 2 rfl (news := [.int .u64 (x : Int)]) (fun a ha j u hj => by cases ha; rw [add_mk]; exact h1.cell 0 rfl (by rw [Nat.zero_add]; exact hj)) rfl (by simp [Value.oneCell']) (by omega) (by simp only [maxLen]; omega) fun p' c' w2 h2 => ?_
  have h2 : Sat (Row b0 [.int .u64 (x : Int)] 23 :: Row wb [.slice p s.1.length c, .slice q s.2.length d] 38 :: Own 23 1 p' (s.1.length + 1) c' (words s.1 ++ [.int .u64 (x : Int)]) :: Own 23 1 q s.2.length d (words s.2) :: F) w2 := h2
  show StC _ _ _ _
  refine StC.of h2 1 rfl (off := 0) rfl rfl fun w3 h3 => ⟨rfl, ?_⟩
  refine wat_shut (s := (s.1 ++ [x], s.2)) (p := p') (c := c') (q := q) (d := d) ?_
  rw [← words_snoc] at h3
  dsimp only
  rw [List.length_append]
  exact Sat.drop h3
theorem wlinked_c (hs : Sat (WatH wb s :: F) w) (x : Nat) (hl : s.2.length < 1000000000000) : Calls Try.prog 92 #[.pointer (some ⟨wb, 0, none⟩), .int .u64 (x : Int)] w (Ret (.tuple #[]) (Sat (WatH wb (s.1, s.2 ++ [x]) :: F))) := by
  obtain ⟨p, c, q, d, h0⟩ := wat_open hs
  refine S_law9_watcher_Linked_ok _ _ _ _ ?_
  unfold S_law9_watcher_Linked
  show LdS _ _ _
  refine LdS.of h0 0 rfl (off := 1) rfl (add_mk _ _ _) ?_
  refine NewC.ofRow h0 fun b0 w1 h1 => ?_
  refine RunS.own eok_u64 h1 3 rfl (news := [.int .u64 (x : Int)]) (fun a ha j u hj => by cases ha; rw [add_mk]; exact h1.cell 0 rfl (by rw [Nat.zero_add]; exact hj)) rfl (by simp [Value.oneCell']) (by omega) (by simp only [maxLen]; omega) fun p' c' w2 h2 => ?_
  have h2 : Sat (Row b0 [.int .u64 (x : Int)] 23 :: Row wb [.slice p s.1.length c, .slice q s.2.length d] 38 :: Own 23 1 p s.1.length c (words s.1) :: Own 23 1 p' (s.2.length + 1) c' (words s.2 ++ [.int .u64 (x : Int)]) :: F) w2 := h2
  show StC _ _ _ _
  refine StC.of h2 1 rfl (off := 1) rfl (add_mk _ _ _) fun w3 h3 => ⟨rfl, ?_⟩
  refine wat_shut (s := (s.1, s.2 ++ [x])) (p := p) (c := c) (q := p') (d := c') ?_
  rw [← words_snoc] at h3
  dsimp only
  rw [List.length_append]
  exact Sat.drop h3
end
def watV (wb : Nat) : Value := .iface 36 (.pointer (some ⟨wb, 0, none⟩))
theorem wat_made_m (wb : Nat) (w : World) : (method (Try.prog.types.size + Made.depth) 36 (.pointer (some ⟨wb, 0, none⟩)) "Made").run Try.prog w = .ok (93, .pointer (some ⟨wb, 0, none⟩)) w := by kernel_rfl
theorem wat_linked_m (wb : Nat) (w : World) : (method (Try.prog.types.size + Made.depth) 36 (.pointer (some ⟨wb, 0, none⟩)) "Linked").run Try.prog w = .ok (92, .pointer (some ⟨wb, 0, none⟩)) w := by kernel_rfl
/-- a watcher that has room for one more. -/
def Wt.watch (wb b k : Nat) (hk : k < 1000000000) : Wt (watV wb) b (List Nat × List Nat) where
  at_ := WatH wb
  inv := fun _ s => s.1.length ≤ k ∧ s.2.length ≤ k
  fin := fun _ s => s.1.length ≤ k + 1 ∧ s.2.length ≤ k + 1
  inv_fin := fun h => ⟨by omega, by omega⟩
  made := fun H s x => (H, (s.1 ++ [x], s.2))
  link := fun H s x => (H, (s.1, s.2 ++ [x]))
  inv_set := fun h _ _ => h
  inv_root := fun h => h
  made_ok := fun {H s tag refs size} hi _ _ _ => ⟨Sm.refl _, ⟨by simp; omega, by simp; omega⟩, fun F w h => ⟨false, rfl, _, _, _, _, rfl, wat_made_m wb, by kernel_rfl, (wmade_c (Sat.p1 h) _ (by omega)).mono fun e w' hh => ⟨hh.1, hh.2.p1⟩⟩⟩
  link_ok := fun {H s y} hi _ _ => ⟨Sm.refl _, ⟨by simp; omega, by simp; omega⟩, fun F w h => ⟨false, rfl, _, _, _, _, rfl, wat_linked_m wb, by kernel_rfl, (wlinked_c (Sat.p1 h) _ (by omega)).mono fun e w' hh => ⟨hh.1, hh.2.p1⟩⟩⟩
end Go.Proofs.Ytagnepjmgkoboaa
