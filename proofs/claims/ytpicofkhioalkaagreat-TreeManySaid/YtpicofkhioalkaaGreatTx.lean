
/- The choices on the way down. -/
import Derived.Test.YtpicofkhioalkaaGreatTw
set_option maxRecDepth 100000
namespace Go.Proofs.YtpicofkhioalkaaGreat
open Go Go.Lw Go.Wd Go.Am Go.Tb Go.Hm Go.Kd Go.Td

section
variable {H : Hp} {v : Value} {b : Nat} {F : List HP} {w : World}
theorem choose_put {d0 d1 t : Nat} {key : K} {G : List HP} : Chooses H v b 98 #[.pointer (some ⟨d0, 0, none⟩), .pointer (some ⟨d1, 0, none⟩)] (Row d0 (trc b t) 73 :: Row d1 [.string (str key)] 9 :: G) (ByKey key) := by
  intro L A w p c hne hl hs hk hr h
  refine FnQ.calls (by kernel_rfl) ?_
  refine S_tree_tree_put_1_ok _ _ _ _ _ _ _ ?_
  unfold S_tree_tree_put_1
  refine LdP.of h 2 rfl (off := 0) rfl rfl (LdI.of h 2 rfl (off := 1) rfl (add_mk _ _ _) (LdStr.of h 3 rfl (off := 0) rfl rfl ?_))
  refine (tway_c (L := L) h (srt_kids hs fun a ha => (hk a ha).2.2.2) hk rfl (by omega) hr).mono ?_
  rintro e w' ⟨i, hi, rfl, h'⟩
  obtain ⟨X, a, Y, h1, h2, h3⟩ := way_split hne hs (fun a ha => (hk a ha).2.2.2) hi
  exact ⟨_, rfl, X, a, Y, h1, h3, by rw [h2], h'⟩
theorem choose_take {d0 d1 t : Nat} {key : K} {G : List HP} : Chooses H v b 91 #[.pointer (some ⟨d0, 0, none⟩), .pointer (some ⟨d1, 0, none⟩)] (Row d0 (trc b t) 73 :: Row d1 [.string (str key)] 9 :: G) (ByKey key) := by
  intro L A w p c hne hl hs hk hr h
  refine FnQ.calls (by kernel_rfl) ?_
  refine S_tree_tree_take_1_ok _ _ _ _ _ _ _ ?_
  unfold S_tree_tree_take_1
  refine LdP.of h 2 rfl (off := 0) rfl rfl (LdI.of h 2 rfl (off := 1) rfl (add_mk _ _ _) (LdStr.of h 3 rfl (off := 0) rfl rfl ?_))
  refine (tway_c (L := L) h (srt_kids hs fun a ha => (hk a ha).2.2.2) hk rfl (by omega) hr).mono ?_
  rintro e w' ⟨i, hi, rfl, h'⟩
  obtain ⟨X, a, Y, h1, h2, h3⟩ := way_split hne hs (fun a ha => (hk a ha).2.2.2) hi
  exact ⟨_, rfl, X, a, Y, h1, h3, by rw [h2], h'⟩
theorem choose_seek {d0 d1 t : Nat} {key : K} {G : List HP} : Chooses H v b 54 #[.pointer (some ⟨d0, 0, none⟩), .pointer (some ⟨d1, 0, none⟩)] (Row d0 (trc b t) 73 :: Row d1 [.string (str key)] 9 :: G) (ByKey key) := by
  intro L A w p c hne hl hs hk hr h
  refine FnQ.calls (by kernel_rfl) ?_
  refine S_tree_Seek_2_ok _ _ _ _ _ _ _ ?_
  unfold S_tree_Seek_2
  refine LdP.of h 2 rfl (off := 0) rfl rfl (LdI.of h 2 rfl (off := 1) rfl (add_mk _ _ _) (LdStr.of h 3 rfl (off := 0) rfl rfl ?_))
  refine (tway_c (L := L) h (srt_kids hs fun a ha => (hk a ha).2.2.2) hk rfl (by omega) hr).mono ?_
  rintro e w' ⟨i, hi, rfl, h'⟩
  obtain ⟨X, a, Y, h1, h2, h3⟩ := way_split hne hs (fun a ha => (hk a ha).2.2.2) hi
  exact ⟨_, rfl, X, a, Y, h1, h3, by rw [h2], h'⟩
theorem choose_get {d0 d1 t : Nat} {key : K} {G : List HP} : Chooses H v b 62 #[.pointer (some ⟨d0, 0, none⟩), .pointer (some ⟨d1, 0, none⟩)] (Row d0 (trc b t) 73 :: Row d1 [.string (str key)] 9 :: G) (ByKey key) := by
  intro L A w p c hne hl hs hk hr h
  refine FnQ.calls (by kernel_rfl) ?_
  refine S_tree_Get_2_ok _ _ _ _ _ _ _ ?_
  unfold S_tree_Get_2
  refine LdP.of h 2 rfl (off := 0) rfl rfl (LdI.of h 2 rfl (off := 1) rfl (add_mk _ _ _) (LdStr.of h 3 rfl (off := 0) rfl rfl ?_))
  refine (tway_c (L := L) h (srt_kids hs fun a ha => (hk a ha).2.2.2) hk rfl (by omega) hr).mono ?_
  rintro e w' ⟨i, hi, rfl, h'⟩
  obtain ⟨X, a, Y, h1, h2, h3⟩ := way_split hne hs (fun a ha => (hk a ha).2.2.2) hi
  exact ⟨_, rfl, X, a, Y, h1, h3, by rw [h2], h'⟩
/-- the last one of all, or by a key. -/
def ByLast (key : K) (A : List Kid) (c : Kid) (B : List Kid) : Prop := if key = [] then B = [] ∧ c.es ≠ [] else ByKey key A c B
theorem str_nil (key : K) : ((str key).toList == (⟨#[]⟩ : ByteArray).toList) = decide (key = []) := by
  rw [str_toList]
  have : (⟨#[]⟩ : ByteArray).toList = [] := str_toList []
  rw [this]
  cases key <;> rfl
theorem choose_last {d0 d1 t : Nat} {key : K} {G : List HP} : Chooses H v b 60 #[.pointer (some ⟨d1, 0, none⟩), .pointer (some ⟨d0, 0, none⟩)] (Row d0 (trc b t) 73 :: Row d1 [.string (str key)] 9 :: G) (ByLast key) := by
  intro L A w p c hne hl hs hk hr h
  refine FnQ.calls (by kernel_rfl) ?_
  refine S_tree_Last_2_ok _ _ _ _ _ _ _ ?_
  unfold S_tree_Last_2
  refine LdStr.of h 3 rfl (off := 0) rfl rfl ?_
  rw [str_nil]
  by_cases hkn : key = []
  · refine cond_t (by simp [hkn]) ?_
    have h0 := List.length_pos_iff.2 hne
    obtain ⟨X, a, rfl⟩ : ∃ X a, L = X ++ [a] := ⟨L.dropLast, L.getLast hne, (List.dropLast_concat_getLast hne).symm⟩
    refine ⟨X, a, [], rfl, by unfold ByLast; rw [if_pos hkn]; exact ⟨rfl, (hk a (by simp)).2.2.2⟩, ?_, h⟩
    show Ending.returned _ = Ending.returned _
    rw [wrapI64 (by omega) (by omega)]
    simp
  · refine cond_f (by simp [hkn]) ?_
    refine LdP.of h 2 rfl (off := 0) rfl rfl (LdI.of h 2 rfl (off := 1) rfl (add_mk _ _ _) (LdStr.of h 3 rfl (off := 0) rfl rfl ?_))
    refine (tway_c (L := L) h (srt_kids hs fun a ha => (hk a ha).2.2.2) hk rfl (by omega) hr).mono ?_
    rintro e w' ⟨i, hi, rfl, h'⟩
    obtain ⟨X, a, Y, h1, h2, h3⟩ := way_split hne hs (fun a ha => (hk a ha).2.2.2) hi
    exact ⟨_, rfl, X, a, Y, h1, by unfold ByLast; rw [if_neg hkn]; exact h3, by rw [h2], h'⟩
end
end Go.Proofs.YtpicofkhioalkaaGreat
