
/- What each call of the package handle does to a table: contracts of its functions. -/
import Derived.Test.YtpicofkhioalkaaGreatG
import Derived.Test.YtpicofkhioalkaaGreatTb
namespace Go.Proofs.YtpicofkhioalkaaGreat
open Go Go.Lw Go.Tb
theorem wrapU64 {n : Int} (h0 : 0 <= n) (h1 : n < 18446744073709551616) : IntKind.wrap .u64 n = n := by
 simp [IntKind.wrap, IntKind.bits, IntKind.signed]; omega
theorem wrapU32 {n : Int} (h0 : 0 <= n) (h1 : n < 4294967296) : IntKind.wrap .u32 n = n := by
 simp [IntKind.wrap, IntKind.bits, IntKind.signed]; omega
theorem wrapI64 {n : Int} (h0 : -9223372036854775808 <= n) (h1 : n < 9223372036854775808) : IntKind.wrap .i64 n = n := by
 rw [IntKind.wrap_i64]; omega
theorem or_hi (g i : Nat) (hi : i < 4294967296) : g * 4294967296 ||| i = g * 4294967296 + i := by
 have := Nat.two_pow_add_eq_or_of_lt (b := i) (i := 32) (by simpa using hi) g
 have e : (2 : Nat) ^ 32 = 4294967296 := by decide
 rw [e] at this
 rw [Nat.mul_comm g, <- this]
theorem hnd_word {g i : Nat} (hg : g < 4294967296) (hi : i + 1 < 4294967296) :
  bOr .u64 (bShl .u64 (IntKind.wrap .u64 (g : Int)) 32) (IntKind.wrap .u64 (IntKind.wrap .i64 ((i : Int) + 1))) = (hnd g i : Int) := by
 rw [wrapU64 (n := (g : Int)) (by omega) (by omega), wrapI64 (by omega) (by omega), wrapU64 (by omega) (by omega)]
 have e1 : bShl .u64 (g : Int) 32 = ((g * 4294967296 : Nat) : Int) := by
  unfold bShl
  have : (2 : Int) ^ (min (Int.toNat 32) (IntKind.bits .u64)) = 4294967296 := by decide
  rw [this, wrapU64 (by omega) (by omega)]
  omega
 rw [e1]
 unfold bOr
 have e2 : (BitVec.ofInt (IntKind.bits .u64) ((g * 4294967296 : Nat) : Int) ||| BitVec.ofInt (IntKind.bits .u64) ((i : Int) + 1)).toNat = g * 4294967296 + (i + 1) := by
  rw [BitVec.toNat_or]
  have a1 : (BitVec.ofInt (IntKind.bits .u64) ((g * 4294967296 : Nat) : Int)).toNat = g * 4294967296 := by
   rw [BitVec.ofInt_natCast, BitVec.toNat_ofNat]
   exact Nat.mod_eq_of_lt (by simp [IntKind.bits]; omega)
  have a2 : (BitVec.ofInt (IntKind.bits .u64) ((i : Int) + 1)).toNat = i + 1 := by
   rw [show ((i : Int) + 1) = ((i + 1 : Nat) : Int) by omega, BitVec.ofInt_natCast, BitVec.toNat_ofNat]
   exact Nat.mod_eq_of_lt (by simp [IntKind.bits]; omega)
  rw [a1, a2, or_hi g (i + 1) hi]
 rw [e2, wrapU64 (by omega) (by omega)]
 unfold hnd
 omega
theorem low_word {h : Nat} (hh : h < 18446744073709551616) : bAnd .u64 (h : Int) 4294967295 = ((h % 4294967296 : Nat) : Int) := by
 unfold bAnd
 have e : (BitVec.ofInt (IntKind.bits .u64) (h : Int) &&& BitVec.ofInt (IntKind.bits .u64) 4294967295).toNat = h % 4294967296 := by
  rw [BitVec.toNat_and, BitVec.ofInt_natCast, BitVec.toNat_ofNat]
  have a1 : h % 2 ^ IntKind.bits .u64 = h := Nat.mod_eq_of_lt (by simpa [IntKind.bits] using hh)
  have a2 : (BitVec.ofInt (IntKind.bits .u64) 4294967295).toNat = 2 ^ 32 - 1 := by decide
  rw [a1, a2, Nat.and_two_pow_sub_one_eq_mod]
 rw [e, wrapU64 (by omega) (by omega)]
theorem high_word (h : Nat) : bShr .u64 (h : Int) 32 = ((h / 4294967296 : Nat) : Int) := by
 unfold bShr
 have : (2 : Int) ^ (min (Int.toNat 32) (IntKind.bits .u64)) = 4294967296 := by decide
 rw [this, Int.fdiv_eq_ediv_of_nonneg _ (by omega)]
 omega
def tabRow (m : Tab) (bs : Nat) : List Value := [.slice (some ⟨bs, 0, none⟩) m.n m.n, .int .i64 m.L.length, .int .i64 (top m.fr), .int .i64 m.count]
def Tbl (m : Tab) (b : Nat) : HP := HAnd m.WF (HEx fun bs => star (Row b (tabRow m bs) 111) (Row bs (rowsF m.n (slotCells m)) 144))
theorem tbl_open {m : Tab} {b : Nat} {F : List HP} {w : World} (hs : Sat (Tbl m b :: F) w) : m.WF /\ ∃ bs, Sat (Row b (tabRow m bs) 111 :: Row bs (rowsF m.n (slotCells m)) 144 :: F) w := by
 obtain ⟨hm, h⟩ := hs.pureOf
 obtain ⟨bs, h⟩ := h.ex
 exact ⟨hm, bs, h.split⟩
theorem tbl_shut {m : Tab} {b bs : Nat} {F : List HP} {w : World} (hm : m.WF) (hs : Sat (Row b (tabRow m bs) 111 :: Row bs (rowsF m.n (slotCells m)) 144 :: F) w) : Sat (Tbl m b :: F) w :=
 Sat.mkPure hm (Sat.mkEx bs hs.join)
theorem slot_get {m : Tab} {i : Nat} (hi : i < m.n) (j : Nat) (hj : j < 4) : (rowsF m.n (slotCells m))[i * 4 + j]? = (slotCells m i)[j]? := rowsF_get (slotCells_len m) hi hj
theorem slot_get0 {m : Tab} {i : Nat} (hi : i < m.n) : (rowsF m.n (slotCells m))[i * 4]? = (slotCells m i)[0]? := slot_get hi 0 (by omega)
theorem cells_gen {m : Tab} (i : Nat) : (slotCells m i)[0]? = some (.int .u32 (m.genAt i)) := by
 unfold slotCells Tab.genAt
 cases m.L[i]? with
 | none => rfl
 | some s => dsimp only; split <;> rfl
theorem cells_taken {m : Tab} (i : Nat) : (slotCells m i)[1]? = some (.bool (m.takenAt i)) := by
 unfold slotCells Tab.takenAt
 cases m.L[i]? with
 | none => rfl
 | some s => dsimp only; split <;> simp_all
theorem cells_at {m : Tab} {i : Nat} (h : m.takenAt i = true) : (slotCells m i)[2]? = some (.int .i64 (m.atOf i)) := by
 unfold Tab.takenAt at h
 unfold slotCells Tab.atOf
 cases hs : m.L[i]? with
 | none => rw [hs] at h; cases h
 | some s => rw [hs] at h; simp at h; simp [h]
theorem hnext_c {m : Tab} {b : Nat} {F : List HP} {w : World} (hs : Sat (Tbl m b :: F) w) :
  Calls Tryz.prog 131 #[.pointer (some ⟨b, 0, none⟩)] w fun e w' => e = .returned (.int .i64 m.nextSlot) /\ w = w' := by
 obtain ⟨hm, bs, h⟩ := tbl_open hs
 refine S_handle_Table_next_ok _ _ _ ?_
 unfold S_handle_Table_next
 simp only [onSome_some, add_mk, Nat.zero_add]
 refine LdI.of h 0 rfl (off := 2) rfl rfl ?_
 have hl := hm.len; have hmo := hm.most
 cases hf : m.fr with
 | nil =>
  simp only [top]
  refine LdI.of h 0 rfl (off := 1) rfl rfl ?_
  simp [Tab.nextSlot, hf]
 | cons i r =>
  have hi : i < m.L.length := hm.mem_lt (by rw [hf]; simp)
  have : decide (((top (i :: r) : Nat) : Int) > 0) = true := by simp [top]
  rw [this]
  refine LdI.of h 0 rfl (off := 2) rfl rfl ?_
  rw [hf]
  simp only [top, Tab.nextSlot, hf, and_true]
  rw [wrapI64 (by omega) (by omega)]
  congr 2
  omega
theorem handle_c {m : Tab} {b : Nat} {F : List HP} {w : World} (hs : Sat (Tbl m b :: F) w) {i : Nat} (hi : i < m.n) :
  Calls Tryz.prog 123 #[.pointer (some ⟨b, 0, none⟩), .int .i64 (i : Int)] w fun e w' => e = .returned (.int .u64 (hnd (m.genAt i) i : Nat)) /\ w = w' := by
 obtain ⟨hm, bs, h⟩ := tbl_open hs
 refine S_handle_Table_handle_ok _ _ _ _ ?_
 unfold S_handle_Table_handle
 simp only [onSome_some, add_mk, Nat.zero_add]
 refine LdS.of h 0 rfl (off := 0) rfl rfl ?_
 refine IdxC.of (by omega) (by omega) ?_
 simp only [Int.toNat_natCast, Nat.zero_add]
 refine LdI.of h 1 rfl (off := i * 4) ((slot_get0 hi).trans (cells_gen i)) rfl ?_
 have hmo := hm.most
 have hg : m.genAt i < 4294967296 := by
  unfold Tab.genAt
  cases hh : m.L[i]? with
  | none => simp
  | some s => exact hm.gen i s hh
 rw [hnd_word hg (by omega)]
 exact ⟨rfl, trivial⟩
theorem find_c {m : Tab} {b : Nat} {F : List HP} {w : World} (hs : Sat (Tbl m b :: F) w) {h : Nat} (hh : h < 18446744073709551616) :
  Calls Tryz.prog 97 #[.pointer (some ⟨b, 0, none⟩), .int .u64 (h : Int)] w fun e w' =>
   e = .returned (match m.find h with | some i => .tuple #[.int .i64 (i : Int), .int .i64 0] | none => .tuple #[.int .i64 0, .int .i64 6]) /\ w = w' := by
 obtain ⟨hm, bs, hS⟩ := tbl_open hs
 have hl := hm.len; have hmo := hm.most
 refine S_handle_Table_find_ok _ _ _ _ ?_
 unfold S_handle_Table_find
 simp only [onSome_some, add_mk, Nat.zero_add, low_word hh, high_word]
 have hlow : h % 4294967296 < 4294967296 := Nat.mod_lt _ (by omega)
 generalize hlo : h % 4294967296 = lo at hlow ⊢
 rw [wrapI64 (n := (lo : Int)) (by omega) (by omega), wrapI64 (by omega) (by omega)]
 cases lo with
 | zero =>
  have hf : m.find h = none := by unfold Tab.find; rw [hlo]
  rw [hf]
  exact ⟨rfl, trivial⟩
 | succ i =>
  have e1 : (((i + 1 : Nat) : Int) - 1) = (i : Int) := by omega
  rw [e1]
  have d1 : decide ((i : Int) < 0) = false := by simp
  rw [d1]
  refine LdS.of hS 0 rfl (off := 0) rfl rfl ?_
  by_cases hi : i < m.n
  ·have d2 : decide ((i : Int) ≥ ((m.n : Nat) : Int)) = false := by simp; omega
   rw [d2]
   refine LdS.of hS 0 rfl (off := 0) rfl rfl ?_
   refine IdxC.of (by omega) (by omega) ?_
   simp only [Int.toNat_natCast, Nat.zero_add, add_mk]
   refine LdB.of hS 1 rfl (off := i * 4 + 1) ((slot_get hi 1 (by omega)).trans (cells_taken i)) rfl ?_
   cases ht : m.takenAt i
   ·have hf : m.find h = none := by
     unfold Tab.find; rw [hlo]; dsimp only
     unfold Tab.takenAt at ht
     cases hx : m.L[i]? with
     | none => rfl
     | some s => rw [hx] at ht; simp at ht; simp [ht]
    rw [hf]
    exact ⟨rfl, trivial⟩
   ·refine LdS.of hS 0 rfl (off := 0) rfl rfl ?_
    refine IdxC.of (by omega) (by omega) ?_
    simp only [Int.toNat_natCast, Nat.zero_add, add_mk]
    refine LdI.of hS 1 rfl (off := i * 4) ((slot_get0 hi).trans (cells_gen i)) rfl ?_
    unfold Tab.takenAt at ht
    cases hx : m.L[i]? with
    | none => rw [hx] at ht; cases ht
    | some s =>
     rw [hx] at ht
     have hg := hm.gen i s hx
     have hgA : m.genAt i = s.gen := by simp [Tab.genAt, hx]
     rw [hgA, wrapU64 (by omega) (by omega)]
     by_cases hge : s.gen = h / 4294967296
     ·have d3 : ((s.gen : Int) != ((h / 4294967296 : Nat) : Int)) = false := by simp [hge]
      have hf : m.find h = some i := by unfold Tab.find; rw [hlo]; simp only [hx]; rw [if_pos ⟨ht, hge⟩]
      rw [d3, hf]
      exact ⟨rfl, trivial⟩
     ·have d3 : ((s.gen : Int) != ((h / 4294967296 : Nat) : Int)) = true := by simp; omega
      have hf : m.find h = none := by unfold Tab.find; rw [hlo]; simp only [hx]; rw [if_neg (fun hh => hge hh.2)]
      rw [d3, hf]
      exact ⟨rfl, trivial⟩
  ·have d2 : decide ((i : Int) ≥ ((m.n : Nat) : Int)) = true := by simp; omega
   rw [d2]
   have hf : m.find h = none := by
    unfold Tab.find; rw [hlo]; dsimp only
    rw [List.getElem?_eq_none (by omega)]
   rw [hf]
   exact ⟨rfl, trivial⟩
theorem count_c {m : Tab} {b : Nat} {F : List HP} {w : World} (hs : Sat (Tbl m b :: F) w) :
  Calls Tryz.prog 26 #[.pointer (some ⟨b, 0, none⟩)] w fun e w' => e = .returned (.int .i64 (m.count : Nat)) /\ w = w' := by
 obtain ⟨hm, bs, h⟩ := tbl_open hs
 refine S_handle_Table_Count_ok _ _ _ ?_
 unfold S_handle_Table_Count
 simp only [onSome_some, add_mk, Nat.zero_add]
 exact LdI.of h 0 rfl (off := 3) rfl rfl ⟨rfl, trivial⟩
theorem slots_c {m : Tab} {b : Nat} {F : List HP} {w : World} (hs : Sat (Tbl m b :: F) w) :
  Calls Tryz.prog 25 #[.pointer (some ⟨b, 0, none⟩)] w fun e w' => e = .returned (.int .i64 (m.n : Nat)) /\ w = w' := by
 obtain ⟨hm, bs, h⟩ := tbl_open hs
 refine S_handle_Table_Slots_ok _ _ _ ?_
 unfold S_handle_Table_Slots
 simp only [onSome_some, add_mk, Nat.zero_add]
 exact LdS.of h 0 rfl (off := 0) rfl rfl ⟨rfl, trivial⟩
theorem slot_c {m : Tab} {b : Nat} {F : List HP} {w : World} (hs : Sat (Tbl m b :: F) w) {h : Nat} (hh : h < 18446744073709551616) :
  Calls Tryz.prog 74 #[.pointer (some ⟨b, 0, none⟩), .int .u64 (h : Int)] w fun e w' =>
   e = .returned (match m.find h with | some i => .tuple #[.int .i64 (i : Int), .int .i64 0] | none => .tuple #[.int .i64 0, .int .i64 6]) /\ w = w' := by
 refine S_handle_Table_Slot_ok _ _ _ _ ?_
 unfold S_handle_Table_Slot
 refine (find_c hs hh).mono ?_
 rintro e w' ⟨rfl, rfl⟩
 cases m.find h with
 | none => exact ⟨_, _, rfl, rfl, rfl⟩
 | some i => exact ⟨_, _, rfl, rfl, rfl⟩
theorem find_some {m : Tab} {h i : Nat} (hf : m.find h = some i) : ∃ s, m.L[i]? = some s /\ s.taken = true /\ s.gen = h / 4294967296 /\ h % 4294967296 = i + 1 := by
 unfold Tab.find at hf
 split at hf
 ·cases hf
 ·rename_i k hk
  split at hf
  ·rename_i s hs
   split at hf
   ·rename_i hc
    simp only [Option.some.injEq] at hf
    subst hf
    exact ⟨s, hs, hc.1, hc.2, hk⟩
   ·cases hf
  ·cases hf
theorem find_lt {m : Tab} (hm : m.WF) {h i : Nat} (hf : m.find h = some i) : i < m.n := by
 obtain ⟨s, hs, _⟩ := find_some hf
 have : i < m.L.length := by
  rcases Nat.lt_or_ge i m.L.length with h | h
  ·exact h
  ·rw [List.getElem?_eq_none h] at hs; cases hs
 have := hm.len
 omega
theorem at_c {m : Tab} {b : Nat} {F : List HP} {w : World} (hs : Sat (Tbl m b :: F) w) {h : Nat} (hh : h < 18446744073709551616) :
  Calls Tryz.prog 44 #[.pointer (some ⟨b, 0, none⟩), .int .u64 (h : Int)] w fun e w' =>
   e = .returned (match m.find h with | some i => .tuple #[.int .i64 (m.atOf i : Nat), .int .i64 0] | none => .tuple #[.int .i64 0, .int .i64 6]) /\ w = w' := by
 obtain ⟨hm, bs, hS⟩ := tbl_open hs
 refine S_handle_Table_At_ok _ _ _ _ ?_
 unfold S_handle_Table_At
 refine (find_c hs hh).mono ?_
 rintro e w' ⟨rfl, rfl⟩
 simp only [onSome_some, add_mk, Nat.zero_add]
 cases hf : m.find h with
 | none => exact ⟨_, _, rfl, by exact ⟨rfl, trivial⟩⟩
 | some i =>
  obtain ⟨s, hx, ht, hg, hl⟩ := find_some hf
  have hi := find_lt hm hf
  refine ⟨_, _, rfl, ?_⟩
  refine LdS.of hS 0 rfl (off := 0) rfl rfl ?_
  refine IdxC.of (by omega) (by omega) ?_
  simp only [Int.toNat_natCast, Nat.zero_add, add_mk]
  exact LdI.of hS 1 rfl (off := i * 4 + 2) ((slot_get hi 2 (by omega)).trans (cells_at (by simp [Tab.takenAt, hx, ht]))) rfl ⟨rfl, trivial⟩
theorem of_c {m : Tab} {b : Nat} {F : List HP} {w : World} (hs : Sat (Tbl m b :: F) w) (i : Int) :
  Calls Tryz.prog 78 #[.pointer (some ⟨b, 0, none⟩), .int .i64 i] w fun e w' =>
   e = .returned (if i < 0 ∨ m.n <= i then .tuple #[.int .u64 0, .int .i64 1] else if m.takenAt i.toNat = true then .tuple #[.int .u64 (hnd (m.genAt i.toNat) i.toNat : Nat), .int .i64 0] else .tuple #[.int .u64 0, .int .i64 6]) /\ w = w' := by
 obtain ⟨hm, bs, hS⟩ := tbl_open hs
 refine S_handle_Table_Of_ok _ _ _ _ ?_
 unfold S_handle_Table_Of
 simp only [onSome_some, add_mk, Nat.zero_add]
 by_cases h0 : i < 0
 ·rw [if_pos (.inl h0)]
  have d1 : decide (i < 0) = true := by simpa using h0
  rw [d1]
  exact ⟨rfl, trivial⟩
 ·have d1 : decide (i < 0) = false := by simpa using h0
  rw [d1]
  refine LdS.of hS 0 rfl (off := 0) rfl rfl ?_
  by_cases h1 : (m.n : Int) <= i
  ·rw [if_pos (.inr h1)]
   have d2 : decide (i ≥ ((m.n : Nat) : Int)) = true := by simp; omega
   rw [d2]
   exact ⟨rfl, trivial⟩
  ·rw [if_neg (by omega)]
   have d2 : decide (i ≥ ((m.n : Nat) : Int)) = false := by simp; omega
   rw [d2]
   obtain ⟨k, rfl⟩ := Int.eq_ofNat_of_zero_le (Int.not_lt.1 h0)
   have hk : k < m.n := by omega
   simp only [Int.toNat_natCast]
   refine LdS.of hS 0 rfl (off := 0) rfl rfl ?_
   refine IdxC.of (by omega) (by omega) ?_
   simp only [Int.toNat_natCast, Nat.zero_add, add_mk]
   refine LdB.of hS 1 rfl (off := k * 4 + 1) ((slot_get hk 1 (by omega)).trans (cells_taken k)) rfl ?_
   cases ht : m.takenAt k
   ·exact ⟨rfl, trivial⟩
   ·refine (handle_c hs hk).mono ?_
    rintro e w' ⟨rfl, rfl⟩
    exact ⟨_, rfl, rfl, rfl⟩
theorem move_c {m : Tab} {b : Nat} {F : List HP} {w : World} (hs : Sat (Tbl m b :: F) w) {h : Nat} (hh : h < 18446744073709551616) (a : Int) (ha : a < 9223372036854775808) :
  Calls Tryz.prog 122 #[.pointer (some ⟨b, 0, none⟩), .int .u64 (h : Int), .int .i64 a] w fun e w' =>
   (m.find h = none /\ e = .returned (.int .i64 6) /\ w = w') ∨ (∃ i, m.find h = some i /\ a < 0 /\ e = .returned (.int .i64 1) /\ w = w') ∨
   ∃ i, m.find h = some i /\ 0 <= a /\ e = .returned (.int .i64 0) /\ Sat (Tbl (m.move i a.toNat) b :: F) w' := by
 obtain ⟨hm, bs, hS⟩ := tbl_open hs
 refine S_handle_Table_Move_ok _ _ _ _ _ ?_
 unfold S_handle_Table_Move
 refine (find_c hs hh).mono ?_
 rintro e w' ⟨rfl, rfl⟩
 simp only [onSome_some, add_mk, Nat.zero_add]
 cases hf : m.find h with
 | none => exact ⟨_, _, rfl, .inl (by simp)⟩
 | some i =>
  obtain ⟨s, hx, ht, hg, hl⟩ := find_some hf
  have hi := find_lt hm hf
  have htk : m.takenAt i = true := by simp [Tab.takenAt, hx, ht]
  refine ⟨_, _, rfl, ?_⟩
  by_cases h0 : a < 0
  ·have d1 : decide (a < 0) = true := by simpa using h0
   rw [d1]
   exact .inr (.inl ⟨i, rfl, h0, by simp⟩)
  ·have d1 : decide (a < 0) = false := by simpa using h0
   rw [d1]
   refine LdS.of hS 0 rfl (off := 0) rfl rfl ?_
   refine IdxC.of (by omega) (by omega) ?_
   simp only [Int.toNat_natCast, Nat.zero_add, add_mk]
   refine StC.of hS 1 rfl (off := i * 4 + 2) ((slot_get hi 2 (by omega)).trans (cells_at htk)) rfl fun w1 hS1 => ?_
   refine .inr (.inr ⟨i, rfl, by omega, trivial, tbl_shut (hm.move htk (by omega)) (bs := bs) ?_⟩)
   simp only [List.set_cons_succ, List.set_cons_zero] at hS1
   rw [rowsF_set (slotCells_len m) hi (by omega)] at hS1
   obtain ⟨k, rfl⟩ := Int.eq_ofNat_of_zero_le (Int.not_lt.1 h0)
   have hr : rowsF m.n (setRowF (slotCells m) i 2 (.int .i64 ((k : Nat) : Int))) = rowsF (m.move i k).n (slotCells (m.move i k)) := by
    refine rows_other (i := i) rfl ?_ fun j hj => ?_
    ·rw [setRowF_eq]
     have e1 : slotCells m i = [.int .u32 s.gen, .bool true, .int .i64 s.at_, .int .i64 0] := by simp only [slotCells, hx, ht, if_true]
     have e2 : (m.move i k).L[i]? = some ⟨s.gen, k, true⟩ := by simp only [Tab.move, List.getElem?_set_self (get_lt hx), genAt_of hx]
     rw [e1]
     simp only [slotCells, e2, if_true]
     rfl
    ·rw [setRowF_ne hj]
     simp only [slotCells, Tab.move]
     rw [List.getElem?_set_ne (Ne.symm hj)]
   rw [hr] at hS1
   have ht2 : tabRow (m.move i k) bs = tabRow m bs := by simp [tabRow, Tab.move, Tab.count]
   simp only [Int.toNat_natCast]
   rw [ht2]
   exact hS1
theorem make_ok {m : Tab} {b : Nat} {F : List HP} {w : World} (hs : Sat (Tbl m b :: F) w) {a : Nat} (ha : a < 9223372036854775808) (hf : ¬ m.full) :
  Calls Tryz.prog 87 #[.pointer (some ⟨b, 0, none⟩), .int .i64 (a : Int)] w fun e w' =>
   e = .returned (.tuple #[.int .u64 (hnd (m.genAt m.nextSlot) m.nextSlot : Nat), .int .i64 0]) /\ Sat (Tbl (m.make a) b :: F) w' := by
 have hs' := hs.drew
 obtain ⟨hm, bs, h⟩ := tbl_open hs'
 refine S_handle_Table_Make_ok _ _ _ _ ?_
 unfold S_handle_Table_Make
 have d1 : decide ((a : Int) < 0) = false := by simp
 rw [d1]
 simp only [onSome_some, add_mk, Nat.zero_add]
 refine LdI.of h 0 rfl (off := 3) rfl rfl ?_
 refine LdS.of h 0 rfl (off := 0) rfl rfl ?_
 have d2 : (((m.count : Nat) : Int) == ((m.n : Nat) : Int)) = false := by
  have : m.count ≠ m.n := fun e => hf (hm.count_eq.1 e)
  simp; omega
 rw [d2]
 refine (hnext_c hs').mono ?_
 rintro e w' ⟨rfl, rfl⟩
 generalize w.drew = w at hs' h
 have hlt := hm.next_lt hf
 have hlen := hm.len; have hmo := hm.most; have hfl := hm.fr_len
 have hmk := hm.make hf ha
 refine ⟨_, rfl, ?_⟩
 refine LdS.of h 0 rfl (off := 0) rfl rfl ?_
 refine IdxC.of (by omega) (by omega) ?_
 simp only [Int.toNat_natCast, Nat.zero_add, add_mk]
 have back : ∀ (r1 r2 : Nat) (w3 : World), (r1 : Int) = (m.make a).L.length -> (r2 : Int) = top (m.make a).fr ->
   Sat (Row b [.slice (some ⟨bs, 0, none⟩) m.n m.n, .int .i64 (r1 : Int), .int .i64 (r2 : Int), .int .i64 (m.count : Nat)] 111 :: Row bs (rowsF m.n (slotCells m)) 144 :: F) w3 ->
   S_handle_Table_Make_j0 (some ⟨b, 0, none⟩) (a : Int) (fun e w' => e = .returned (.tuple #[.int .u64 (hnd (m.genAt m.nextSlot) m.nextSlot : Nat), .int .i64 0]) /\ Sat (Tbl (m.make a) b :: F) w') (m.nextSlot : Int) ⟨bs, m.nextSlot * 4, none⟩ w3 := by
  intro r1 r2 w3 e1 e2 h3
  unfold S_handle_Table_Make_j0
  simp only [onSome_some, add_mk, Nat.zero_add]
  refine StC.of h3 1 rfl (off := m.nextSlot * 4 + 1) ((slot_get hlt 1 (by omega)).trans (cells_taken _)) rfl fun w4 h4 => ?_
  simp only [List.set_cons_succ, List.set_cons_zero] at h4
  rw [rowsF_set (slotCells_len m) hlt (by omega)] at h4
  have l1 := setRowF_len (slotCells_len m) m.nextSlot 1 (.bool true)
  obtain ⟨v2, hv2⟩ : ∃ v, (setRowF (slotCells m) m.nextSlot 1 (.bool true) m.nextSlot)[2]? = some v := ⟨_, List.getElem?_eq_getElem (by rw [l1]; omega)⟩
  refine StC.of h4 1 rfl (off := m.nextSlot * 4 + 2) ((rowsF_get l1 hlt (by omega)).trans hv2) rfl fun w5 h5 => ?_
  simp only [List.set_cons_succ, List.set_cons_zero] at h5
  rw [rowsF_set l1 hlt (by omega)] at h5
  have l2 := setRowF_len l1 m.nextSlot 2 (.int .i64 (a : Int))
  obtain ⟨v3, hv3⟩ : ∃ v, (setRowF (setRowF (slotCells m) m.nextSlot 1 (.bool true)) m.nextSlot 2 (.int .i64 (a : Int)) m.nextSlot)[3]? = some v := ⟨_, List.getElem?_eq_getElem (by rw [l2]; omega)⟩
  refine StC.of h5 1 rfl (off := m.nextSlot * 4 + 3) ((rowsF_get l2 hlt (by omega)).trans hv3) rfl fun w6 h6 => ?_
  simp only [List.set_cons_succ, List.set_cons_zero] at h6
  rw [rowsF_set l2 hlt (by omega)] at h6
  refine LdI.of h6 0 rfl (off := 3) rfl rfl ?_
  refine StC.of h6 0 rfl (off := 3) rfl rfl fun w7 h7 => ?_
  simp only [List.set_cons_succ, List.set_cons_zero] at h7
  have hr : rowsF m.n (setRowF (setRowF (setRowF (slotCells m) m.nextSlot 1 (.bool true)) m.nextSlot 2 (.int .i64 (a : Int))) m.nextSlot 3 (.int .i64 0)) = rowsF (m.make a).n (slotCells (m.make a)) := by
   refine rows_other (i := m.nextSlot) (by unfold Tab.make; split <;> rfl) ?_ fun j hj => ?_
   ·rw [setRowF_eq, setRowF_eq, setRowF_eq]
    unfold Tab.make Tab.nextSlot slotCells
    cases hh : m.fr with
    | nil => simp
    | cons i r =>
     have hi := hm.mem_lt (i := i) (by rw [hh]; simp)
     have hx : m.L[i]? = some m.L[i] := List.getElem?_eq_getElem hi
     simp only [hx, List.getElem?_set_self hi, genAt_of hx, if_true]
     split <;> rfl
   ·rw [setRowF_ne hj, setRowF_ne hj, setRowF_ne hj]
    unfold Tab.nextSlot at hj
    unfold Tab.make slotCells
    cases hh : m.fr with
    | nil =>
     simp only [hh] at hj ⊢
     rcases Nat.lt_or_ge j m.L.length with hl | hl
     ·rw [List.getElem?_append_left hl]
     ·rw [List.getElem?_append_right hl, List.getElem?_eq_none hl, List.getElem?_eq_none (by simp; omega)]
    | cons i r =>
     simp only [hh] at hj ⊢
     rw [List.getElem?_set_ne (Ne.symm hj)]
     cases m.L[j]? with
     | none => rfl
     | some s => simp only [nextOf_tail (Ne.symm hj)]
  rw [hr] at h7
  have ht : tabRow (m.make a) bs = [.slice (some ⟨bs, 0, none⟩) m.n m.n, .int .i64 (r1 : Int), .int .i64 (r2 : Int), .int .i64 (IntKind.wrap .i64 ((m.count : Nat) + 1))] := by
   rw [wrapI64 (by unfold Tab.count; omega) (by unfold Tab.count; omega), e1, e2]
   have hc : (m.make a).count = m.count + 1 := by
    unfold Tab.make Tab.count
    cases hh : m.fr with
    | nil => simp
    | cons i r =>
     have := hm.mem_lt (i := i) (by rw [hh]; simp)
     simp only [List.length_set, List.length_cons]
     rw [hh, List.length_cons] at hfl
     omega
   have hn : (m.make a).n = m.n := by unfold Tab.make; split <;> rfl
   simp [tabRow, hc, hn]
  have h8 : Sat (Tbl (m.make a) b :: F) w7 := tbl_shut hmk (bs := bs) (by rw [ht]; exact h7)
  have hn : (m.make a).n = m.n := by unfold Tab.make; split <;> rfl
  have hg : (m.make a).genAt m.nextSlot = m.genAt m.nextSlot := by
   unfold Tab.make Tab.nextSlot Tab.genAt
   cases hh : m.fr with
   | nil => simp
   | cons i r =>
    have hi := hm.mem_lt (i := i) (by rw [hh]; simp)
    simp only [List.getElem?_set_self hi]
  refine (handle_c h8 (i := m.nextSlot) (by rw [hn]; exact hlt)).mono ?_
  rintro e w' ⟨rfl, rfl⟩
  refine ⟨_, rfl, ?_, h8⟩
  rw [hg]
 intro k0 hk
 refine LdI.of h 0 rfl (off := 2) rfl rfl ?_
 cases hh : m.fr with
 | nil =>
  refine cond_f (by simp [top]) ?_
  refine LdI.of h 0 rfl (off := 1) rfl rfl ?_
  refine StC.of h 0 rfl (off := 1) rfl rfl fun w2 h2 => ?_
  refine hk _ (back (m.L.length + 1) 0 w2 (by simp [Tab.make, hh]) (by simp [Tab.make, hh, top]) ?_)
  simp only [List.set_cons_succ, List.set_cons_zero, tabRow, hh, top] at h2
  rw [wrapI64 (by omega) (by omega)] at h2
  exact h2
 | cons i r =>
  have hi := hm.mem_lt (i := i) (by rw [hh]; simp)
  refine cond_t (by simp [top]) ?_
  have hns : m.nextSlot = i := by simp [Tab.nextSlot, hh]
  have hx : m.L[i]? = some m.L[i] := List.getElem?_eq_getElem hi
  have htk : m.L[i].taken = false := by
   obtain ⟨s, hs1, hs2⟩ := (hm.mem i).1 (by rw [hh]; simp)
   rw [hx] at hs1; cases hs1; exact hs2
  have hcell : (slotCells m m.nextSlot)[3]? = some (.int .i64 (top r : Nat)) := by
   rw [hns]
   simp [slotCells, hx, htk, hh, nextOf_head]
  refine LdI.of h 1 rfl (off := m.nextSlot * 4 + 3) ((slot_get hlt 3 (by omega)).trans hcell) rfl ?_
  refine StC.of h 0 rfl (off := 2) rfl rfl fun w2 h2 => ?_
  refine hk _ (back m.L.length (top r) w2 (by simp [Tab.make, hh]) (by simp [Tab.make, hh]) ?_)
  simp only [List.set_cons_succ, List.set_cons_zero, tabRow] at h2
  exact h2
theorem free_c {m : Tab} {b : Nat} {F : List HP} {w : World} (hs : Sat (Tbl m b :: F) w) {h i : Nat} (hh : h < 18446744073709551616) (hf : m.find h = some i) (hg : m.genAt i + 1 < 4294967296) :
  Calls Tryz.prog 120 #[.pointer (some ⟨b, 0, none⟩), .int .u64 (h : Int)] w (Ret (.int .i64 0) (Sat (Tbl (m.free i) b :: F))) := by
 obtain ⟨s, hx, ht, hgs, hl⟩ := find_some hf
 have htk : m.takenAt i = true := by simp [Tab.takenAt, hx, ht]
 have hs' := hs.drew
 obtain ⟨hm, bs, h0⟩ := tbl_open hs
 have h1 := h0.drew
 have hi := find_lt hm hf
 have hil := get_lt hx
 have hlen := hm.len; have hmo := hm.most; have hfl := hm.fr_len
 have hni : i ∉ m.fr := by rw [hm.mem i]; simp [hx, ht]
 have hfl1 : m.fr.length + 1 <= m.L.length := by
  have := nodup_bound (n := m.L.length) (l := i :: m.fr) (List.nodup_cons.2 ⟨hni, hm.nodup⟩) fun k hk => by
   rcases List.mem_cons.1 hk with rfl | hk
   ·exact hil
   ·exact hm.mem_lt hk
  simpa using this
 refine S_handle_Table_Free_ok _ _ _ _ ?_
 unfold S_handle_Table_Free
 refine (find_c hs hh).mono ?_
 rintro e w' ⟨rfl, rfl⟩
 simp only [onSome_some, add_mk, Nat.zero_add]
 rw [hf]
 refine ⟨_, _, rfl, ?_⟩
 refine cond_f rfl ?_
 refine LdS.of h0 0 rfl (off := 0) rfl rfl ?_
 refine IdxC.of (by omega) (by omega) ?_
 simp only [Int.toNat_natCast, Nat.zero_add, add_mk]
 generalize w.drew = w at h1
 refine LdI.of h1 1 rfl (off := i * 4) ((slot_get0 hi).trans (cells_gen i)) rfl ?_
 refine LdI.of h1 0 rfl (off := 2) rfl rfl ?_
 rw [wrapU32 (by omega) (by omega)]
 have g0 := slotCells_len m
 refine StC.of h1 1 rfl (off := i * 4 + 0) (slot_get hi 0 (by omega) |>.trans (cells_gen i)) rfl fun w1 h1 => ?_
 simp only [List.set_cons_succ, List.set_cons_zero] at h1
 rw [rowsF_set g0 hi (by omega)] at h1
 have g1 := setRowF_len g0 i 0 (.int .u32 ((m.genAt i : Int) + 1))
 obtain ⟨v1, hv1⟩ : ∃ v, (setRowF (slotCells m) i 0 (.int .u32 ((m.genAt i : Int) + 1)) i)[1]? = some v := ⟨_, List.getElem?_eq_getElem (by rw [g1]; omega)⟩
 refine StC.of h1 1 rfl (off := i * 4 + 1) ((rowsF_get g1 hi (by omega)).trans hv1) rfl fun w2 h2 => ?_
 simp only [List.set_cons_succ, List.set_cons_zero] at h2
 rw [rowsF_set g1 hi (by omega)] at h2
 have g2 := setRowF_len g1 i 1 (.bool false)
 obtain ⟨v2, hv2⟩ : ∃ v, (setRowF (setRowF (slotCells m) i 0 (.int .u32 ((m.genAt i : Int) + 1))) i 1 (.bool false) i)[2]? = some v := ⟨_, List.getElem?_eq_getElem (by rw [g2]; omega)⟩
 refine StC.of h2 1 rfl (off := i * 4 + 2) ((rowsF_get g2 hi (by omega)).trans hv2) rfl fun w3 h3 => ?_
 simp only [List.set_cons_succ, List.set_cons_zero] at h3
 rw [rowsF_set g2 hi (by omega)] at h3
 have g3 := setRowF_len g2 i 2 (.int .i64 0)
 obtain ⟨v3, hv3⟩ : ∃ v, (setRowF (setRowF (setRowF (slotCells m) i 0 (.int .u32 ((m.genAt i : Int) + 1))) i 1 (.bool false)) i 2 (.int .i64 0) i)[3]? = some v := ⟨_, List.getElem?_eq_getElem (by rw [g3]; omega)⟩
 refine StC.of h3 1 rfl (off := i * 4 + 3) ((rowsF_get g3 hi (by omega)).trans hv3) rfl fun w4 h4 => ?_
 simp only [List.set_cons_succ, List.set_cons_zero] at h4
 rw [rowsF_set g3 hi (by omega)] at h4
 refine StC.of h4 0 rfl (off := 2) rfl rfl fun w5 h5 => ?_
 simp only [List.set_cons_succ, List.set_cons_zero] at h5
 refine LdI.of h5 0 rfl (off := 3) rfl rfl ?_
 refine StC.of h5 0 rfl (off := 3) rfl rfl fun w6 h6 => ?_
 simp only [List.set_cons_succ, List.set_cons_zero] at h6
 refine ⟨rfl, tbl_shut (hm.free htk hg) (bs := bs) ?_⟩
 have hr : rowsF m.n (setRowF (setRowF (setRowF (setRowF (slotCells m) i 0 (.int .u32 ((m.genAt i : Int) + 1))) i 1 (.bool false)) i 2 (.int .i64 0)) i 3 (.int .i64 (top m.fr : Nat))) = rowsF (m.free i).n (slotCells (m.free i)) := by
  refine rows_other (i := i) rfl ?_ fun j hj => ?_
  ·rw [setRowF_eq, setRowF_eq, setRowF_eq, setRowF_eq]
   have e1 : slotCells m i = [.int .u32 s.gen, .bool true, .int .i64 s.at_, .int .i64 0] := by simp only [slotCells, hx, ht, if_true]
   have e2 : (m.free i).L[i]? = some ⟨s.gen + 1, 0, false⟩ := by simp only [Tab.free, List.getElem?_set_self hil, genAt_of hx]
   have e3 : (m.free i).fr = i :: m.fr := rfl
   rw [e1, genAt_of hx]
   simp only [slotCells, e2, e3, nextOf_head, if_false, Bool.false_eq_true]
   rfl
  ·rw [setRowF_ne hj, setRowF_ne hj, setRowF_ne hj, setRowF_ne hj]
   simp only [slotCells, Tab.free]
   rw [List.getElem?_set_ne (Ne.symm hj)]
   cases m.L[j]? with
   | none => rfl
   | some s => simp only [nextOf_tail (Ne.symm hj)]
 rw [hr] at h6
 have htr : tabRow (m.free i) bs = [.slice (some ⟨bs, 0, none⟩) m.n m.n, .int .i64 (m.L.length : Nat), .int .i64 (IntKind.wrap .i64 ((i : Int) + 1)), .int .i64 (IntKind.wrap .i64 ((m.count : Nat) - 1))] := by
  rw [wrapI64 (by omega) (by omega), wrapI64 (by unfold Tab.count; omega) (by unfold Tab.count; omega)]
  have hc : ((m.free i).count : Int) = (m.count : Int) - 1 := by
   unfold Tab.free Tab.count
   simp only [List.length_set, List.length_cons]
   omega
  have hn1 : (m.free i).L.length = m.L.length := by simp [Tab.free]
  unfold tabRow
  rw [hc, hn1]
  rfl
 rw [htr]
 exact h6
set_option maxRecDepth 100000 in
theorem eok_slots : EOK Tryz.prog 109 144 4 24 := ⟨by kernel_rfl, ⟨_, _, rfl, rfl, rfl, rfl, rfl⟩, by omega⟩
set_option maxRecDepth 100000 in
theorem eok_u64 : EOK Tryz.prog 25 32 1 8 := ⟨by kernel_rfl, ⟨_, _, rfl, rfl, rfl, rfl, rfl⟩, by omega⟩
theorem new_c {n : Nat} (h1 : 1 <= n) (h2 : n <= 1048576) {F : List HP} {w : World} (hs : Sat F w) :
  Calls Tryz.prog 130 #[.int .i64 (n : Int)] w fun e w' => ∃ b, e = .returned (.tuple #[.pointer (some ⟨b, 0, none⟩), .int .i64 0]) /\ Sat (Tbl (Tab.new n) b :: F) w' := by
 refine S_handle_New_ok _ _ _ ?_
 unfold S_handle_New
 refine cond_f (by simp; omega) (cond_f (by simp; omega) ?_)
 refine RunS.make eok_slots #[.int .u32 0, .bool false, .int .i64 0, .int .i64 0] (by kernel_rfl) hs (by omega) (by omega) (by omega) (by omega) fun g w0 hs0 => ?_
 rw [show (n : Int).toNat * 4 = n * (#[Value.int .u32 0, .bool false, .int .i64 0, .int .i64 0] : Array Value).size by simp, made_rows _ _ (by simp)] at hs0
 refine NewC.ofRow hs0 fun b w1 hs1 => ?_
 refine LdS.of hs1 0 rfl (off := 0) rfl rfl ?_
 simp only [Int.toNat_natCast]
 let f : Nat -> Nat -> List Value := fun k i => if i < k then [.int .u32 1, .bool false, .int .i64 0, .int .i64 0] else [.int .u32 0, .bool false, .int .i64 0, .int .i64 0]
 have hf : ∀ k i, (f k i).length = 4 := fun k i => by simp only [f]; split <;> rfl
 let rw0 : List Value := [.slice (some ⟨g, 0, none⟩) n n, .int .i64 0, .int .i64 0, .int .i64 0]
 refine ⟨fun i w => ∃ k : Nat, i = k /\ k <= n /\ Sat (Row b rw0 111 :: Row g (rowsF n (f k)) 144 :: F) w, fun i _ => (n - i).toNat, ⟨0, rfl, by omega, ?_⟩, ?_⟩
 ·simpa [rw0, f] using hs1
 ·rintro i w2 ⟨k, rfl, hk, hs2⟩
  unfold S_handle_New_l0
  by_cases hlt : k < n
  ·refine cond_t (by simp; omega) ?_
   refine LdS.of hs2 0 rfl (off := 0) rfl rfl ?_
   refine IdxC.of (by omega) (by omega) ?_
   simp only [Int.toNat_natCast, Nat.zero_add]
   refine StC.of hs2 1 rfl (off := k * 4 + 0) ((rowsF_get (hf k) hlt (by omega)).trans (by simp [f])) (v0 := .int .u32 0) rfl fun w3 hs3 => ?_
   simp only [List.set_cons_succ, List.set_cons_zero] at hs3
   rw [rowsF_set (hf k) hlt (by omega)] at hs3
   rw [wrapI64 (by omega) (by omega)]
   refine ⟨⟨k + 1, by omega, by omega, ?_⟩, by omega⟩
   have hr : rowsF n (setRowF (f k) k 0 (.int .u32 1)) = rowsF n (f (k + 1)) := by
    refine rowsF_congr fun i _ => ?_
    by_cases hik : i = k
    ·subst hik; rw [setRowF_eq]; simp [f]
    ·rw [setRowF_ne hik]
     simp only [f]
     by_cases h : i < k
     ·rw [if_pos h, if_pos (by omega)]
     ·rw [if_neg h, if_neg (by omega)]
   rw [hr] at hs3
   exact hs3
  ·have : k = n := by omega
   subst this
   refine cond_f (by simp) ⟨b, rfl, tbl_shut (new_wf h1 h2) (bs := g) ?_⟩
   have hr : rowsF k (f k) = rowsF (Tab.new k).n (slotCells (Tab.new k)) := by
    refine rowsF_congr fun i hi => ?_
    simp [f, hi, slotCells, Tab.new]
   rw [hr] at hs2
   exact hs2
theorem live_c {m : Tab} {b : Nat} {F : List HP} {w : World} (hs : Sat (Tbl m b :: F) w) :
  Calls Tryz.prog 73 #[.pointer (some ⟨b, 0, none⟩)] w fun e w' =>
   ∃ p l c, e = .returned (.slice p l c) /\ l = m.live.length /\ Sat (Own 32 1 p l c (words m.live) :: Tbl m b :: F) w' := by
 obtain ⟨hm, bs, hT⟩ := tbl_open hs
 have hlen := hm.len; have hmo := hm.most
 refine S_handle_Table_Live_ok _ _ _ ?_
 unfold S_handle_Table_Live
 simp only [onSome_some, add_mk, Nat.zero_add]
 refine LdI.of hT 0 rfl (off := 3) rfl rfl ?_
 refine RunS.makeOwn eok_u64 hs (by omega) (by unfold Tab.count; omega) (by unfold Tab.count; omega) fun p w0 hs0 => ?_
 obtain ⟨_, bs0, hT0⟩ := tbl_open (hs0.pull 1 rfl)
 refine LdS.of hT0 0 rfl (off := 0) rfl rfl ?_
 refine ⟨fun p l c i w => ∃ k : Nat, i = k /\ k <= m.n /\ l = (m.liveTo k).length /\ Sat (Own 32 1 p l c (words (m.liveTo k)) :: Tbl m b :: F) w, fun _ _ _ i _ => (m.n - i).toNat, ⟨0, rfl, by omega, rfl, hs0⟩, ?_⟩
 rintro p l c i w1 ⟨k, rfl, hk, rfl, hs1⟩
 obtain ⟨_, bs1, hT1⟩ := tbl_open (hs1.pull 1 rfl)
 have hkl := liveTo_len m k
 unfold S_handle_Table_Live_l0
 by_cases hlt : k < m.n
 ·refine cond_t (by simp; omega) ?_
  intro k0 hk0
  simp only [onSome_some, add_mk, Nat.zero_add]
  refine LdS.of hT1 0 rfl (off := 0) rfl rfl ?_
  refine IdxC.of (by omega) (by omega) ?_
  simp only [Int.toNat_natCast, Nat.zero_add, add_mk]
  refine LdB.of hT1 1 rfl (off := k * 4 + 1) ((slot_get hlt 1 (by omega)).trans (cells_taken k)) rfl ?_
  cases ht : m.takenAt k
  ·refine hk0 _ _ _ _ ?_
   unfold S_handle_Table_Live_j0
   rw [wrapI64 (by omega) (by omega)]
   refine ⟨⟨k + 1, by omega, by omega, ?_, ?_⟩, by dsimp only; omega⟩ <;> rw [liveTo_succ, ht] <;> simp
   exact hs1
  ·refine (handle_c (hs1.pull 1 rfl) hlt).mono ?_
   rintro e w' ⟨rfl, rfl⟩
   refine ⟨_, rfl, ?_⟩
   refine RunS.one eok_u64 hs1 0 rfl (by rfl) (by rfl) (by omega) (by simp only [maxLen]; omega) fun p' c' w' hs2 => ?_
   refine hk0 _ _ _ _ ?_
   unfold S_handle_Table_Live_j0
   rw [wrapI64 (by omega) (by omega)]
   have e1 : m.liveTo (k + 1) = m.liveTo k ++ [hnd (m.genAt k) k] := by rw [liveTo_succ, ht]; rfl
   refine ⟨⟨k + 1, by omega, by omega, by rw [e1]; simp, ?_⟩, by dsimp only; omega⟩
   rw [e1, words_snoc]
   exact hs2
 ·have : k = m.n := by omega
  subst this
  exact cond_f (by simp) ⟨_, _, _, rfl, by rw [live_eq], by rw [live_eq]; exact hs1⟩
end Go.Proofs.YtpicofkhioalkaaGreat
