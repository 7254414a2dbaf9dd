
/- A table of slots as plain data: what the package handle's table holds, and what its calls do to it. No program in sight. -/
import Derived.Test.YtpicofkhioalkaaGreatLw
namespace Go.Tb
open Go Go.Lw
def rowsF {α : Type} (n : Nat) (f : Nat -> List α) : List α := (List.range n).flatMap f
theorem rowsF_succ {α : Type} (n : Nat) (f : Nat -> List α) : rowsF (n + 1) f = rowsF n f ++ f n := by
 simp [rowsF, List.range_succ]
theorem rowsF_len {α : Type} {s : Nat} {f : Nat -> List α} (hf : ∀ i, (f i).length = s) : ∀ n, (rowsF n f).length = n * s
 | 0 => by simp [rowsF]
 | n + 1 => by rw [rowsF_succ, List.length_append, rowsF_len hf n, hf, Nat.succ_mul]
theorem rowsF_get {α : Type} {s : Nat} {f : Nat -> List α} (hf : ∀ i, (f i).length = s) : ∀ {n i j : Nat}, i < n -> j < s -> (rowsF n f)[i * s + j]? = (f i)[j]?
 | 0, i, j, hi, hj => by omega
 | n + 1, i, j, hi, hj => by
  rw [rowsF_succ]
  have hl := rowsF_len hf n
  by_cases h : i < n
  ·have hlt : i * s + j < n * s := by
    have : (i + 1) * s <= n * s := Nat.mul_le_mul_right _ h
    rw [Nat.succ_mul] at this
    omega
   rw [List.getElem?_append_left (by rw [hl]; exact hlt)]
   exact rowsF_get hf h hj
  ·have hin : i = n := by omega
   subst hin
   rw [List.getElem?_append_right (by rw [hl]; omega), hl]
   congr 1
   omega
theorem rowsF_get' {α : Type} {s : Nat} {f : Nat -> List α} (hf : ∀ i, (f i).length = s) (hs : 0 < s) {n k : Nat} (hk : k < n * s) : (rowsF n f)[k]? = (f (k / s))[k % s]? := by
 have h1 : k / s < n := (Nat.div_lt_iff_lt_mul hs).2 hk
 have h2 : k % s < s := Nat.mod_lt _ hs
 have h3 : k / s * s + k % s = k := by rw [Nat.mul_comm]; exact Nat.div_add_mod k s
 rw [<- rowsF_get hf h1 h2, h3]
theorem rowsF_congr {α : Type} {f g : Nat -> List α} : ∀ {n : Nat}, (∀ i, i < n -> f i = g i) -> rowsF n f = rowsF n g
 | 0, _ => by simp [rowsF]
 | n + 1, h => by rw [rowsF_succ, rowsF_succ, rowsF_congr fun i hi => h i (by omega), h n (by omega)]
def setRowF {α : Type} (f : Nat -> List α) (i j : Nat) (v : α) : Nat -> List α := fun k => if k = i then (f k).set j v else f k
theorem setRowF_len {α : Type} {s : Nat} {f : Nat -> List α} (hf : ∀ i, (f i).length = s) (i j : Nat) (v : α) : ∀ k, (setRowF f i j v k).length = s := by
 intro k; unfold setRowF; split <;> simp [hf]
theorem rowsF_set {α : Type} {s : Nat} {f : Nat -> List α} (hf : ∀ i, (f i).length = s) {n i j : Nat} (hi : i < n) (hj : j < s) (v : α) : (rowsF n f).set (i * s + j) v = rowsF n (setRowF f i j v) := by
 have hs : 0 < s := by omega
 apply List.ext_getElem?
 intro k
 by_cases hk : k < n * s
 ·rw [rowsF_get' (setRowF_len hf i j v) hs hk, List.getElem?_set]
  have hij : i * s + j < n * s := by
   have : (i + 1) * s <= n * s := Nat.mul_le_mul_right _ hi
   rw [Nat.succ_mul] at this
   omega
  rw [rowsF_len hf]
  unfold setRowF
  split
  ·rename_i e
   subst e
   have e1 : (i * s + j) / s = i := by rw [Nat.add_comm, Nat.add_mul_div_right _ _ hs, Nat.div_eq_of_lt hj]; omega
   have e2 : (i * s + j) % s = j := by rw [Nat.add_comm, Nat.add_mul_mod_self_right, Nat.mod_eq_of_lt hj]
   rw [e1, e2, if_pos rfl, List.getElem?_set_self (by rw [hf]; exact hj)]
  ·rename_i e
   rw [rowsF_get' hf hs hk]
   split
   ·rename_i e1
    have hne : k % s ≠ j := fun h => e (by
     have h3 : k / s * s + k % s = k := by rw [Nat.mul_comm]; exact Nat.div_add_mod k s
     rw [e1, h] at h3
     exact h3)
    rw [List.getElem?_set_ne (Ne.symm hne)]
   ·rfl
 ·rw [List.getElem?_eq_none (by rw [List.length_set, rowsF_len hf]; omega), List.getElem?_eq_none (by rw [rowsF_len (setRowF_len hf i j v)]; omega)]
theorem made_rows (z : Array Value) (n : Nat) (hz : 0 < z.size) : (madeCells z (n * z.size)).toList = rowsF n fun _ => z.toList := by
 apply List.ext_getElem?
 intro k
 by_cases hk : k < n * z.size
 ·rw [madeCells_get z _ k hk, rowsF_get' (fun _ => by simp) hz hk]
  have := Nat.mod_lt k hz
  simp [this]
 ·rw [List.getElem?_eq_none (by simp [madeCells]; omega), List.getElem?_eq_none (by rw [rowsF_len (s := z.size) (fun _ => by simp)]; omega)]
structure Slot where
 gen : Nat
 at_ : Nat
 taken : Bool
structure Tab where
 n : Nat
 L : List Slot
 fr : List Nat
def nextOf : List Nat -> Nat -> Nat
 | a :: b :: r, i => if a = i then b + 1 else nextOf (b :: r) i
 | _, _ => 0
def top : List Nat -> Nat
 | [] => 0
 | i :: _ => i + 1
def slotCells (m : Tab) (i : Nat) : List Value :=
 match m.L[i]? with
 | none => [.int .u32 1, .bool false, .int .i64 0, .int .i64 0]
 | some s => if s.taken then [.int .u32 s.gen, .bool true, .int .i64 s.at_, .int .i64 0] else [.int .u32 s.gen, .bool false, .int .i64 0, .int .i64 (nextOf m.fr i)]
theorem slotCells_len (m : Tab) (i : Nat) : (slotCells m i).length = 4 := by
 unfold slotCells; split
 ·rfl
 ·split <;> rfl
structure Tab.WF (m : Tab) : Prop where
 pos : 1 <= m.n
 most : m.n <= 1048576
 len : m.L.length <= m.n
 nodup : m.fr.Nodup
 mem : ∀ i, i ∈ m.fr ↔ ∃ s, m.L[i]? = some s /\ s.taken = false
 gen : ∀ (i : Nat) s, m.L[i]? = some s -> s.gen < 4294967296
 at_ : ∀ (i : Nat) s, m.L[i]? = some s -> s.at_ < 9223372036854775808
def Tab.new (n : Nat) : Tab := ⟨n, [], []⟩
def Tab.count (m : Tab) : Nat := m.L.length - m.fr.length
def hnd (g i : Nat) : Nat := g * 4294967296 + (i + 1)
def Tab.find (m : Tab) (h : Nat) : Option Nat :=
 match h % 4294967296 with
 | 0 => none
 | i + 1 => match m.L[i]? with
  | some s => if s.taken /\ s.gen = h / 4294967296 then some i else none
  | none => none
def Tab.full (m : Tab) : Prop := m.fr = [] /\ m.L.length = m.n
def Tab.nextSlot (m : Tab) : Nat := match m.fr with | i :: _ => i | [] => m.L.length
def Tab.genAt (m : Tab) (i : Nat) : Nat := match m.L[i]? with | some s => s.gen | none => 1
def Tab.make (m : Tab) (a : Nat) : Tab :=
 match m.fr with
 | i :: r => { m with L := m.L.set i ⟨m.genAt i, a, true⟩, fr := r }
 | [] => { m with L := m.L ++ [⟨1, a, true⟩] }
def Tab.move (m : Tab) (i a : Nat) : Tab := { m with L := m.L.set i ⟨m.genAt i, a, true⟩ }
def Tab.free (m : Tab) (i : Nat) : Tab := { m with L := m.L.set i ⟨m.genAt i + 1, 0, false⟩, fr := i :: m.fr }
def Tab.atOf (m : Tab) (i : Nat) : Nat := match m.L[i]? with | some s => s.at_ | none => 0
def Tab.takenAt (m : Tab) (i : Nat) : Bool := match m.L[i]? with | some s => s.taken | none => false
def Tab.live (m : Tab) : List Nat := (List.range m.n).filterMap fun i => if m.takenAt i then some (hnd (m.genAt i) i) else none
theorem nodup_bound : ∀ {n : Nat} {l : List Nat}, l.Nodup -> (∀ i ∈ l, i < n) -> l.length <= n
 | 0, l, _, hb => by
  cases l with
  | nil => simp
  | cons a l => exact absurd (hb a List.mem_cons_self) (by omega)
 | n + 1, l, hd, hb => by
  by_cases h : n ∈ l
  ·have h1 := nodup_bound (n := n) (hd.erase n) fun i hi => by
    have h2 := hb i (List.mem_of_mem_erase hi)
    have h3 : i ≠ n := fun e => by subst e; exact absurd hi (hd.not_mem_erase)
    omega
   rw [List.length_erase_of_mem h] at h1
   omega
  ·have h1 := nodup_bound (n := n) hd fun i hi => by
    have h2 := hb i hi
    have h3 : i ≠ n := fun e => by subst e; exact h hi
    omega
   omega
namespace Tab.WF
variable {m : Tab}
theorem mem_lt (h : m.WF) {i : Nat} (hi : i ∈ m.fr) : i < m.L.length := by
 obtain ⟨s, hs, _⟩ := (h.mem i).1 hi
 rcases Nat.lt_or_ge i m.L.length with h | h
 ·exact h
 ·rw [List.getElem?_eq_none h] at hs; cases hs
theorem fr_len (h : m.WF) : m.fr.length <= m.L.length := nodup_bound h.nodup fun _ hi => h.mem_lt hi
end Tab.WF
theorem nextOf_tail {i k : Nat} {r : List Nat} (h : i ≠ k) : nextOf (i :: r) k = nextOf r k := by
 cases r with
 | nil => rfl
 | cons b r => simp [nextOf, h]
theorem nextOf_head (i : Nat) (r : List Nat) : nextOf (i :: r) i = top r := by
 cases r with
 | nil => rfl
 | cons b r => simp [nextOf, top]
theorem get_lt {α : Type} {L : List α} {i : Nat} {s : α} (h : L[i]? = some s) : i < L.length := by
 rcases Nat.lt_or_ge i L.length with h' | h'
 ·exact h'
 ·rw [List.getElem?_eq_none h'] at h; cases h
theorem genAt_of {m : Tab} {i : Nat} {s : Slot} (h : m.L[i]? = some s) : m.genAt i = s.gen := by simp [Tab.genAt, h]
namespace Tab.WF
variable {m : Tab}
theorem count_eq (h : m.WF) : m.count = m.n ↔ m.full := by
 have h1 := h.fr_len; have h2 := h.len; have h3 := h.pos
 unfold Tab.count Tab.full
 constructor
 ·intro e; exact ⟨List.eq_nil_of_length_eq_zero (by omega), by omega⟩
 ·rintro ⟨e1, e2⟩; rw [e1]; simpa using e2
theorem genAt_lt (h : m.WF) (i : Nat) : m.genAt i < 4294967296 := by
 unfold Tab.genAt
 cases hh : m.L[i]? with
 | none => simp
 | some s => exact h.gen i s hh
theorem overwrite (h : m.WF) {i : Nat} {s : Slot} {fr : List Nat} (hi : i < m.L.length) (hg : s.gen < 4294967296) (ha : s.at_ < 9223372036854775808) (hd : fr.Nodup)
  (hfr : ∀ k, k ∈ fr ↔ if k = i then s.taken = false else k ∈ m.fr) : Tab.WF { m with L := m.L.set i s, fr := fr } := by
 refine ⟨h.pos, h.most, by simpa using h.len, hd, fun k => ?_, fun k u hu => ?_, fun k u hu => ?_⟩
 ·rw [hfr k]
  split
  ·rename_i e; subst e; simp [hi]
  ·rename_i e; rw [h.mem k]; simp [List.getElem?_set, Ne.symm e]
 ·simp only [List.getElem?_set] at hu
  split at hu
  ·rename_i e; subst e
   first
    | (cases hu; exact hg)
    | (split at hu <;> first | (cases hu; exact hg) | cases hu)
  ·exact h.gen k u hu
 ·simp only [List.getElem?_set] at hu
  split at hu
  ·rename_i e; subst e
   first
    | (cases hu; exact ha)
    | (split at hu <;> first | (cases hu; exact ha) | cases hu)
  ·exact h.at_ k u hu
theorem next_lt (h : m.WF) (hf : ¬ m.full) : m.nextSlot < m.n := by
 unfold Tab.nextSlot
 have h2 := h.len
 cases hh : m.fr with
 | nil =>
  have : m.L.length ≠ m.n := fun e => hf ⟨hh, e⟩
  simp only; omega
 | cons i r => have := h.mem_lt (i := i) (by rw [hh]; simp); simp only; omega
theorem make (h : m.WF) (hf : ¬ m.full) {a : Nat} (ha : a < 9223372036854775808) : (m.make a).WF := by
 unfold Tab.make
 cases hh : m.fr with
 | nil =>
  have hl : m.L.length < m.n := by
   have : m.L.length ≠ m.n := fun e => hf ⟨hh, e⟩
   have := h.len
   omega
  simp only
  refine ⟨h.pos, h.most, by simp; omega, by simp [hh], fun k => ?_, fun k u hu => ?_, fun k u hu => ?_⟩
  ·have hk := h.mem k
   simp only [hh, List.not_mem_nil, false_iff, not_exists, not_and] at hk ⊢
   intro s hs
   rcases Nat.lt_or_ge k m.L.length with hlt | hge
   ·rw [List.getElem?_append_left hlt] at hs; exact hk s hs
   ·rw [List.getElem?_append_right hge] at hs
    have := get_lt hs
    simp at this
    have e : k - m.L.length = 0 := by omega
    rw [e] at hs; cases hs; simp
  ·rcases Nat.lt_or_ge k m.L.length with hlt | hge
   ·rw [List.getElem?_append_left hlt] at hu; exact h.gen k u hu
   ·rw [List.getElem?_append_right hge] at hu
    have := get_lt hu
    simp at this
    have e : k - m.L.length = 0 := by omega
    rw [e] at hu; cases hu; simp
  ·rcases Nat.lt_or_ge k m.L.length with hlt | hge
   ·rw [List.getElem?_append_left hlt] at hu; exact h.at_ k u hu
   ·rw [List.getElem?_append_right hge] at hu
    have := get_lt hu
    simp at this
    have e : k - m.L.length = 0 := by omega
    rw [e] at hu; cases hu; exact ha
 | cons i r =>
  simp only
  have hi := h.mem_lt (i := i) (by rw [hh]; simp)
  have hnd := h.nodup
  rw [hh] at hnd
  have hnd' := List.nodup_cons.1 hnd
  refine h.overwrite hi (h.genAt_lt i) ha hnd'.2 fun k => ?_
  split
  ·rename_i e; subst e; simpa using hnd'.1
  ·rename_i e; rw [hh]; simp [e]
theorem move (h : m.WF) {i a : Nat} (ht : m.takenAt i = true) (ha : a < 9223372036854775808) : (m.move i a).WF := by
 unfold Tab.takenAt at ht
 cases hx : m.L[i]? with
 | none => rw [hx] at ht; cases ht
 | some s =>
  rw [hx] at ht
  refine h.overwrite (get_lt hx) (h.genAt_lt i) ha h.nodup fun k => ?_
  split
  ·rename_i e; subst e; rw [h.mem k]; simp [hx, ht]
  ·rfl
theorem free (h : m.WF) {i : Nat} (ht : m.takenAt i = true) (hg : m.genAt i + 1 < 4294967296) : (m.free i).WF := by
 unfold Tab.takenAt at ht
 cases hx : m.L[i]? with
 | none => rw [hx] at ht; cases ht
 | some s =>
  rw [hx] at ht
  have hni : i ∉ m.fr := by rw [h.mem i]; simp [hx, ht]
  refine h.overwrite (get_lt hx) hg (by simp) (List.nodup_cons.2 ⟨hni, h.nodup⟩) fun k => ?_
  split
  ·rename_i e; subst e; simp
  ·rename_i e; simp [e]
end Tab.WF
theorem new_wf {n : Nat} (h1 : 1 <= n) (h2 : n <= 1048576) : (Tab.new n).WF := by
 refine ⟨h1, h2, by simp [Tab.new], by simp [Tab.new], fun i => by simp [Tab.new], fun i s h => by simp [Tab.new] at h, fun i s h => by simp [Tab.new] at h⟩
def Tab.liveTo (m : Tab) (k : Nat) : List Nat := (List.range k).filterMap fun i => if m.takenAt i then some (hnd (m.genAt i) i) else none
theorem live_eq (m : Tab) : m.live = m.liveTo m.n := rfl
theorem liveTo_succ (m : Tab) (k : Nat) : m.liveTo (k + 1) = m.liveTo k ++ (if m.takenAt k then [hnd (m.genAt k) k] else []) := by
 unfold Tab.liveTo
 rw [List.range_succ, List.filterMap_append]
 congr 1
 by_cases h : m.takenAt k <;> simp [h]
theorem liveTo_len (m : Tab) : ∀ k, (m.liveTo k).length <= k
 | 0 => by simp [Tab.liveTo]
 | k + 1 => by
  rw [liveTo_succ, List.length_append]
  have := liveTo_len m k
  split <;> simp <;> omega
def words (l : List Nat) : List Value := l.map fun (n : Nat) => .int .u64 (n : Int)
theorem words_len (l : List Nat) : (words l).length = l.length := by simp [words]
theorem words_snoc (l : List Nat) (n : Nat) : words (l ++ [n]) = words l ++ [.int .u64 (n : Int)] := by simp [words]
theorem hnd_mod {g j : Nat} (hj : j + 1 < 4294967296) : hnd g j % 4294967296 = j + 1 := by
 unfold hnd; rw [Nat.mul_comm, Nat.mul_add_mod, Nat.mod_eq_of_lt hj]
theorem hnd_div {g j : Nat} (hj : j + 1 < 4294967296) : hnd g j / 4294967296 = g := by
 unfold hnd; rw [Nat.add_comm, Nat.add_mul_div_right _ _ (Nat.zero_lt_of_lt hj), Nat.div_eq_of_lt hj, Nat.zero_add]
theorem find_at {m : Tab} {h j : Nat} {s : Slot} (h1 : h % 4294967296 = j + 1) (h2 : h / 4294967296 = s.gen) (hx : m.L[j]? = some s) (ht : s.taken = true) : m.find h = some j := by
 unfold Tab.find
 rw [h1]
 simp only [hx]
 rw [if_pos ⟨ht, h2.symm⟩]
theorem find_of {m : Tab} {g j : Nat} {s : Slot} (hj : j + 1 < 4294967296) (h : m.L[j]? = some s) (ht : s.taken = true) (hg : s.gen = g) : m.find (hnd g j) = some j :=
 find_at (hnd_mod hj) ((hnd_div hj).trans hg.symm) h ht
theorem rows_other {m m' : Tab} {i : Nat} {f : Nat -> List Value} (hn : m'.n = m.n) (hi : f i = slotCells m' i) (ho : ∀ k, k ≠ i -> f k = slotCells m' k) : rowsF m.n f = rowsF m'.n (slotCells m') := by
 rw [hn]
 refine rowsF_congr fun k _ => ?_
 by_cases h : k = i
 ·rw [h, hi]
 ·exact ho k h
theorem setRowF_ne {α : Type} {f : Nat -> List α} {i j k : Nat} {v : α} (h : k ≠ i) : setRowF f i j v k = f k := by simp [setRowF, h]
theorem setRowF_eq {α : Type} {f : Nat -> List α} {i j : Nat} {v : α} : setRowF f i j v i = (f i).set j v := by simp [setRowF]
end Go.Tb
