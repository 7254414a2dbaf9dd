
/- Keys as plain data: bytes in order, bytes packed into words. No program in sight. -/
import GoSem.Op.String
import GoSem.Extern.BytealgCompare
set_option maxRecDepth 100000
namespace Go.Kd
open Go
theorem kget_lt {α : Type} {L : List α} {i : Nat} {s : α} (h : L[i]? = some s) : i < L.length := by
 rcases Nat.lt_or_ge i L.length with hl | hl
 ·exact hl
 ·rw [List.getElem?_eq_none hl] at h; cases h
abbrev K := List UInt8
def str (x : K) : ByteArray := ⟨x.toArray⟩
theorem str_size (x : K) : (str x).size = x.length := by simp [str, ByteArray.size]
theorem str_list (b : ByteArray) : b = str b.data.toList := by cases b; simp [str]
theorem toList_loop (x : K) : ∀ (n i : Nat) (acc : List UInt8), x.length - i = n -> ByteArray.toList.loop (str x) i acc = acc.reverse ++ x.drop i := by
 intro n
 induction n with
 | zero =>
  intro i acc h
  unfold ByteArray.toList.loop
  rw [if_neg (by rw [str_size]; omega), List.drop_eq_nil_of_le (by omega), List.append_nil]
 | succ n ih =>
  intro i acc h
  unfold ByteArray.toList.loop
  rw [if_pos (by rw [str_size]; omega), ih (i + 1) _ (by omega)]
  have hi : i < x.length := by omega
  have hg : (str x).get! i = x[i] := by simp [str, ByteArray.get!, hi]
  rw [hg, List.drop_eq_getElem_cons hi]
  simp
theorem str_toList (x : K) : (str x).toList = x := by
 unfold ByteArray.toList
 rw [toList_loop x _ 0 [] rfl]
 simp
theorem str_get {x : K} {i : Nat} {b : UInt8} (h : x[i]? = some b) : (str x)[i]? = some b := by
 have hi : i < x.length := by
  rcases Nat.lt_or_ge i x.length with h' | h'
  ·exact h'
  ·rw [List.getElem?_eq_none h'] at h; cases h
 have e : (str x)[i]'(by rw [str_size]; exact hi) = x[i] := by simp [str, ByteArray.getElem_eq_getElem_data]
 rw [getElem?_pos (str x) i (by rw [str_size]; exact hi), e]
 rw [List.getElem?_eq_getElem hi] at h
 exact h
def lt (x y : K) : Bool := Op.bytesLess x y
theorem lt_nil (x : K) : lt x [] = false := by unfold lt Op.bytesLess; cases x <;> rfl
theorem nil_lt (b : UInt8) (y : K) : lt [] (b :: y) = true := by unfold lt Op.bytesLess; rfl
theorem lt_cons (a b : UInt8) (x y : K) : lt (a :: x) (b :: y) = (decide (a < b) || (a == b && lt x y)) := by unfold lt; rw [Op.bytesLess]
theorem u8_lt (a b : UInt8) : a < b ↔ a.toNat < b.toNat := UInt8.lt_iff_toNat_lt
theorem u8_eq {a b : UInt8} : a = b ↔ a.toNat = b.toNat := ⟨fun h => by rw [h], fun h => UInt8.toNat_inj.1 h⟩
theorem lt_irrefl : ∀ x : K, lt x x = false
 | [] => lt_nil _
 | a :: x => by rw [lt_cons, lt_irrefl x]; simp
theorem lt_trans : ∀ {x y z : K}, lt x y = true -> lt y z = true -> lt x z = true
 | _, [], _, h, _ => by rw [lt_nil] at h; cases h
 | _, _ :: _, [], _, h => by rw [lt_nil] at h; cases h
 | [], _ :: _, c :: z, _, _ => nil_lt _ _
 | a :: x, b :: y, c :: z, h, g => by
  rw [lt_cons] at h g ⊢
  simp only [Bool.or_eq_true, decide_eq_true_eq, Bool.and_eq_true, beq_iff_eq, u8_lt] at h g ⊢
  rcases h with h | ⟨rfl, h⟩ <;> rcases g with g | ⟨rfl, g⟩
  ·exact .inl (by omega)
  ·exact .inl h
  ·exact .inl g
  ·exact .inr ⟨rfl, lt_trans h g⟩
theorem lt_tri : ∀ (x y : K), lt x y = true ∨ x = y ∨ lt y x = true
 | [], [] => .inr (.inl rfl)
 | [], b :: y => .inl (nil_lt b y)
 | a :: x, [] => .inr (.inr (nil_lt a x))
 | a :: x, b :: y => by
  rw [lt_cons, lt_cons]
  simp only [Bool.or_eq_true, decide_eq_true_eq, Bool.and_eq_true, beq_iff_eq, u8_lt, List.cons.injEq]
  by_cases h : a = b
  ·subst h
   rcases lt_tri x y with h | h | h
   ·exact .inl (.inr ⟨rfl, h⟩)
   ·exact .inr (.inl ⟨rfl, h⟩)
   ·exact .inr (.inr (.inr ⟨rfl, h⟩))
  ·have hne : a.toNat ≠ b.toNat := fun e => h (u8_eq.2 e)
   rcases Nat.lt_or_ge a.toNat b.toNat with g | g
   ·exact .inl (.inl g)
   ·exact .inr (.inr (.inl (by omega)))
theorem lt_asymm {x y : K} (h : lt x y = true) : lt y x = false := by
 cases hh : lt y x with
 | false => rfl
 | true => have := lt_trans h hh; rw [lt_irrefl] at this; cases this
theorem lt_ne {x y : K} (h : lt x y = true) : x ≠ y := fun e => by rw [e, lt_irrefl] at h; cases h
theorem lt_of_not {x y : K} (h : lt x y = false) (hne : x ≠ y) : lt y x = true := by
 rcases lt_tri x y with g | g | g
 ·rw [h] at g; cases g
 ·exact absurd g hne
 ·exact g
theorem lt_of_le_of_lt {x y z : K} (h : lt y x = false) (g : lt y z = true) : lt x z = true := by
 by_cases e : x = y
 ·rw [e]; exact g
 ·exact lt_trans (lt_of_not h (fun e' => e e'.symm)) g
theorem lt_of_lt_of_le {x y z : K} (h : lt x y = true) (g : lt z y = false) : lt x z = true := by
 by_cases e : z = y
 ·rw [e]; exact h
 ·exact lt_trans h (lt_of_not g e)
theorem cmp_list : ∀ (x y : K), (match (List.range (min x.length y.length)).find? fun i => x[i]! != y[i]! with
  | some i => if x[i]! < y[i]! then (-1 : Int) else 1
  | none => if x.length < y.length then -1 else if x.length > y.length then 1 else 0) = if lt x y then -1 else if x = y then 0 else 1
 | [], [] => by simp [lt_nil]
 | [], b :: y => by simp [nil_lt]
 | a :: x, [] => by simp [lt_nil]
 | a :: x, b :: y => by
  have ih := cmp_list x y
  have hm : min (a :: x).length (b :: y).length = min x.length y.length + 1 := by simp only [List.length_cons]; omega
  rw [hm, List.range_succ_eq_map, lt_cons]
  by_cases e : a = b
  ·subst e
   have h0 : (((a :: x)[0]! != (a :: y)[0]!) = true) = False := by simp
   rw [List.find?_cons_of_neg (by simp), List.find?_map]
   have hf : ((fun i => (a :: x)[i]! != (a :: y)[i]!) ∘ Nat.succ) = fun i => x[i]! != y[i]! := by funext i; simp
   rw [hf]
   simp only [List.cons.injEq, true_and, beq_self_eq_true, Bool.true_and]
   have hd : decide (a < a) = false := by simp [u8_lt]
   rw [hd, Bool.false_or, <- ih]
   cases hq : (List.range (min x.length y.length)).find? fun i => x[i]! != y[i]! with
   | none => simp
   | some i => simp
  ·rw [List.find?_cons_of_pos (by simpa using e)]
   have e1 : (a == b) = false := by simpa using e
   simp only [List.getElem!_cons_zero, e1, Bool.false_and, Bool.or_false, decide_eq_true_eq, List.cons.injEq, e, false_and, if_false]
theorem cmp_eq (x y : K) : Extern.BytealgCompare.cmp (str x) (str y) = if lt x y then -1 else if x = y then 0 else 1 := by
 rw [<- cmp_list]
 unfold Extern.BytealgCompare.cmp
 have hg : ∀ (z : K) (i : Nat), (str z)[i]! = z[i]! := fun z i => by
  by_cases h : i < z.length
  ·rw [getElem!_pos (str z) i (by rw [str_size]; exact h), getElem!_pos z i h]
   simp [str, ByteArray.getElem_eq_getElem_data]
  ·rw [getElem!_neg (str z) i (by rw [str_size]; exact h), getElem!_neg z i h]
 simp only [hg, str_size]
 rfl
def byteAt (x : K) (i : Nat) : Nat := match x[i]? with | some b => b.toNat | none => 0
theorem byteAt_lt (x : K) (i : Nat) : byteAt x i < 256 := by
 unfold byteAt
 split
 ·exact UInt8.toNat_lt _
 ·decide
def pw (f : Nat -> Nat) : Nat -> Nat
 | 0 => 0
 | r + 1 => pw f r + f r * 2 ^ (8 * r)
theorem pw_lt {f : Nat -> Nat} (hf : ∀ i, f i < 256) : ∀ r, pw f r < 2 ^ (8 * r)
 | 0 => by simp [pw]
 | r + 1 => by
  have h := pw_lt hf r
  have h2 := hf r
  have e : (2 : Nat) ^ (8 * (r + 1)) = 256 * 2 ^ (8 * r) := by rw [Nat.mul_add, Nat.pow_add, Nat.mul_comm]
  rw [pw, e]
  have : f r * 2 ^ (8 * r) <= 255 * 2 ^ (8 * r) := Nat.mul_le_mul_right _ (by omega)
  omega
theorem pw_zero {f : Nat -> Nat} {k : Nat} : ∀ {r : Nat}, k <= r -> (∀ i, k <= i -> i < r -> f i = 0) -> pw f r = pw f k
 | 0, h, _ => by rw [Nat.le_zero.1 h]
 | r + 1, h, hz => by
  by_cases e : k = r + 1
  ·rw [e]
  ·rw [pw, hz r (by omega) (by omega), pw_zero (by omega) fun i h1 h2 => hz i h1 (by omega)]
   simp
theorem pw_congr {f g : Nat -> Nat} : ∀ {r : Nat}, (∀ i, i < r -> f i = g i) -> pw f r = pw g r
 | 0, _ => rfl
 | r + 1, h => by rw [pw, pw, pw_congr fun i hi => h i (by omega), h r (by omega)]
theorem pw_byte {f : Nat -> Nat} (hf : ∀ i, f i < 256) : ∀ {r k : Nat}, k < r -> pw f r / 2 ^ (8 * k) % 256 = f k
 | r + 1, k, h => by
  by_cases e : k = r
  ·subst e
   rw [pw, Nat.add_mul_div_right _ _ (by exact Nat.two_pow_pos _), Nat.div_eq_of_lt (pw_lt hf k), Nat.zero_add, Nat.mod_eq_of_lt (hf k)]
  ·have hk : k < r := by omega
   have ih := pw_byte hf hk
   rw [pw]
   have e2 : f r * 2 ^ (8 * r) = (f r * 2 ^ (8 * (r - k - 1)) * 256) * 2 ^ (8 * k) := by
    have : 8 * r = 8 * (r - k - 1) + 8 + 8 * k := by omega
    rw [this, Nat.pow_add, Nat.pow_add]
    simp only [Nat.mul_assoc]
   rw [e2, Nat.add_mul_div_right _ _ (Nat.two_pow_pos _), Nat.add_mul_mod_self_right, ih]
theorem pw_or {f : Nat -> Nat} (hf : ∀ i, f i < 256) (r : Nat) : pw f r ||| f r * 2 ^ (8 * r) = pw f (r + 1) := by
 have := Nat.two_pow_add_eq_or_of_lt (pw_lt hf r) (f r)
 rw [pw, Nat.or_comm, Nat.mul_comm, <- this, Nat.mul_comm, Nat.add_comm]
def nWords (x : K) : Nat := (x.length + 7) / 8
def packW (x : K) : List Nat := x.length :: (List.range (nWords x)).map fun j => pw (fun i => byteAt x (8 * j + i)) 8
theorem packW_len (x : K) : (packW x).length = 1 + nWords x := by simp [packW]; omega
theorem packW_lt (x : K) (h : x.length < 18446744073709551616) : ∀ n ∈ packW x, n < 18446744073709551616 := by
 intro n hn
 simp only [packW, List.mem_cons, List.mem_map] at hn
 rcases hn with rfl | ⟨j, _, rfl⟩
 ·exact h
 ·exact pw_lt (fun i => byteAt_lt _ _) 8
def wbytes (n : Nat) : K := (List.range 8).map fun k => UInt8.ofNat (n / 2 ^ (8 * k) % 256)
theorem byteAt_of (x : K) (i : Nat) : UInt8.ofNat (byteAt x i) = (x[i]?).getD 0 := by
 unfold byteAt
 cases h : x[i]? with
 | none => rfl
 | some b => simp
theorem wbytes_pw (x : K) (j : Nat) : wbytes (pw (fun i => byteAt x (8 * j + i)) 8) = (List.range 8).map fun k => (x[8 * j + k]?).getD 0 := by
 unfold wbytes
 apply List.map_congr_left
 intro k hk
 rw [pw_byte (fun i => byteAt_lt _ _) (by simpa using hk), byteAt_of]
theorem bytes_all (x : K) : ∀ m : Nat, ((List.range m).map fun j => pw (fun i => byteAt x (8 * j + i)) 8).flatMap wbytes = (List.range (8 * m)).map fun k => (x[k]?).getD 0
 | 0 => rfl
 | m + 1 => by
  rw [List.range_succ, List.map_append, List.flatMap_append, bytes_all x m, Nat.mul_add]
  have : List.range (8 * m + 8 * 1) = List.range (8 * m) ++ (List.range 8).map (fun k => 8 * m + k) := by rw [Nat.mul_one, List.range_add]
  rw [this, List.map_append, List.map_map]
  congr 1
  simp only [List.map_cons, List.map_nil, List.flatMap_cons, List.flatMap_nil, List.append_nil, wbytes_pw]
  rfl
theorem bytes_packW (x : K) : (packW x).tail.flatMap wbytes = x ++ List.replicate (8 * nWords x - x.length) 0 := by
 show ((List.range (nWords x)).map _).flatMap wbytes = _
 rw [bytes_all]
 apply List.ext_getElem?
 intro i
 have hn : x.length <= 8 * nWords x := by unfold nWords; omega
 rw [List.getElem?_map]
 by_cases h1 : i < x.length
 ·rw [List.getElem?_append_left h1, List.getElem?_range (by omega), List.getElem?_eq_getElem h1]
  simp [h1]
 ·rw [List.getElem?_append_right (by omega)]
  by_cases h2 : i < 8 * nWords x
  ·rw [List.getElem?_range h2, List.getElem?_replicate, if_pos (by omega)]
   simp [List.getElem?_eq_none (Nat.le_of_not_lt h1)]
  ·rw [List.getElem?_eq_none (by simp; omega), List.getElem?_eq_none (by simp; omega)]
   rfl
structure _root_.Go.Hm.Ov where
 tag : Nat
 refs : Nat
 w : List Nat
open Go.Hm
def treeO (top n d : Nat) : Ov := ⟨20, 1, [top, n, d]⟩
def keyO (x : K) : Ov := ⟨23, 0, packW x⟩
end Go.Kd
