
/- Keys: what strings.Compare, doc.Packed, doc.Unpacked and key come to. -/
import Derived.Test.YtpicofkhioalkaaGreatTa
import Derived.Test.YtpicofkhioalkaaGreatKd
import Derived.Test.YtpicofkhioalkaaGreatG3
set_option maxRecDepth 100000
namespace Go.Proofs.YtpicofkhioalkaaGreat
open Go Go.Lw Go.Wd Go.Am Go.Tb Go.Hm Go.Kd
theorem cmp_run (a b : ByteArray) (w : World) : (callFunc 150 #[.string a, .string b]).run Tryz.prog w = .ok (.value (.int .i64 (Extern.BytealgCompare.cmp a b))) w := by kernel_rfl
theorem compare_c (x y : K) (w : World) : Calls Tryz.prog 108 #[.string (str x), .string (str y)] w fun e w' => e = .returned (.int .i64 (if lt x y then -1 else if x = y then 0 else 1)) /\ w' = w := by
 refine S_strings_Compare_ok _ _ _ _ ?_
 unfold S_strings_Compare
 have h2 : Calls Tryz.prog 142 #[.string (str x), .string (str y)] w fun e w' => e = .returned (.int .i64 (if lt x y then -1 else if x = y then 0 else 1)) /\ w' = w := by
  refine S_internal_bytealg_CompareString_ok _ _ _ _ ?_
  unfold S_internal_bytealg_CompareString
  refine ⟨_, cmp_run _ _ _, ?_⟩
  rw [cmp_eq]
  exact ⟨rfl, rfl⟩
 refine h2.mono ?_
 rintro e w1 ⟨rfl, rfl⟩
 exact ⟨_, rfl, rfl, rfl⟩
theorem eok_byte : EOK Tryz.prog 28 5 1 1 := ⟨by kernel_rfl, ⟨_, _, rfl, rfl, rfl, rfl, rfl⟩, by omega⟩
def bytesV (x : K) : List Value := x.map fun b => .int .u8 ((b.toNat : Nat) : Int)
theorem bytesV_len (x : K) : (bytesV x).length = x.length := by simp [bytesV]
theorem bytesV_snoc (x : K) (b : UInt8) : bytesV (x ++ [b]) = bytesV x ++ [.int .u8 ((b.toNat : Nat) : Int)] := by simp [bytesV]
theorem push_all (x : K) : ∀ (a : ByteArray), ((x.map fun b => ((b.toNat : Nat) : Int)).foldl (fun r n => r.push (UInt8.ofNat n.toNat)) a) = str (a.data.toList ++ x) := by
 induction x with
 | nil => intro a; simp only [List.map_nil, List.foldl_nil, List.append_nil]; exact str_list a
 | cons b x ih =>
  intro a
  simp only [List.map_cons, List.foldl_cons]
  rw [ih]
  congr 1
  simp [ByteArray.push]
theorem run_str {P : Program} {s d e : TypeId} {x : K} {p : Option Addr} {l c : Nat} {w : World} {Q : ByteArray -> Prop} (hs : P.underlying s = some (.slice e)) (he : P.underlying e = some (.int .u8)) (hd : P.underlying d = some .string)
  (hr : Reads w p (bytesV x)) (hl : x.length = l) (hp : 0 < l -> ∃ a, p = some a) (h : Q (str x)) : RunStr P (convert s d (.slice p l c)) w Q := by
 subst hl
 cases p with
 | none =>
  have hx : x = [] := by
   cases x with
   | nil => rfl
   | cons b y => obtain ⟨a, ha⟩ := hp (by simp); cases ha
  subst hx
  refine ⟨_, ?_, h⟩
  simp [convert, run_underlying hs, run_underlying hd, run_underlying he, Conv.bytesToString]
  rfl
 | some a =>
  refine ⟨_, ?_, h⟩
  have e1 : bytesV x = (x.map fun b => ((b.toNat : Nat) : Int)).map (Value.int .u8) := by unfold bytesV; rw [List.map_map]; rfl
  have h1 := run_loadCells_list (P := P) w a (bytesV x) fun j v hj => hr a rfl j v hj
  rw [bytesV_len, e1] at h1
  rw [run_convert_bytes_string w s d e _ x.length c hs he hd, run_bytesToString w a x.length c _ h1, push_all x ByteArray.empty]
  rfl
def pk (x : K) (i : Nat) : List Nat := x.length :: (List.range (nWords x)).map fun j => pw (fun k => if 8 * j + k < i then byteAt x (8 * j + k) else 0) 8
theorem pk_zero (x : K) : pk x 0 = x.length :: List.replicate (nWords x) 0 := by
 unfold pk
 congr 1
 apply List.ext_getElem
 ·simp
 ·intro i h1 h2
  simp only [List.getElem_map, List.getElem_range, List.getElem_replicate]
  rw [pw_zero (k := 0) (by omega) (fun k _ _ => by simp)]
  rfl
theorem pk_all (x : K) : pk x x.length = packW x := by
 unfold pk packW
 congr 1
 apply List.map_congr_left
 intro j _
 apply pw_congr
 intro k _
 by_cases h : 8 * j + k < x.length
 ·rw [if_pos h]
 ·rw [if_neg h]; unfold byteAt; rw [List.getElem?_eq_none (by omega)]
theorem pk_get (x : K) {i : Nat} (h : i < x.length) : (pk x i)[1 + i / 8]? = some (pw (fun k => byteAt x (8 * (i / 8) + k)) (i % 8)) := by
 have hn : i / 8 < nWords x := by unfold nWords; omega
 have hlt : ∀ r k, k < r -> r <= i % 8 -> 8 * (i / 8) + k < i := fun r k a b => by omega
 unfold pk
 rw [Nat.add_comm, List.getElem?_cons_succ, List.getElem?_map, List.getElem?_range hn]
 simp only [Option.map_some, Option.some.injEq]
 rw [pw_zero (k := i % 8) (by omega) (fun k h1 _ => by rw [if_neg (by omega)])]
 exact pw_congr fun k hk => by rw [if_pos (hlt _ k hk (Nat.le_refl _))]
theorem pk_set (x : K) {i : Nat} (h : i < x.length) : (pk x i).set (1 + i / 8) (pw (fun k => byteAt x (8 * (i / 8) + k)) (i % 8 + 1)) = pk x (i + 1) := by
 have hn : i / 8 < nWords x := by unfold nWords; omega
 unfold pk
 rw [Nat.add_comm, List.set_cons_succ]
 congr 1
 apply List.ext_getElem?
 intro j
 rw [List.getElem?_set]
 simp only [List.length_map, List.length_range]
 by_cases hj : i / 8 = j
 ·subst hj
  rw [if_pos rfl, if_pos hn, List.getElem?_map, List.getElem?_range hn]
  simp only [Option.map_some, Option.some.injEq]
  rw [pw_zero (k := i % 8 + 1) (r := 8) (by omega) (fun k h1 _ => by rw [if_neg (by omega)])]
  exact pw_congr fun k hk => by rw [if_pos (by omega)]
 ·rw [if_neg hj]
  by_cases hjn : j < nWords x
  ·rw [List.getElem?_map, List.getElem?_map, List.getElem?_range hjn]
   simp only [Option.map_some, Option.some.injEq]
   apply pw_congr
   intro k hk
   by_cases h1 : 8 * j + k < i
   ·rw [if_pos h1, if_pos (by omega)]
   ·rw [if_neg h1, if_neg (by omega)]
  ·rw [List.getElem?_eq_none (by simp; omega), List.getElem?_eq_none (by simp; omega)]
theorem tmod8 (i : Nat) : Int.tmod (i : Int) 8 = ((i % 8 : Nat) : Int) := tmod_nat i 8
theorem tdiv8 (i : Nat) : Int.tdiv (i : Int) 8 = ((i / 8 : Nat) : Int) := tdiv_nat i 8
theorem or_word {f : Nat -> Nat} (hf : ∀ i, f i < 256) {r : Nat} (hr : r < 8) : bOr .u64 ((pw f r : Nat) : Int) (bShl .u64 (IntKind.wrap .u64 ((f r : Nat) : Int)) (IntKind.wrap .i64 (8 * (r : Int)))) = ((pw f (r + 1) : Nat) : Int) := by
 have hb := hf r
 have h1 := pw_lt hf (r + 1)
 have h0 := pw_lt hf r
 have h8 : (2 : Nat) ^ (8 * (r + 1)) <= 2 ^ 64 := Nat.pow_le_pow_right (by omega) (by omega)
 have h80 : (2 : Nat) ^ (8 * r) <= 2 ^ 64 := Nat.pow_le_pow_right (by omega) (by omega)
 have e64 : (2 : Nat) ^ 64 = 18446744073709551616 := by decide
 have hsh : f r * 2 ^ (8 * r) < 18446744073709551616 := by
  rw [pw] at h1
  omega
 rw [wrapU64 (by omega) (by omega)]
 have e1 : IntKind.wrap .i64 (8 * (r : Int)) = ((8 * r : Nat) : Int) := by rw [wrapI64 (by omega) (by omega)]; omega
 rw [e1, shl_u64 _ _ (by omega) hsh, or_u64 (by omega) hsh, pw_or hf]
theorem tpacked_c {x : K} (hx : x.length <= 1048576) {F : List HP} {w : World} (hs : Sat F w) : Calls Tryz.prog 139 #[.string (str x)] w fun e w' =>
  ∃ p c, e = .returned (.slice p (packW x).length c) /\ Sat (Own 32 1 p (packW x).length c (words (packW x)) :: F) w' := by
 refine S_doc_Packed_ok _ _ _ ?_
 unfold S_doc_Packed
 have hlen := packW_len x
 have htw : Calls Tryz.prog 148 #[.string (str x)] w fun e w' => e = .returned (.int .i64 ((1 + nWords x : Nat) : Int)) /\ w' = w := by
  refine S_doc_textWords_ok _ _ _ ?_
  unfold S_doc_textWords
  refine ⟨by decide, ?_, rfl⟩
  rw [str_size, wrapI64 (n := (x.length : Int) + 8) (by omega) (by omega), wrapI64 (n := (x.length : Int) + 8 - 1) (by omega) (by omega)]
  have e1 : ((x.length : Int) + 8 - 1) = ((x.length + 7 : Nat) : Int) := by omega
  have hw : nWords x = (x.length + 7) / 8 := rfl
  rw [e1, tdiv8, <- hw]
  have : nWords x <= 1048576 := by omega
  rw [wrapI64 (n := ((nWords x : Nat) : Int)) (by omega) (by omega), wrapI64 (n := 1 + ((nWords x : Nat) : Int)) (by omega) (by omega)]
  congr 3
 have hnw : nWords x <= 1048576 := by unfold nWords; omega
 refine htw.mono ?_
 rintro e w1 ⟨rfl, rfl⟩
 refine ⟨_, rfl, ?_⟩
 refine RunS.make eok_ws #[.int .u64 0] (by kernel_rfl) hs (by omega) (by omega) (by omega) (by omega) fun g w1 h1 => ?_
 have h1 : Sat (Own 32 1 (some ⟨g, 0, none⟩) (1 + nWords x) (1 + nWords x) (words (0 :: List.replicate (nWords x) 0)) :: F) w1 := by
  have e1 : (madeCells #[.int .u64 0] (((1 + nWords x : Nat) : Int).toNat * 1)).toList = words (0 :: List.replicate (nWords x) 0) := by
   rw [Int.toNat_natCast, Nat.mul_one]
   apply List.ext_getElem?
   intro j
   by_cases hj : j < 1 + nWords x
   ·rw [madeCells_get _ _ _ hj]
    have : (0 :: List.replicate (nWords x) 0) = List.replicate (1 + nWords x) 0 := by rw [Nat.add_comm]; rfl
    rw [this]
    simp [words, hj, Nat.mod_one]
   ·rw [List.getElem?_eq_none (by simp [madeCells]; omega), List.getElem?_eq_none (by simp [words]; omega)]
  rw [e1] at h1
  have h1' : Sat (Row g (words (0 :: List.replicate (nWords x) 0) ++ []) 32 :: F) w1 := by rw [List.append_nil]; exact h1
  have h2 := Sat.mkOwn (s := 1) (l := 1 + nWords x) (c := 1 + nWords x) h1' 0 rfl (by simp [words]; omega) (Nat.le_refl _) (by simp only [maxLen]; omega) (by simp [words]; omega)
  exact h2
 rw [Int.toNat_natCast]
 refine IdxC.ownAt (k := 0) h1 0 rfl (by omega) fun g' hp => ?_
 refine StC.ownAt h1 0 rfl hp (off := 0) (v0 := .int .u64 0) (by simp [words]) (by simp) fun w2 h2 => ?_
 have h2 : Sat (Own 32 1 (some ⟨g, 0, none⟩) (1 + nWords x) (1 + nWords x) (words (pk x 0)) :: F) w2 := by
  rw [pk_zero]
  have e2 : IntKind.wrap .u64 ((str x).size : Int) = ((x.length : Nat) : Int) := by rw [str_size, wrapU64 (by omega) (by omega)]
  rw [e2] at h2
  simpa [words] using h2
 have hpl : ∀ i, (pk x i).length = 1 + nWords x := fun i => by simp [pk]; omega
 refine ⟨fun n w' => ∃ i : Nat, n = i /\ i <= x.length /\ Sat (Own 32 1 (some ⟨g, 0, none⟩) (1 + nWords x) (1 + nWords x) (words (pk x i)) :: F) w', fun n _ => (x.length - n).toNat, ⟨0, rfl, by omega, h2⟩, ?_⟩
 rintro n w3 ⟨i, rfl, hi, h3⟩
 unfold S_doc_Packed_l0
 rw [str_size]
 by_cases hlt : i < x.length
 ·refine cond_t (by simpa using hlt) ?_
  have h4 := h3.drew
  have e1 : IntKind.wrap .i64 (1 + IntKind.wrap .i64 (Int.tdiv (i : Int) 8)) = ((1 + i / 8 : Nat) : Int) := by
   rw [tdiv8, wrapI64 (n := ((i / 8 : Nat) : Int)) (by omega) (by omega), wrapI64 (by omega) (by omega)]; omega
  have hj : 1 + i / 8 < 1 + nWords x := by unfold nWords; omega
  refine ⟨by decide, ?_⟩
  rw [e1]
  refine own_word h4 0 rfl (hpl i).symm (pk_get x hlt) rfl ?_
  refine ⟨by omega, ?_⟩
  obtain ⟨b, hb⟩ : ∃ b, x[i]? = some b := ⟨x[i], List.getElem?_eq_getElem hlt⟩
  refine ⟨b, by rw [Int.toNat_natCast]; exact str_get hb, by decide, ?_⟩
  have hmod : i % 8 < 8 := Nat.mod_lt _ (by omega)
  have hbt : ((b.toNat : Nat) : Int) = ((byteAt x (8 * (i / 8) + i % 8) : Nat) : Int) := by
   have : 8 * (i / 8) + i % 8 = i := by omega
   rw [this]; unfold byteAt; rw [hb]
  rw [tmod8, hbt]
  have how := or_word (f := fun k => byteAt x (8 * (i / 8) + k)) (fun k => byteAt_lt _ _) hmod
  refine ⟨by rw [wrapI64 (by omega) (by omega)]; omega, ?_⟩
  refine IdxC.ownAt h4 0 rfl hj fun g2 hp2 => ?_
  refine StC.ownAt h4 0 rfl hp2 (off := (1 + i / 8) * 1) (v0 := .int .u64 ((pw (fun k => byteAt x (8 * (i / 8) + k)) (i % 8) : Nat) : Int)) (by rw [Nat.mul_one]; unfold words; rw [List.getElem?_map, pk_get x hlt]; rfl) rfl fun w4 h5 => ?_
  refine ⟨⟨i + 1, by rw [wrapI64 (by omega) (by omega)]; omega, by omega, ?_⟩, by simp only [wrapI64 (n := (i : Int) + 1) (by omega) (by omega)]; omega⟩
  rw [how, Nat.mul_one] at h5
  rw [<- pk_set x hlt]
  simpa [words, List.map_set] using h5
 ·have : i = x.length := by omega
  subst this
  rw [pk_all] at h3
  refine cond_f (by simp) ⟨_, _, by rw [hlen], ?_⟩
  rw [hlen]
  exact h3
theorem wrapU8m (n : Nat) : IntKind.wrap .u8 (n : Int) = ((n % 256 : Nat) : Int) := by
 simp [IntKind.wrap, IntKind.signed, IntKind.bits]
theorem IdxC.sub {e s l c k j : Nat} {p : Option Addr} {xs : List Value} {L : List HP} {w : World} {Q : Addr -> Prop} {n : Nat} {i : Int} (hs : Sat L w) (q : Nat) (hq : L[q]? = some (Own e s p l c xs)) (hn : n = l - k) (hi : i = j) (hj : k + j < l)
  (h : ∀ g, p = some ⟨g, 0, none⟩ -> Q ⟨g, (k + j) * s, none⟩) : IdxC (slAddr p c k s) n i s Q := by
 subst hn; subst hi
 obtain ⟨hol, hcase⟩ := hs.own q hq
 rcases hcase with ⟨_, h0, _⟩ | ⟨g, rest, rfl, hlc, _⟩
 ·omega
 have hsl : slAddr (some ⟨g, 0, none⟩) c k s = some ⟨g, k * s, none⟩ := by
  unfold slAddr
  rw [if_neg (by omega)]
  simp [add_mk]
 rw [hsl]
 refine IdxC.of (by omega) (by omega) ?_
 rw [Int.toNat_natCast, <- Nat.add_mul]
 exact h g rfl
theorem wbytes_len (n : Nat) : (wbytes n).length = 8 := by simp [wbytes]
theorem tunpacked_c {x : K} (hx : x.length <= 1048576) {F : List HP} {w : World} {p : Option Addr} {c l : Nat} (hl : l = (packW x).length) (hs : Sat (Own 32 1 p l c (words (packW x)) :: F) w) :
  Calls Tryz.prog 111 #[.slice p l c] w (Ret (.tuple #[.string (str x), .bool true]) (Sat (Own 32 1 p l c (words (packW x)) :: F))) := by
 refine S_doc_Unpacked_ok _ _ _ _ _ ?_
 unfold S_doc_Unpacked
 have hlen := packW_len x
 have hnw : nWords x <= 1048576 := by unfold nWords; omega
 have hn8 : x.length <= 8 * nWords x /\ 8 * nWords x < x.length + 8 := by unfold nWords; omega
 have h0 : (packW x)[0]? = some x.length := rfl
 have ew : IntKind.wrap .u64 (8 * IntKind.wrap .u64 (IntKind.wrap .i64 ((l : Int) - 1))) = ((8 * nWords x : Nat) : Int) := by
  rw [wrapI64 (by omega) (by omega), wrapU64 (n := (l : Int) - 1) (by omega) (by omega), wrapU64 (by omega) (by omega)]; omega
 refine cond_f (by simp; omega) ?_
 refine own_word hs 0 rfl hl h0 rfl ?_
 refine cond_f (by rw [ew]; simp; omega) ?_
 refine own_word hs 0 rfl hl h0 rfl ?_
 refine cond_f (by rw [ew, wrapU64 (by omega) (by omega)]; simp; omega) ?_
 refine RunS.makeOwn eok_byte hs (by rw [wrapI64 (by omega) (by omega)]; omega) (by rw [wrapI64 (by omega) (by omega)]; omega) (by rw [wrapI64 (by omega) (by omega)]; omega) fun op w1 h1 => ?_
 generalize (IntKind.wrap .i64 (8 * (l : Int))).toNat = oc0 at h1 ⊢
 obtain ⟨hlc, _⟩ : l <= c /\ True := by
  obtain ⟨_, ⟨_, h2, h3⟩ | ⟨g, rest, _, h2, _⟩⟩ := hs.own 0 rfl
  ·omega
  ·exact ⟨h2, trivial⟩
 refine SlC.of 1 l c rfl rfl rfl (by omega) (by omega) (Nat.le_refl _) ?_
 have htl : (packW x).tail.length = nWords x := by simp [hlen]
 have htg : ∀ i, (packW x).tail[i]? = (packW x)[1 + i]? := fun i => by rw [List.getElem?_tail, Nat.add_comm]
 refine ⟨fun p' l' c' n w' => ∃ i : Nat, n = i /\ i <= nWords x /\ l' = 8 * i /\ Sat (Own 5 1 p' l' c' (bytesV (((packW x).tail.take i).flatMap wbytes)) :: Own 32 1 p l c (words (packW x)) :: F) w',
  fun _ _ _ n _ => (nWords x - n).toNat, ⟨0, rfl, by omega, rfl, h1⟩, ?_⟩
 rintro p' l' c' n w2 ⟨i, rfl, hi, rfl, h2⟩
 unfold S_doc_Unpacked_l2
 by_cases hlt : i < nWords x
 ·refine cond_t (by simp; omega) ?_
  obtain ⟨y, hy⟩ : ∃ y, (packW x).tail[i]? = some y := ⟨_, List.getElem?_eq_getElem (by omega)⟩
  have hy1 : (packW x)[1 + i]? = some y := by rw [<- htg]; exact hy
  have hyl : y < 18446744073709551616 := packW_lt x (by omega) y (List.mem_of_getElem? hy1)
  refine IdxC.sub h2 1 rfl rfl rfl (by omega) fun g hp => ?_
  refine LdI.at (Sat.ownAt h2 1 rfl hp (off := (1 + i) * 1) (by rw [Nat.mul_one]; unfold words; rw [List.getElem?_map, hy1]; rfl)) ?_
  refine ⟨fun p' l' c' n w' => ∃ k : Nat, n = k /\ k <= 8 /\ l' = 8 * i + k /\ Sat (Own 5 1 p' l' c' (bytesV (((packW x).tail.take i).flatMap wbytes ++ (wbytes y).take k)) :: Own 32 1 p l c (words (packW x)) :: F) w',
   fun _ _ _ n _ => (8 - n).toNat, ⟨0, rfl, by omega, rfl, by simpa using h2⟩, ?_⟩
  rintro p' l' c' n w3 ⟨k, rfl, hk, rfl, h3⟩
  unfold S_doc_Unpacked_l0
  by_cases hk8 : k < 8
  ·refine cond_t (by simp; omega) ?_
   have e8 : IntKind.wrap .i64 (8 * (k : Int)) = ((8 * k : Nat) : Int) := by rw [wrapI64 (by omega) (by omega)]; omega
   rw [e8]
   refine ⟨by omega, ?_⟩
   rw [shr_u64 _ _ (by omega), wrapU8m]
   refine RunS.one eok_byte h3 0 rfl rfl (by rfl) (by omega) (by simp only [maxLen]; omega) fun p2 c2 w4 h4 => ?_
   refine ⟨⟨k + 1, by rw [wrapI64 (by omega) (by omega)]; omega, by omega, by omega, ?_⟩, by simp only [wrapI64 (n := (k : Int) + 1) (by omega) (by omega)]; omega⟩
   have hg : (wbytes y)[k]? = some (UInt8.ofNat (y / 2 ^ (8 * k) % 256)) := by unfold wbytes; rw [List.getElem?_map, List.getElem?_range hk8]; rfl
   have ht : (wbytes y).take (k + 1) = (wbytes y).take k ++ [UInt8.ofNat (y / 2 ^ (8 * k) % 256)] := by rw [List.take_add_one, hg]; rfl
   rw [ht, <- List.append_assoc, bytesV_snoc]
   have hb : (UInt8.ofNat (y / 2 ^ (8 * k) % 256)).toNat = y / 2 ^ (8 * k) % 256 := by simp
   rw [hb]
   exact h4
  ·have : k = 8 := by omega
   subst this
   refine cond_f (by simp) ⟨⟨i + 1, by rw [wrapI64 (by omega) (by omega)]; omega, by omega, by omega, ?_⟩, by simp only [wrapI64 (n := (i : Int) + 1) (by omega) (by omega)]; omega⟩
   have ht : (packW x).tail.take (i + 1) = (packW x).tail.take i ++ [y] := by rw [List.take_add_one, hy]; rfl
   rw [ht, List.flatMap_append]
   have : [y].flatMap wbytes = (wbytes y).take 8 := by rw [List.take_of_length_le (by rw [wbytes_len]; omega)]; simp
   rw [this]
   exact h3
 ·have : i = nWords x := by omega
  subst this
  refine cond_f (by simp; omega) ?_
  refine own_word h2 1 rfl hl h0 rfl ?_
  have hall : ((packW x).tail.take (nWords x)).flatMap wbytes = x ++ List.replicate (8 * nWords x - x.length) 0 := by
   rw [List.take_of_length_le (by omega), bytes_packW]
  rw [hall] at h2
  have hxw : IntKind.wrap .i64 ((x.length : Nat) : Int) = ((x.length : Nat) : Int) := wrapI64 (by omega) (by omega)
  rw [hxw]
  have hlc' : 8 * nWords x <= c' := by
   obtain ⟨_, ⟨_, h3, h4⟩ | ⟨g, rest, _, h3, _⟩⟩ := h2.own 0 rfl
   ·omega
   ·exact h3
  refine SlC.of x.length (8 * nWords x) c' rfl rfl rfl (by omega) (by omega) (Nat.le_refl _) ?_
  refine ⟨fun n w' => ∃ k : Nat, n = k /\ k <= 8 * nWords x - x.length /\ w' = w2, fun n _ => (8 * nWords x - x.length - n).toNat, ⟨0, rfl, by omega, rfl⟩, ?_⟩
  rintro n w3 ⟨k, rfl, hk, rfl⟩
  unfold S_doc_Unpacked_l1
  by_cases hkl : k < 8 * nWords x - x.length
  ·refine cond_t (by simp; omega) ?_
   refine IdxC.sub h2 0 rfl rfl rfl (by omega) fun g hp => ?_
   refine LdI.at (n := 0) (Sat.ownAt h2 0 rfl hp (off := (x.length + k) * 1) ?_) ?_
   ·rw [Nat.mul_one]
    unfold bytesV
    rw [List.getElem?_map, List.getElem?_append_right (by omega), List.getElem?_replicate, if_pos (by omega)]
    rfl
   ·exact cond_f rfl ⟨⟨k + 1, by rw [wrapI64 (by omega) (by omega)]; omega, by omega, rfl⟩, by simp only [wrapI64 (n := (k : Int) + 1) (by omega) (by omega)]; omega⟩
  ·refine cond_f (by simp; omega) ?_
   refine SlC.of 0 x.length c' rfl hxw rfl (by omega) (by omega) (Nat.le_refl _) ?_
   rw [slAddr_zero, Nat.sub_zero, Nat.sub_zero]
   have hrd := h2.reads 0 rfl
   refine run_str (x := x) (e := 5) (by kernel_rfl) (by kernel_rfl) (by kernel_rfl) ?_ rfl (fun h => ?_) ⟨rfl, h2.drop⟩
   ·intro a ha j v hj
    refine hrd a ha j v ?_
    have hj2 : j < (bytesV x).length := get_lt hj
    rw [bytesV_len] at hj2
    unfold bytesV at hj ⊢
    rw [List.map_append, List.getElem?_append_left (by rw [List.length_map]; exact hj2)]
    exact hj
   ·obtain ⟨g, hg⟩ := h2.own_some 0 rfl (by omega)
    exact ⟨_, hg⟩
theorem tkey_c {H : Hp} {v : Value} {b : Nat} {F : List HP} {w : World} (hs : Sat (HeapH H v b :: F) w) (t : Nat) {k : Nat} {x : K} (hx : x.length <= 16384) (ho : H.ov k = some (keyO x)) :
  Calls Tryz.prog 58 #[trv b t, .int .u64 (k : Int)] w (Ret (.string (str x)) (Sat (HeapH H v b :: F))) := by
 refine S_tree_tree_key_ok _ _ _ _ _ ?_
 unfold S_tree_tree_key
 have hlen := packW_len x
 have hnw : nWords x <= 2048 := by unfold nWords; omega
 refine NewC.ofRow hs fun d w1 h1 => ?_
 refine LdP.of h1 0 rfl (off := 0) rfl rfl ?_
 refine (thead_c (h1.pull 1 rfl) ho).mono ?_
 rintro e w2 ⟨rfl, h2⟩
 refine ⟨_, _, _, _, rfl, ?_⟩
 refine right_c.mono ?_
 rintro e w3 ⟨rfl, rfl⟩
 refine ⟨rfl, cond_t rfl (cond_t rfl ?_)⟩
 have hwl : (keyO x).w.length = 1 + nWords x := hlen
 refine (must_c 4 (by simp; omega)).mono ?_
 rintro e w4 ⟨rfl, rfl⟩
 refine ⟨rfl, ?_⟩
 refine RunS.makeOwn eok_ws h2 (by omega) (by omega) (by omega) fun op w5 h5 => ?_
 rw [hwl] at h5 ⊢
 generalize (((1 + nWords x : Nat) : Int)).toNat = oc0 at h5 ⊢
 refine ⟨fun p' l' c' n w' => ∃ i : Nat, n = i /\ i <= 1 + nWords x /\ l' = i /\ Sat (Own 32 1 p' l' c' (words ((packW x).take i)) :: HeapH H v b :: Row d (trc b t) 73 :: F) w',
  fun _ _ _ n _ => ((1 + nWords x : Nat) - n).toNat, ⟨0, rfl, by omega, rfl, h5⟩, ?_⟩
 rintro p' l' c' n w6 ⟨i, rfl, hi, rfl, h6⟩
 unfold S_tree_tree_key_l0
 by_cases hlt : l' < 1 + nWords x
 ·refine cond_t (by simp; omega) ?_
  obtain ⟨y, hy⟩ : ∃ y, (packW x)[l']? = some y := ⟨_, List.getElem?_eq_getElem (by omega)⟩
  refine LdP.of h6 2 rfl (off := 0) rfl rfl ?_
  refine (tgword_c (Sat.p1 h6) (i := l') ho (by show (packW x)[0 + l']? = _; rw [Nat.zero_add]; exact hy) rfl).mono ?_
  rintro e w7 ⟨rfl, h7⟩
  refine ⟨_, _, rfl, ?_⟩
  refine RunS.one eok_ws (Sat.p1 h7) 0 rfl rfl (by rfl) (by omega) (by simp only [maxLen]; omega) fun p2 c2 w8 h8 => ?_
  refine ⟨⟨l' + 1, by rw [wrapI64 (by omega) (by omega)]; omega, by omega, rfl, ?_⟩, by simp only [wrapI64 (n := (l' : Int) + 1) (by omega) (by omega)]; omega⟩
  have ht : (packW x).take (l' + 1) = (packW x).take l' ++ [y] := by rw [List.take_add_one, hy]; rfl
  rw [ht, words_snoc]
  exact h8
 ·have : l' = 1 + nWords x := by omega
  refine cond_f (by simp; omega) ?_
  rw [List.take_of_length_le (by omega)] at h6
  refine (tunpacked_c (by omega) (by omega) h6).mono ?_
  rintro e w7 ⟨rfl, h7⟩
  refine ⟨_, _, rfl, cond_t rfl ?_⟩
  refine (must_c 4 (by rw [str_size]; simp; omega)).mono ?_
  rintro e w8 ⟨rfl, rfl⟩
  exact ⟨rfl, rfl, (Sat.p1 h7.drop).drop⟩
end Go.Proofs.YtpicofkhioalkaaGreat
