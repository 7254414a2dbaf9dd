
/- What the package arena's functions come to: contracts over words and begins, and over objects. -/
import Derived.Test.YtpicofkhioalkaaGreatAm
import Derived.Test.YtpicofkhioalkaaGreatG
set_option maxRecDepth 100000
namespace Go.Proofs.YtpicofkhioalkaaGreat
open Go Go.Lw Go.Wd Go.Am
section
variable {L : List HP} {w : World} {b T : Nat}
theorem st5 {c0 c1 c2 c3 c4 v0 v1 v2 v3 v4 : Value} {K : World -> Prop} (hs : Sat L w) (i : Nat) (hi : L[i]? = some (Row b [c0, c1, c2, c3, c4] T)) (h : ∀ w', Sat (L.set i (Row b [v0, v1, v2, v3, v4] T)) w' -> K w') :
  StC w ⟨b, 0, none⟩ v0 fun w => StC w (Addr.add ⟨b, 0, none⟩ 1) v1 fun w => StC w (Addr.add ⟨b, 0, none⟩ 2) v2 fun w => StC w (Addr.add ⟨b, 0, none⟩ 3) v3 fun w => StC w (Addr.add ⟨b, 0, none⟩ 4) v4 K := by
 simp only [add_mk, Nat.zero_add]
 refine StC.of hs i hi (off := 0) rfl rfl fun w1 h1 => ?_
 refine StC.of h1 i (get_set_self hi) (off := 1) rfl rfl fun w2 h2 => ?_
 rw [set_set_self] at h2
 refine StC.of h2 i (get_set_self hi) (off := 2) rfl rfl fun w3 h3 => ?_
 rw [set_set_self] at h3
 refine StC.of h3 i (get_set_self hi) (off := 3) rfl rfl fun w4 h4 => ?_
 rw [set_set_self] at h4
 refine StC.of h4 i (get_set_self hi) (off := 4) rfl rfl fun w5 h5 => ?_
 rw [set_set_self] at h5
 exact h w5 h5
theorem ld5 {n0 n1 n2 n3 : Int} {b1 : Bool} {K : Int -> Int -> Int -> Bool -> Int -> Prop} (hs : Sat L w) (i : Nat) (hi : L[i]? = some (Row b [.int .i64 n0, .int .i64 n1, .int .i64 n2, .bool b1, .int .i64 n3] T)) (h : K n0 n1 n2 b1 n3) :
  LdI .i64 w ⟨b, 0, none⟩ fun n0 => LdI .i64 w (Addr.add ⟨b, 0, none⟩ 1) fun n1 => LdI .i64 w (Addr.add ⟨b, 0, none⟩ 2) fun n2 => LdB w (Addr.add ⟨b, 0, none⟩ 3) fun b1 => LdI .i64 w (Addr.add ⟨b, 0, none⟩ 4) fun n3 => K n0 n1 n2 b1 n3 := by
 simp only [add_mk, Nat.zero_add]
 exact LdI.of hs i hi (off := 0) rfl rfl (LdI.of hs i hi (off := 1) rfl rfl (LdI.of hs i hi (off := 2) rfl rfl (LdB.of hs i hi (off := 3) rfl rfl (LdI.of hs i hi (off := 4) rfl rfl h))))
end
def headV (w : Nat) : Value := .agg #[.int .i64 (hTag w : Nat), .int .i64 (hRefs w : Nat), .int .i64 (hSize w : Nat), .bool (hMark w), .int .i64 (hOwn w : Nat)]
def head0 : Value := .agg #[.int .i64 0, .int .i64 0, .int .i64 0, .bool false, .int .i64 0]
section
variable {x : Nat} (hx : x < 18446744073709551616)
include hx
theorem un_tag : IntKind.wrap .i64 (bAnd .u64 (x : Int) 255) = ((hTag x : Nat) : Int) := by
 have h := mask_u64 hx 8 (by omega) (m := 255) rfl
 rw [h, wrapI64 (by omega) (by simp only [Nat.reducePow]; omega)]
 rfl
theorem un_field (s k : Nat) (hs : s < 64) (hk : k <= 32) {m : Int} (hm : m = ((2 ^ k - 1 : Nat) : Int)) : IntKind.wrap .i64 (bAnd .u64 (bShr .u64 (x : Int) (s : Int)) m) = ((x / 2 ^ s % 2 ^ k : Nat) : Int) := by
 have h1 : x / 2 ^ s < 18446744073709551616 := Nat.lt_of_le_of_lt (Nat.div_le_self _ _) hx
 rw [shr_u64 x s hs, mask_u64 h1 k hk hm]
 have h2 : 2 ^ k <= 2 ^ 32 := Nat.pow_le_pow_right (by omega) hk
 have h3 : (2 : Nat) ^ 32 = 4294967296 := by decide
 have h4 : x / 2 ^ s % 2 ^ k < 2 ^ k := Nat.mod_lt _ (Nat.two_pow_pos k)
 rw [wrapI64 (by omega) (by omega)]
theorem un_refs : IntKind.wrap .i64 (bAnd .u64 (bShr .u64 (x : Int) 9) 8191) = ((hRefs x : Nat) : Int) := un_field hx 9 13 (by omega) (by omega) rfl
theorem un_size : IntKind.wrap .i64 (bAnd .u64 (bShr .u64 (x : Int) 22) 8191) = ((hSize x : Nat) : Int) := un_field hx 22 13 (by omega) (by omega) rfl
theorem un_own : IntKind.wrap .i64 (bAnd .u64 (bShr .u64 (x : Int) 35) 1048575) = ((hOwn x : Nat) : Int) := un_field hx 35 20 (by omega) (by omega) rfl
theorem un_mark : (bAnd .u64 (bShr .u64 (x : Int) 8) 1 == 1) = hMark x := by
 have h := bit_u64 hx (k := 8) (by omega)
 have e : ((8 : Nat) : Int) = 8 := rfl
 rw [e] at h
 rw [h, Nat.testBit_eq_decide_div_mod_eq]
 unfold hMark
 simp only [Nat.reducePow]
 by_cases h2 : x / 256 % 2 = 1 <;> simp [h2]
end
theorem unpacked_c {x : Nat} (hx : x < 18446744073709551616) {F : List HP} {w : World} (hs : Sat F w) : Calls Tryz.prog 126 #[.int .u64 (x : Int)] w (Ret (headV x) (Sat F)) := by
 refine S_arena_unpacked_ok _ _ _ ?_
 unfold S_arena_unpacked
 rw [un_tag hx, un_refs hx, un_size hx, un_mark hx, un_own hx]
 refine NewC.ofRow hs fun b w1 h1 => ?_
 refine st5 h1 0 rfl fun w2 h2 => ?_
 exact ld5 h2 0 rfl ⟨rfl, h2.drop⟩
theorem packed_c {tag refs size owner : Nat} {mark : Bool} (h1 : tag < 256) (h2 : refs < 8192) (h3 : size < 8192) (h4 : owner < 1048576) {F : List HP} {w : World} (hs : Sat F w) :
  Calls Tryz.prog 132 #[.agg #[.int .i64 (tag : Int), .int .i64 (refs : Int), .int .i64 (size : Int), .bool mark, .int .i64 (owner : Int)]] w (Ret (.int .u64 (pack tag refs size mark owner : Nat)) (Sat F)) := by
 refine S_arena_packed_ok _ _ _ _ _ _ _ ?_
 unfold S_arena_packed
 refine NewC.ofRow hs fun b w1 hs1 => ?_
 simp only [add_mk, Nat.zero_add]
 refine LdI.of hs1 0 rfl (off := 0) rfl rfl (LdI.of hs1 0 rfl (off := 1) rfl rfl (LdI.of hs1 0 rfl (off := 2) rfl rfl (LdI.of hs1 0 rfl (off := 4) rfl rfl (LdB.of hs1 0 rfl (off := 3) rfl rfl ?_))))
 rw [wrapU64 (by omega) (by omega), wrapU64 (by omega) (by omega), wrapU64 (by omega) (by omega), wrapU64 (by omega) (by omega), packed_u64 h1 h2 h3 h4]
 cases mark with
 | true => rw [packed_mark h1 h2 h3 h4]; exact ⟨rfl, hs1.drop⟩
 | false => exact ⟨rfl, hs1.drop⟩
theorem fits_c (tag refs size owner : Int) (w : World) : Calls Tryz.prog 86 #[.int .i64 tag, .int .i64 refs, .int .i64 size, .int .i64 owner] w fun e w' =>
  e = .returned (.int .i64 (if 1 <= tag /\ tag <= 255 /\ 0 <= size /\ size <= 4096 /\ 0 <= refs /\ refs <= size /\ 0 <= owner /\ owner < 1048576 then 0 else 1)) /\ w = w' := by
 refine S_arena_Fits_ok _ _ _ _ _ _ ?_
 unfold S_arena_Fits
 by_cases c1 : tag < 1
 ·exact cond_t (by simpa using c1) ⟨by rw [if_neg (by omega)], rfl⟩
 refine cond_f (by simpa using c1) ?_
 by_cases c2 : tag > 255
 ·exact cond_t (by simpa using c2) ⟨by rw [if_neg (by omega)], rfl⟩
 refine cond_f (by simpa using c2) ?_
 by_cases c3 : size < 0
 ·exact cond_t (by simpa using c3) ⟨by rw [if_neg (by omega)], rfl⟩
 refine cond_f (by simpa using c3) ?_
 by_cases c4 : size > 4096
 ·exact cond_t (by simpa using c4) ⟨by rw [if_neg (by omega)], rfl⟩
 refine cond_f (by simpa using c4) ?_
 by_cases c5 : refs < 0
 ·exact cond_t (by simpa using c5) ⟨by rw [if_neg (by omega)], rfl⟩
 refine cond_f (by simpa using c5) ?_
 by_cases c6 : refs > size
 ·exact cond_t (by simpa using c6) ⟨by rw [if_neg (by omega)], rfl⟩
 refine cond_f (by simpa using c6) ?_
 by_cases c7 : owner < 0
 ·exact cond_t (by simpa using c7) ⟨by rw [if_neg (by omega)], rfl⟩
 refine cond_f (by simpa using c7) ?_
 by_cases c8 : owner ≥ 1048576
 ·exact cond_t (by simpa using c8) ⟨by rw [if_neg (by omega)], rfl⟩
 exact cond_f (by simpa using c8) ⟨by rw [if_pos (by omega)], rfl⟩
def arRow (A : Ar) (ws bs : Nat) : List Value := [.slice (some ⟨ws, 0, none⟩) A.n A.n, .slice (some ⟨bs, 0, none⟩) (A.n / 64 + 1) (A.n / 64 + 1), .int .i64 (A.top : Int), .int .i64 (A.low : Int), .int .i64 (A.high : Int), .bool A.op]
def Arn (A : Ar) (b : Nat) : HP := HEx fun ws => HEx fun bs => HEx fun bw => HAnd (A.Ok /\ Bits A bw) (star (Row b (arRow A ws bs) 108) (star (Row ws (wds A.wd A.n) 32) (Row bs (wds bw (A.n / 64 + 1)) 32)))
theorem arn_open {A : Ar} {b : Nat} {F : List HP} {w : World} (hs : Sat (Arn A b :: F) w) :
  A.Ok /\ ∃ ws bs bw, Bits A bw /\ Sat (Row b (arRow A ws bs) 108 :: Row ws (wds A.wd A.n) 32 :: Row bs (wds bw (A.n / 64 + 1)) 32 :: F) w := by
 obtain ⟨ws, h⟩ := hs.ex
 obtain ⟨bs, h⟩ := h.ex
 obtain ⟨bw, h⟩ := h.ex
 obtain ⟨⟨hok, hb⟩, h⟩ := h.pureOf
 have h1 := h.split
 have h2 : Sat (star (Row ws (wds A.wd A.n) 32) (Row bs (wds bw (A.n / 64 + 1)) 32) :: Row b (arRow A ws bs) 108 :: F) w := h1.pull 1 rfl
 have h3 := h2.split
 exact ⟨hok, ws, bs, bw, hb, h3.pull 2 rfl⟩
theorem arn_shut {A : Ar} {b ws bs : Nat} {bw : Nat -> Nat} {F : List HP} {w : World} (hok : A.Ok) (hb : Bits A bw) (hs : Sat (Row b (arRow A ws bs) 108 :: Row ws (wds A.wd A.n) 32 :: Row bs (wds bw (A.n / 64 + 1)) 32 :: F) w) : Sat (Arn A b :: F) w := by
 have h1 : Sat (Row ws (wds A.wd A.n) 32 :: Row bs (wds bw (A.n / 64 + 1)) 32 :: Row b (arRow A ws bs) 108 :: F) w := Sat.back (i := 2) (A := Row b (arRow A ws bs) 108) (A' := Row b (arRow A ws bs) 108) (L := Row ws (wds A.wd A.n) 32 :: Row bs (wds bw (A.n / 64 + 1)) 32 :: Row b (arRow A ws bs) 108 :: F) rfl hs
 have h2 := h1.join
 have h3 : Sat (Row b (arRow A ws bs) 108 :: star (Row ws (wds A.wd A.n) 32) (Row bs (wds bw (A.n / 64 + 1)) 32) :: F) w := h2.pull 1 rfl
 exact Sat.mkEx ws (Sat.mkEx bs (Sat.mkEx bw (Sat.mkPure ⟨hok, hb⟩ h3.join)))
section
variable {A : Ar} {b : Nat} {F : List HP} {w : World}
theorem top_c (hs : Sat (Arn A b :: F) w) : Calls Tryz.prog 28 #[.pointer (some ⟨b, 0, none⟩)] w fun e w' => e = .returned (.int .i64 (A.top : Int)) /\ w = w' := by
 obtain ⟨hok, ws, bs, bw, hb, h⟩ := arn_open hs
 refine S_arena_Arena_Top_ok _ _ _ ?_
 unfold S_arena_Arena_Top
 simp only [onSome_some, add_mk, Nat.zero_add]
 exact LdI.of h 0 rfl (off := 2) rfl rfl ⟨rfl, by trivial⟩
theorem arfree_c (hs : Sat (Arn A b :: F) w) : Calls Tryz.prog 23 #[.pointer (some ⟨b, 0, none⟩)] w (Ret (.int .i64 ((A.n - A.top : Nat) : Int)) (Sat (Arn A b :: F))) := by
 have hs' := hs.drew
 obtain ⟨hok, ws, bs, bw, hb, h⟩ := arn_open hs'
 refine S_arena_Arena_Free_ok _ _ _ ?_
 unfold S_arena_Arena_Free
 simp only [onSome_some, add_mk, Nat.zero_add]
 have h1 := hok.top; have h2 := hok.most
 refine LdS.of h 0 rfl (off := 0) rfl rfl (LdI.of h 0 rfl (off := 2) rfl rfl ?_)
 rw [wrapI64 (by omega) (by omega)]
 exact ⟨by congr 2; omega, hs'⟩
theorem is_c (hs : Sat (Arn A b :: F) w) (at_ : Int) : Calls Tryz.prog 125 #[.pointer (some ⟨b, 0, none⟩), .int .i64 at_] w fun e w' => e = .returned (.bool (A.isAt at_)) /\ w = w' := by
 obtain ⟨hok, ws, bs, bw, hb, h⟩ := arn_open hs
 refine S_arena_Arena_is_ok _ _ _ _ ?_
 unfold S_arena_Arena_is
 simp only [onSome_some, add_mk, Nat.zero_add]
 have hm := hok.most
 by_cases h0 : 0 <= at_
 case neg => exact cond_f (by simpa using h0) ⟨by simp [Ar.isAt, h0], by trivial⟩
 refine cond_t (by simpa using h0) ?_
 refine LdS.of h 0 rfl (off := 0) rfl rfl ?_
 by_cases h1 : at_ < (A.n : Int)
 case neg => exact cond_f (by simpa using h1) ⟨by simp [Ar.isAt, h1], by trivial⟩
 refine cond_t (by simpa using h1) ?_
 obtain ⟨k, rfl⟩ := Int.eq_ofNat_of_zero_le h0
 have hk : k < A.n := by omega
 have e1 : Int.tdiv (k : Int) 64 = ((k / 64 : Nat) : Int) := by rw [Int.tdiv_eq_ediv_of_nonneg (by omega)]; omega
 have e2 : Int.tmod (k : Int) 64 = ((k % 64 : Nat) : Int) := by rw [Int.tmod_eq_emod_of_nonneg (by omega)]; omega
 rw [e1, e2, wrapI64 (by omega) (by omega)]
 refine LdS.of h 0 rfl (off := 1) rfl rfl ⟨by omega, ?_⟩
 refine IdxC.of (by omega) (by omega) ?_
 simp only [Int.toNat_natCast, Nat.zero_add, Nat.mul_one]
 refine LdI.of h 2 rfl (off := k / 64) (wds_get (by omega)) rfl ⟨by omega, by omega, ?_⟩
 rw [bit_u64 (hb.w64 _) (Nat.mod_lt _ (by omega)), hb.bit k hk, isAt_nat hk]
 exact ⟨rfl, by trivial⟩
theorem set_c (hs : Sat (Arn A b :: F) w) {k : Nat} (hk : k < A.n) (on : Bool) :
  Calls Tryz.prog 133 #[.pointer (some ⟨b, 0, none⟩), .int .i64 (k : Int), .bool on] w (Ret (.tuple #[]) (Sat (Arn { A with bg := upd A.bg k on } b :: F))) := by
 obtain ⟨hok, ws, bs, bw, hb, h⟩ := arn_open hs
 refine S_arena_Arena_set_ok _ _ _ _ _ ?_
 unfold S_arena_Arena_set
 have hm := hok.most
 have e1 : Int.tdiv (k : Int) 64 = ((k / 64 : Nat) : Int) := by rw [Int.tdiv_eq_ediv_of_nonneg (by omega)]; omega
 have e2 : Int.tmod (k : Int) 64 = ((k % 64 : Nat) : Int) := by rw [Int.tmod_eq_emod_of_nonneg (by omega)]; omega
 rw [e1, e2, wrapI64 (by omega) (by omega)]
 simp only [onSome_some, add_mk, Nat.zero_add]
 have hlt : k % 64 < 64 := Nat.mod_lt _ (by omega)
 have hok' : Ar.Ok { A with bg := upd A.bg k on } := ⟨hok.pos, hok.most, hok.w64, hok.top, hok.low, hok.high⟩
 refine ⟨by omega, by omega, ?_⟩
 cases on with
 | true =>
  refine cond_t rfl ?_
  refine LdS.of h 0 rfl (off := 1) rfl rfl ⟨by omega, ?_⟩
  refine IdxC.of (by omega) (by omega) ?_
  simp only [Int.toNat_natCast, Nat.zero_add, Nat.mul_one]
  refine LdI.of h 2 rfl (off := k / 64) (wds_get (by omega)) rfl ?_
  refine IdxC.of (by omega) (by omega) ?_
  simp only [Int.toNat_natCast, Nat.zero_add, Nat.mul_one]
  obtain ⟨y, hy, hy2, hyb⟩ := setBit_u64 (hb.w64 (k / 64)) hlt
  rw [hy]
  refine StC.of h 2 rfl (off := k / 64) (wds_get (by omega)) rfl fun w1 h1 => ⟨rfl, ?_⟩
  simp only [List.set_cons_succ, List.set_cons_zero] at h1
  rw [wds_set] at h1
  refine arn_shut hok' (hb.upd hy2 fun j => ?_) h1
  rw [hyb]
  by_cases e : j = k % 64 <;> simp [e]
 | false =>
  refine cond_f rfl ?_
  refine LdS.of h 0 rfl (off := 1) rfl rfl ⟨by omega, ?_⟩
  refine IdxC.of (by omega) (by omega) ?_
  simp only [Int.toNat_natCast, Nat.zero_add, Nat.mul_one]
  refine LdI.of h 2 rfl (off := k / 64) (wds_get (by omega)) rfl ?_
  refine IdxC.of (by omega) (by omega) ?_
  simp only [Int.toNat_natCast, Nat.zero_add, Nat.mul_one]
  obtain ⟨y, hy, hy2, hyb⟩ := clearBit_u64 (hb.w64 (k / 64)) hlt
  rw [hy]
  refine StC.of h 2 rfl (off := k / 64) (wds_get (by omega)) rfl fun w1 h1 => ⟨rfl, ?_⟩
  simp only [List.set_cons_succ, List.set_cons_zero] at h1
  rw [wds_set] at h1
  refine arn_shut hok' (hb.upd hy2 fun j => ?_) h1
  rw [hyb]
  by_cases e : j = k % 64 <;> simp [e]
theorem head_c (hs : Sat (Arn A b :: F) w) (at_ : Int) : Calls Tryz.prog 77 #[.pointer (some ⟨b, 0, none⟩), .int .i64 at_] w
  (Ret (if A.isAt at_ = true then .tuple #[headV (A.wd at_.toNat), .int .i64 0] else .tuple #[head0, .int .i64 1]) (Sat (Arn A b :: F))) := by
 refine S_arena_Arena_Head_ok _ _ _ _ ?_
 unfold S_arena_Arena_Head
 refine NewC.ofRow hs fun b0 w0 h0 => ?_
 have h0 : Sat (Arn A b :: Row b0 [.int .i64 0, .int .i64 0, .int .i64 0, .bool false, .int .i64 0] 115 :: F) w0 := h0.pull 1 rfl
 refine (is_c h0 at_).mono ?_
 rintro e w1 ⟨rfl, rfl⟩
 refine ⟨_, rfl, ?_⟩
 cases hat : A.isAt at_ with
 | false =>
  refine cond_t rfl ?_
  refine st5 h0 1 rfl fun w2 h2 => ?_
  exact ld5 h2 1 rfl ⟨by rw [if_neg (by simp)]; rfl, (h2.pull 1 rfl).drop⟩
 | true =>
  refine cond_f rfl ?_
  obtain ⟨k, rfl, hk, _⟩ := isAt_lt hat
  obtain ⟨hok, ws, bs, bw, hb, h⟩ := arn_open h0
  simp only [onSome_some]
  refine LdS.of h 0 rfl (off := 0) rfl rfl ?_
  refine IdxC.of (by omega) (by omega) ?_
  simp only [Int.toNat_natCast, Nat.zero_add, Nat.mul_one]
  refine LdI.of h 1 rfl (off := k) (wds_get (by omega)) rfl ?_
  refine (unpacked_c (hok.w64 k) h0).mono ?_
  rintro e w3 ⟨rfl, h3⟩
  refine ⟨_, _, _, _, _, rfl, ?_⟩
  refine st5 h3 1 rfl fun w4 h4 => ?_
  exact ld5 h4 1 rfl ⟨by rw [if_pos (by trivial)]; rfl, (h4.pull 1 rfl).drop⟩
theorem word_c (hs : Sat (Arn A b :: F) w) (at_ i : Int) : Calls Tryz.prog 134 #[.pointer (some ⟨b, 0, none⟩), .int .i64 at_, .int .i64 i] w
  (Ret (if A.isAt at_ = true /\ 0 <= i /\ i < hSize (A.wd at_.toNat) then .tuple #[.int .i64 (at_ + 1 + i), .int .i64 0] else .tuple #[.int .i64 0, .int .i64 1]) (Sat (Arn A b :: F))) := by
 refine S_arena_Arena_word_ok _ _ _ _ _ ?_
 unfold S_arena_Arena_word
 refine (head_c hs at_).mono ?_
 rintro e w1 ⟨rfl, h1⟩
 have hn := (arn_open hs).1.most
 cases hat : A.isAt at_ with
 | false =>
  simp only [Bool.false_eq_true, if_false, false_and]
  refine ⟨_, _, _, _, _, _, rfl, ?_⟩
  refine NewC.ofRow h1 fun b0 w2 h2 => st5 h2 0 rfl fun w3 h3 => cond_t rfl ⟨rfl, h3.drop⟩
 | true =>
  simp only [if_true, true_and]
  refine ⟨_, _, _, _, _, _, rfl, ?_⟩
  refine NewC.ofRow h1 fun b0 w2 h2 => st5 h2 0 rfl fun w3 h3 => cond_f rfl ?_
  obtain ⟨k, rfl, hk, _⟩ := isAt_lt hat
  simp only [Int.toNat_natCast]
  have hsz := hSize_lt (A.wd k)
  by_cases c1 : i < 0
  ·exact cond_t (by simpa using c1) ⟨by rw [if_neg (by omega)], h3.drop⟩
  refine cond_f (by simpa using c1) ?_
  simp only [add_mk, Nat.zero_add]
  refine LdI.of h3 0 rfl (off := 2) rfl rfl ?_
  by_cases c2 : i ≥ ((hSize (A.wd k) : Nat) : Int)
  ·exact cond_t (by simpa using c2) ⟨by rw [if_neg (by omega)], h3.drop⟩
  refine cond_f (by simpa using c2) ?_
  rw [wrapI64 (n := (k : Int) + 1) (by omega) (by omega), wrapI64 (by omega) (by omega)]
  exact ⟨by rw [if_pos (by omega)], h3.drop⟩
theorem get_c (hs : Sat (Arn A b :: F) w) (at_ i : Int) (hin : A.isAt at_ = true -> at_.toNat + 1 + hSize (A.wd at_.toNat) <= A.n) : Calls Tryz.prog 128 #[.pointer (some ⟨b, 0, none⟩), .int .i64 at_, .int .i64 i] w
  (Ret (if A.isAt at_ = true /\ 0 <= i /\ i < hSize (A.wd at_.toNat) then .tuple #[.int .u64 (A.wd (at_.toNat + 1 + i.toNat) : Nat), .int .i64 0] else .tuple #[.int .u64 0, .int .i64 1]) (Sat (Arn A b :: F))) := by
 refine S_arena_Arena_Get_ok _ _ _ _ _ ?_
 unfold S_arena_Arena_Get
 refine (word_c hs at_ i).mono ?_
 rintro e w1 ⟨rfl, h1⟩
 by_cases hc : A.isAt at_ = true /\ 0 <= i /\ i < hSize (A.wd at_.toNat)
 ·rw [if_pos hc, if_pos hc]
  refine ⟨_, _, rfl, cond_f rfl ?_⟩
  obtain ⟨k, rfl, hk, _⟩ := isAt_lt hc.1
  obtain ⟨j, rfl⟩ := Int.eq_ofNat_of_zero_le hc.2.1
  have hin := hin hc.1
  simp only [Int.toNat_natCast] at hin hc ⊢
  obtain ⟨hok, ws, bs, bw, hb, h⟩ := arn_open h1
  simp only [onSome_some]
  refine LdS.of h 0 rfl (off := 0) rfl rfl ?_
  refine IdxC.of (by omega) (by omega) ?_
  refine LdI.of h 1 rfl (off := k + 1 + j) (n := (A.wd (k + 1 + j) : Int)) (wds_get (by omega)) (by congr 1; omega) ⟨rfl, h1⟩
 ·rw [if_neg hc, if_neg hc]
  exact ⟨_, _, rfl, cond_t rfl ⟨rfl, h1⟩⟩
theorem put_c (hs : Sat (Arn A b :: F) w) (at_ i : Int) {x : Nat} (hx : x < 18446744073709551616) (hin : A.isAt at_ = true -> at_.toNat + 1 + hSize (A.wd at_.toNat) <= A.n) : Calls Tryz.prog 89 #[.pointer (some ⟨b, 0, none⟩), .int .i64 at_, .int .i64 i, .int .u64 (x : Int)] w fun e w' =>
  if A.isAt at_ = true /\ 0 <= i /\ i < hSize (A.wd at_.toNat) then Ret (.int .i64 0) (Sat (Arn { A with wd := upd A.wd (at_.toNat + 1 + i.toNat) x } b :: F)) e w' else Ret (.int .i64 1) (Sat (Arn A b :: F)) e w' := by
 refine S_arena_Arena_Put_ok _ _ _ _ _ _ ?_
 unfold S_arena_Arena_Put
 refine (word_c hs at_ i).mono ?_
 rintro e w1 ⟨rfl, h1⟩
 by_cases hc : A.isAt at_ = true /\ 0 <= i /\ i < hSize (A.wd at_.toNat)
 ·simp only [if_pos hc]
  refine ⟨_, _, rfl, cond_t rfl ?_⟩
  obtain ⟨k, rfl, hk, _⟩ := isAt_lt hc.1
  obtain ⟨j, rfl⟩ := Int.eq_ofNat_of_zero_le hc.2.1
  have hin := hin hc.1
  simp only [Int.toNat_natCast] at hin hc ⊢
  obtain ⟨hok, ws, bs, bw, hb, h⟩ := arn_open h1
  simp only [onSome_some]
  refine LdS.of h 0 rfl (off := 0) rfl rfl ?_
  refine IdxC.of (by omega) (by omega) ?_
  refine StC.of h 1 rfl (off := k + 1 + j) (wds_get (by omega)) (by congr 1; omega) fun w2 h2 => ⟨rfl, ?_⟩
  simp only [List.set_cons_succ, List.set_cons_zero] at h2
  rw [wds_set] at h2
  refine arn_shut (A := { A with wd := upd A.wd (k + 1 + j) x }) (bw := bw) ⟨hok.pos, hok.most, fun i => ?_, hok.top, hok.low, hok.high⟩ ⟨hb.w64, hb.bit⟩ h2
  dsimp only
  unfold upd
  split
  ·exact hx
  ·exact hok.w64 i
 ·simp only [if_neg hc]
  exact ⟨_, _, rfl, cond_f rfl ⟨rfl, h1⟩⟩
theorem mark_c (hs : Sat (Arn A b :: F) w) (at_ : Int) (on : Bool) : Calls Tryz.prog 113 #[.pointer (some ⟨b, 0, none⟩), .int .i64 at_, .bool on] w fun e w' =>
  if A.isAt at_ = true then Ret (.int .i64 0) (Sat (Arn { A with wd := upd A.wd at_.toNat (pack (hTag (A.wd at_.toNat)) (hRefs (A.wd at_.toNat)) (hSize (A.wd at_.toNat)) on (hOwn (A.wd at_.toNat))) } b :: F)) e w' else Ret (.int .i64 1) (Sat (Arn A b :: F)) e w' := by
 refine S_arena_Arena_Mark_ok _ _ _ _ _ ?_
 unfold S_arena_Arena_Mark
 refine (head_c hs at_).mono ?_
 rintro e w1 ⟨rfl, h1⟩
 cases hat : A.isAt at_ with
 | false =>
  simp only [Bool.false_eq_true, if_false]
  refine ⟨_, _, _, _, _, _, rfl, ?_⟩
  exact NewC.ofRow h1 fun b0 w2 h2 => st5 h2 0 rfl fun w3 h3 => cond_f rfl ⟨rfl, h3.drop⟩
 | true =>
  simp only [if_true]
  obtain ⟨k, rfl, hk, _⟩ := isAt_lt hat
  simp only [Int.toNat_natCast]
  refine ⟨_, _, _, _, _, _, rfl, ?_⟩
  refine NewC.ofRow h1 fun b0 w2 h2 => st5 h2 0 rfl fun w3 h3 => cond_t rfl ?_
  simp only [add_mk, Nat.zero_add]
  refine StC.of h3 0 rfl (off := 3) rfl rfl fun w4 h4 => ?_
  have h5 := h4.drew
  have h6 : Sat (Arn A b :: Row b0 [.int .i64 (hTag (A.wd k) : Nat), .int .i64 (hRefs (A.wd k) : Nat), .int .i64 (hSize (A.wd k) : Nat), .bool on, .int .i64 (hOwn (A.wd k) : Nat)] 115 :: F) w4.drew := h5.pull 1 rfl
  obtain ⟨hok, ws, bs, bw, hb, h7⟩ := arn_open h6
  refine ⟨fun w => ∃ c : Nat -> Nat, Sat (Row b (arRow A ws bs) 108 :: Row ws (wds c A.n) 32 :: Row bs (wds bw (A.n / 64 + 1)) 32 :: Row b0 [.int .i64 (hTag (A.wd k) : Nat), .int .i64 (hRefs (A.wd k) : Nat), .int .i64 (hSize (A.wd k) : Nat), .bool on, .int .i64 (hOwn (A.wd k) : Nat)] 115 :: F) w, ⟨_, h7⟩, ?_⟩
  simp only [onSome_some]
  refine ⟨_, _, _, fun w ⟨c, h⟩ => LdS.of h 0 rfl (off := 0) rfl rfl rfl, ?_⟩
  refine ⟨_, _, _, _, _, fun w ⟨c, h⟩ => LdI.of h 3 rfl (off := 0) rfl rfl (LdI.of h 3 rfl (off := 1) rfl rfl (LdI.of h 3 rfl (off := 2) rfl rfl (LdB.of h 3 rfl (off := 3) rfl rfl (LdI.of h 3 rfl (off := 4) rfl rfl rfl)))), ?_⟩
  refine (packed_c (hTag_lt _) (hRefs_lt _) (hSize_lt _) (hOwn_lt _) h7).mono ?_
  rintro e w8 ⟨rfl, h8⟩
  refine ⟨_, rfl, ⟨_, h8⟩, ?_⟩
  refine IdxC.of (by omega) (by omega) ?_
  simp only [Int.toNat_natCast, Nat.zero_add, Nat.mul_one]
  refine StC.of h8 1 rfl (off := k) (wds_get (by omega)) rfl fun w9 h9 => ?_
  simp only [List.set_cons_succ, List.set_cons_zero] at h9
  rw [wds_set] at h9
  refine ⟨⟨_, h9⟩, rfl, ?_⟩
  have h10 := arn_shut (A := { A with wd := upd A.wd k (pack (hTag (A.wd k)) (hRefs (A.wd k)) (hSize (A.wd k)) on (hOwn (A.wd k))) }) (bw := bw) ⟨hok.pos, hok.most, fun i => by
   dsimp only
   unfold upd
   split
   ·exact pack_lt (hTag_lt _) (hRefs_lt _) (hSize_lt _) (hOwn_lt _)
   ·exact hok.w64 i, hok.top, hok.low, hok.high⟩ ⟨hb.w64, hb.bit⟩ h9
  exact (h10.pull 1 rfl).drop
end
section
variable {A : Ar} {b : Nat} {F : List HP} {w : World}
theorem from_c (hs : Sat (Arn A b :: F) w) (at_ : Int) : Calls Tryz.prog 124 #[.pointer (some ⟨b, 0, none⟩), .int .i64 at_] w fun e w' => e = .returned (.int .i64 (if A.op = true /\ at_ = A.low then (A.high : Int) else at_)) /\ w = w' := by
 obtain ⟨hok, ws, bs, bw, hb, h⟩ := arn_open hs
 refine S_arena_Arena_from_ok _ _ _ _ ?_
 unfold S_arena_Arena_from
 simp only [onSome_some, add_mk, Nat.zero_add]
 refine LdB.of h 0 rfl (off := 5) rfl rfl ?_
 cases ho : A.op with
 | false => exact cond_f rfl ⟨by rw [if_neg (by simp)], by trivial⟩
 | true =>
  refine cond_t rfl (LdI.of h 0 rfl (off := 3) rfl rfl ?_)
  by_cases e : at_ = (A.low : Int)
  ·exact cond_t (by simp [e]) (LdI.of h 0 rfl (off := 4) rfl rfl ⟨by rw [if_pos ⟨by trivial, e⟩], by trivial⟩)
  ·exact cond_f (by simp [e]) ⟨by rw [if_neg (fun hh => e hh.2)], by trivial⟩
theorem next_c (hs : Sat (Arn A b :: F) w) (at_ : Int) : Calls Tryz.prog 79 #[.pointer (some ⟨b, 0, none⟩), .int .i64 at_] w
  (Ret (if A.isAt at_ = true then .tuple #[.int .i64 (if A.op = true /\ at_ + 1 + (hSize (A.wd at_.toNat) : Nat) = A.low then (A.high : Int) else at_ + 1 + (hSize (A.wd at_.toNat) : Nat)), .int .i64 0] else .tuple #[.int .i64 0, .int .i64 1]) (Sat (Arn A b :: F))) := by
 refine S_arena_Arena_Next_ok _ _ _ _ ?_
 unfold S_arena_Arena_Next
 have hn := (arn_open hs).1.most
 refine (head_c hs at_).mono ?_
 rintro e w1 ⟨rfl, h1⟩
 cases hat : A.isAt at_ with
 | false =>
  simp only [Bool.false_eq_true, if_false]
  refine ⟨_, _, _, _, _, _, rfl, ?_⟩
  exact NewC.ofRow h1 fun b0 w2 h2 => st5 h2 0 rfl fun w3 h3 => cond_t rfl ⟨rfl, h3.drop⟩
 | true =>
  simp only [if_true]
  obtain ⟨k, rfl, hk, _⟩ := isAt_lt hat
  simp only [Int.toNat_natCast]
  refine ⟨_, _, _, _, _, _, rfl, ?_⟩
  refine NewC.ofRow h1 fun b0 w2 h2 => st5 h2 0 rfl fun w3 h3 => cond_f rfl ?_
  simp only [add_mk, Nat.zero_add]
  refine LdI.of h3 0 rfl (off := 2) rfl rfl ?_
  have hsz := hSize_lt (A.wd k)
  rw [wrapI64 (n := (k : Int) + 1) (by omega) (by omega), wrapI64 (by omega) (by omega)]
  refine (from_c (h3.pull 1 rfl) _).mono ?_
  rintro e w4 ⟨rfl, rfl⟩
  exact ⟨_, rfl, rfl, h3.drop⟩
theorem first_c (hs : Sat (Arn A b :: F) w) : Calls Tryz.prog 76 #[.pointer (some ⟨b, 0, none⟩)] w fun e w' => e = .returned (.int .i64 (if A.op = true /\ (0 : Int) = A.low then (A.high : Int) else 0)) /\ w = w' := by
 refine S_arena_Arena_First_ok _ _ _ ?_
 unfold S_arena_Arena_First
 refine (from_c hs 0).mono ?_
 rintro e w4 ⟨rfl, rfl⟩
 exact ⟨_, rfl, rfl, rfl⟩
theorem aropen_c (hs : Sat (Arn A b :: F) w) : Calls Tryz.prog 69 #[.pointer (some ⟨b, 0, none⟩)] w fun e w' =>
  if A.op = true then Ret (.int .i64 16) (Sat (Arn A b :: F)) e w' else Ret (.int .i64 0) (Sat (Arn { A with op := true, low := 0, high := 0 } b :: F)) e w' := by
 obtain ⟨hok, ws, bs, bw, hb, h⟩ := arn_open hs
 refine S_arena_Arena_Open_ok _ _ _ ?_
 unfold S_arena_Arena_Open
 simp only [onSome_some, add_mk, Nat.zero_add]
 refine LdB.of h 0 rfl (off := 5) rfl rfl ?_
 cases ho : A.op with
 | true => exact cond_t rfl ⟨rfl, hs⟩
 | false =>
  refine cond_f rfl ?_
  refine StC.of h 0 rfl (off := 5) rfl rfl fun w1 h1 => StC.of h1 0 rfl (off := 3) rfl rfl fun w2 h2 => StC.of h2 0 rfl (off := 4) rfl rfl fun w3 h3 => ⟨rfl, ?_⟩
  exact arn_shut (A := { A with op := true, low := 0, high := 0 }) (bw := bw) ⟨hok.pos, hok.most, hok.w64, hok.top, Nat.zero_le _, Nat.zero_le _⟩ ⟨hb.w64, hb.bit⟩ h3
theorem gap_c (hs : Sat (Arn A b :: F) w) : Calls Tryz.prog 117 #[.pointer (some ⟨b, 0, none⟩)] w (Ret (.tuple #[.int .i64 (A.low : Int), .int .i64 (A.high : Int), .bool A.op]) (Sat (Arn A b :: F))) := by
 have hs' := hs.drew
 obtain ⟨hok, ws, bs, bw, hb, h⟩ := arn_open hs'
 refine S_arena_Arena_Gap_ok _ _ _ ?_
 unfold S_arena_Arena_Gap
 simp only [onSome_some, add_mk, Nat.zero_add]
 exact LdI.of h 0 rfl (off := 3) rfl rfl (LdI.of h 0 rfl (off := 4) rfl rfl (LdB.of h 0 rfl (off := 5) rfl rfl ⟨rfl, hs'⟩))
theorem behind_c (hs : Sat (Arn A b :: F) w) (hin : A.op = true -> A.high ≠ A.top -> A.high < A.n) : Calls Tryz.prog 147 #[.pointer (some ⟨b, 0, none⟩)] w
  (Ret (if A.op = true then (if A.high = A.top then .tuple #[head0, .int .i64 17] else .tuple #[headV (A.wd A.high), .int .i64 0]) else .tuple #[head0, .int .i64 16]) (Sat (Arn A b :: F))) := by
 refine S_arena_Arena_behind_ok _ _ _ ?_
 unfold S_arena_Arena_behind
 refine NewC.ofRow hs fun b0 w0 h0 => ?_
 have h0 : Sat (Arn A b :: Row b0 [.int .i64 0, .int .i64 0, .int .i64 0, .bool false, .int .i64 0] 115 :: F) w0 := h0.pull 1 rfl
 obtain ⟨hok, ws, bs, bw, hb, h⟩ := arn_open h0
 simp only [onSome_some]
 refine LdB.of h 0 rfl (off := 5) rfl (by simp [add_mk]) ?_
 cases ho : A.op with
 | false =>
  refine cond_t rfl ?_
  refine st5 h0 1 rfl fun w2 h2 => ?_
  exact ld5 h2 1 rfl ⟨by simp [head0], (h2.pull 1 rfl).drop⟩
 | true =>
  refine cond_f rfl ?_
  have h1 := h.drew
  refine LdI.of h1 0 rfl (off := 4) rfl (by simp [add_mk]) (LdI.of h1 0 rfl (off := 2) rfl (by simp [add_mk]) ?_)
  by_cases e : A.high = A.top
  ·refine cond_t (by simp [e]) ?_
   refine st5 h0.drew 1 rfl fun w2 h2 => ?_
   exact ld5 h2 1 rfl ⟨by simp [head0, e], (h2.pull 1 rfl).drop⟩
  ·refine cond_f (by simp; omega) ?_
   have h3 := h1.drew
   have h4 := h0.drew.drew
   have hlt := hin ho e
   refine LdS.of h3 0 rfl (off := 0) rfl rfl (LdI.of h3 0 rfl (off := 4) rfl (by simp [add_mk]) ?_)
   refine IdxC.of (by omega) (by omega) ?_
   simp only [Int.toNat_natCast, Nat.zero_add, Nat.mul_one]
   refine LdI.of h3 1 rfl (off := A.high) (wds_get hlt) rfl ?_
   refine (unpacked_c (hok.w64 _) h4).mono ?_
   rintro e' w5 ⟨rfl, h5⟩
   refine ⟨_, _, _, _, _, rfl, ?_⟩
   refine st5 h5 1 rfl fun w6 h6 => ?_
   exact ld5 h6 1 rfl ⟨by simp [headV, e], (h6.pull 1 rfl).drop⟩
theorem skip_ok (hs : Sat (Arn A b :: F) w) (ho : A.op = true) (ht : A.high ≠ A.top) (hb2 : A.high + 1 + hSize (A.wd A.high) <= A.n) : Calls Tryz.prog 119 #[.pointer (some ⟨b, 0, none⟩)] w
  (Ret (.tuple #[.int .i64 (A.high : Int), .int .i64 0]) (Sat (Arn { A with bg := upd A.bg A.high false, high := A.high + 1 + hSize (A.wd A.high) } b :: F))) := by
 refine S_arena_Arena_Skip_ok _ _ _ ?_
 unfold S_arena_Arena_Skip
 have hn := (arn_open hs).1.most
 refine (behind_c hs (fun _ _ => by omega)).mono ?_
 rintro e w1 ⟨rfl, h1⟩
 rw [if_pos ho, if_neg ht]
 refine ⟨_, _, _, _, _, _, rfl, ?_⟩
 refine NewC.ofRow h1 fun b0 w2 h2 => st5 h2 0 rfl fun w3 h3 => cond_f rfl ?_
 have h3 : Sat (Arn A b :: _ :: F) w3 := h3.pull 1 rfl
 obtain ⟨hok, ws, bs, bw, hb, h⟩ := arn_open h3
 simp only [onSome_some]
 refine LdI.of h 0 rfl (off := 4) rfl (by simp [add_mk]) ?_
 refine (set_c h3 (k := A.high) (by omega) false).mono ?_
 rintro e w4 ⟨rfl, h4⟩
 refine ⟨rfl, ?_⟩
 obtain ⟨hok', ws, bs, bw, hb, h⟩ := arn_open h4
 have h5 := h.drew
 have hsz := hSize_lt (A.wd A.high)
 refine LdI.of h5 0 rfl (off := 4) rfl (by simp [add_mk]) (LdI.of h5 3 rfl (off := 2) rfl (by simp [add_mk]) ?_)
 refine StC.of h5 0 rfl (off := 4) rfl (by simp [add_mk]) fun w6 h6 => ⟨rfl, ?_⟩
 dsimp only at h6
 rw [wrapI64 (n := 1 + ((hSize (A.wd A.high) : Nat) : Int)) (by omega) (by omega), wrapI64 (by omega) (by omega)] at h6
 have e1 : (A.high : Int) + (1 + ((hSize (A.wd A.high) : Nat) : Int)) = ((A.high + 1 + hSize (A.wd A.high) : Nat) : Int) := by omega
 rw [e1] at h6
 have h7 := arn_shut (A := { A with bg := upd A.bg A.high false, high := A.high + 1 + hSize (A.wd A.high) }) (bw := bw) ⟨hok.pos, hok.most, hok.w64, hok.top, hok.low, hb2⟩ ⟨hb.w64, hb.bit⟩ h6
 exact (h7.pull 1 rfl).drop
theorem keep_ok (hs : Sat (Arn A b :: F) w) (ho : A.op = true) (ht : A.high ≠ A.top) (hb2 : A.high + 1 + hSize (A.wd A.high) <= A.n) (hlh : A.low <= A.high) : Calls Tryz.prog 121 #[.pointer (some ⟨b, 0, none⟩)] w
  (Ret (.tuple #[.int .i64 (A.high : Int), .int .i64 (A.low : Int), .int .i64 0]) (Sat (Arn { A with
   wd := fun j => if A.low <= j /\ j < A.low + 1 + hSize (A.wd A.high) then A.wd (A.high + (j - A.low)) else A.wd j, bg := upd (upd A.bg A.high false) A.low true, low := A.low + 1 + hSize (A.wd A.high), high := A.high + 1 + hSize (A.wd A.high) } b :: F))) := by
 refine S_arena_Arena_Keep_ok _ _ _ ?_
 unfold S_arena_Arena_Keep
 have hn := (arn_open hs).1.most
 have hsz := hSize_lt (A.wd A.high)
 refine (behind_c hs (fun _ _ => by omega)).mono ?_
 rintro e w1 ⟨rfl, h1⟩
 rw [if_pos ho, if_neg ht]
 refine ⟨_, _, _, _, _, _, rfl, ?_⟩
 refine NewC.ofRow h1 fun b0 w2 h2 => st5 h2 0 rfl fun w3 h3 => cond_f rfl ?_
 have h4 : Sat (Arn A b :: _ :: F) w3.drew := (h3.pull 1 rfl).drew
 obtain ⟨hok, ws, bs, bw, hb, h⟩ := arn_open h4
 simp only [onSome_some]
 refine LdI.of h 0 rfl (off := 4) rfl (by simp [add_mk]) (LdI.of h 0 rfl (off := 3) rfl (by simp [add_mk]) ?_)
 clear h hb
 refine (set_c h4 (k := A.high) (by omega) false).mono ?_
 rintro e w4 ⟨rfl, h5⟩
 refine ⟨rfl, ?_⟩
 obtain ⟨hok1, ws, bs, bw, hb, h⟩ := arn_open h5.drew
 dsimp only [arRow] at h
 generalize hs' : hSize (A.wd A.high) = s at *
 have e1 : IntKind.wrap .i64 (IntKind.wrap .i64 ((A.high : Int) + 1) + (s : Int)) = ((A.high + 1 + s : Nat) : Int) := by
  rw [wrapI64 (n := (A.high : Int) + 1) (by omega) (by omega), wrapI64 (by omega) (by omega)]; omega
 have e2 : IntKind.wrap .i64 (IntKind.wrap .i64 ((A.low : Int) + 1) + (s : Int)) = ((A.low + 1 + s : Nat) : Int) := by
  rw [wrapI64 (n := (A.low : Int) + 1) (by omega) (by omega), wrapI64 (by omega) (by omega)]; omega
 refine LdS.of h 0 rfl (off := 0) rfl rfl ?_
 refine SlC.of A.low A.n A.n rfl rfl rfl (by omega) (by omega) (by omega) ?_
 refine LdS.of h 0 rfl (off := 0) rfl rfl ?_
 refine LdI.of h 3 rfl (off := 2) rfl (by simp [add_mk]) ?_
 rw [e1]
 refine SlC.of A.high (A.high + 1 + s) A.n rfl rfl rfl (by omega) (by omega) (by omega) ?_
 have hp1 : slAddr (some ⟨ws, 0, none⟩) A.n A.low 1 = some ⟨ws, A.low, none⟩ := by unfold slAddr; rw [if_neg (by omega)]; simp [add_mk]
 have hp2 : slAddr (some ⟨ws, 0, none⟩) A.n A.high 1 = some ⟨ws, A.high, none⟩ := by unfold slAddr; rw [if_neg (by omega)]; simp [add_mk]
 rw [hp1, hp2]
 have hsl : A.high + 1 + s - A.high = 1 + s := by omega
 have hnews : ∀ i, i < 1 + s -> ((List.range (1 + s)).map fun i => Value.int .u64 (A.wd (A.high + i) : Int))[i]? = some (.int .u64 (A.wd (A.high + i) : Int)) := fun i hi => by simp [hi]
 refine RunI.copy (e := 32) Tryz.underlying25 (by kernel_rfl) h 1 rfl (news := (List.range (1 + s)).map fun i => Value.int .u64 (A.wd (A.high + i) : Int)) ?_ (by simp; omega) (by simp [wds_len]; omega) (by simp [Value.oneCell']) fun w6 h6 => ?_
 ·intro a ha j v hj
  cases ha
  have hlt : j < 1 + s := by
   rcases Nat.lt_or_ge j (1 + s) with h | h
   ·exact h
   ·rw [List.getElem?_eq_none (by simpa using h)] at hj; cases hj
  rw [hnews j hlt] at hj
  cases hj
  rw [add_mk]
  exact h.cell 1 rfl (wds_get (by omega))
 have hlen : ((List.range (1 + s)).map fun i => Value.int .u64 (A.wd (A.high + i) : Int)).length = 1 + s := by simp
 rw [hlen, wds_splice (g := fun j => if A.low <= j /\ j < A.low + 1 + s then A.wd (A.high + (j - A.low)) else A.wd j) hlen (by omega) (fun i hi => by
  rw [hnews i hi]
  rw [if_pos (by omega), show A.high + (A.low + i - A.low) = A.high + i by omega]) (fun j _ hj => by rw [if_neg (by omega)])] at h6
 have h7 := arn_shut (A := { A with wd := fun j => if A.low <= j /\ j < A.low + 1 + s then A.wd (A.high + (j - A.low)) else A.wd j, bg := upd A.bg A.high false }) (bw := bw) ⟨hok.pos, hok.most, fun i => by
  dsimp only
  split
  ·exact hok.w64 _
  ·exact hok.w64 _, hok.top, hok.low, hok.high⟩ ⟨hb.w64, hb.bit⟩ h6
 refine (set_c h7 (k := A.low) (by dsimp only; omega) true).mono ?_
 rintro e w8 ⟨rfl, h8⟩
 refine ⟨rfl, ?_⟩
 obtain ⟨hok2, ws, bs, bw, hb, h9⟩ := arn_open h8.drew
 dsimp only [arRow] at h9
 refine ⟨fun w => ∃ c, Sat (Row b c 108 :: _ :: _ :: _ :: F) w, ⟨_, h9⟩, ?_⟩
 refine ⟨_, fun w ⟨c, h⟩ => LdI.of h 3 rfl (off := 2) rfl (by simp [add_mk]) rfl, ?_⟩
 refine ⟨_, fun w ⟨c, h⟩ => LdI.of h 3 rfl (off := 2) rfl (by simp [add_mk]) rfl, ?_⟩
 rw [e2]
 refine StC.of h9 0 rfl (off := 3) rfl (by simp [add_mk]) fun w10 h10 => ?_
 refine ⟨⟨_, h10⟩, ?_⟩
 rw [e1]
 refine StC.of h10 0 rfl (off := 4) rfl (by simp [add_mk]) fun w11 h11 => ?_
 refine ⟨⟨_, h11⟩, rfl, ?_⟩
 have h12 := arn_shut (A := { A with wd := fun j => if A.low <= j /\ j < A.low + 1 + s then A.wd (A.high + (j - A.low)) else A.wd j, bg := upd (upd A.bg A.high false) A.low true, low := A.low + 1 + s, high := A.high + 1 + s }) (bw := bw)
  ⟨hok.pos, hok.most, hok2.w64, hok.top, by dsimp only; omega, by dsimp only; omega⟩ ⟨hb.w64, hb.bit⟩ h11
 exact (h12.pull 1 rfl).drop
theorem arclose_c (hs : Sat (Arn A b :: F) w) : Calls Tryz.prog 118 #[.pointer (some ⟨b, 0, none⟩)] w fun e w' =>
  if A.op = true then (if A.high = A.top then Ret (.int .i64 0) (Sat (Arn { A with top := A.low, op := false, low := 0, high := 0 } b :: F)) e w' else Ret (.int .i64 20) (Sat (Arn A b :: F)) e w') else Ret (.int .i64 16) (Sat (Arn A b :: F)) e w' := by
 obtain ⟨hok, ws, bs, bw, hb, h⟩ := arn_open hs
 refine S_arena_Arena_Close_ok _ _ _ ?_
 unfold S_arena_Arena_Close
 simp only [onSome_some, add_mk, Nat.zero_add]
 refine LdB.of h 0 rfl (off := 5) rfl rfl ?_
 cases ho : A.op with
 | false => exact cond_t rfl ⟨rfl, hs⟩
 | true =>
  refine cond_f rfl ?_
  have h1 := h.drew
  refine LdI.of h1 0 rfl (off := 4) rfl rfl (LdI.of h1 0 rfl (off := 2) rfl rfl ?_)
  simp only [if_true]
  by_cases e : A.high = A.top
  ·simp only [if_pos e]
   refine cond_f (by simp [e]) (LdI.of h1 0 rfl (off := 3) rfl rfl ?_)
   refine StC.of h1 0 rfl (off := 2) rfl rfl fun w2 h2 => StC.of h2 0 rfl (off := 5) rfl rfl fun w3 h3 => StC.of h3 0 rfl (off := 3) rfl rfl fun w4 h4 => StC.of h4 0 rfl (off := 4) rfl rfl fun w5 h5 => ⟨rfl, ?_⟩
   exact arn_shut (A := { A with top := A.low, op := false, low := 0, high := 0 }) (bw := bw) ⟨hok.pos, hok.most, hok.w64, hok.low, Nat.zero_le _, Nat.zero_le _⟩ ⟨hb.w64, hb.bit⟩ h5
  ·simp only [if_neg e]
   exact cond_t (by simp; omega) ⟨rfl, hs.drew⟩
theorem eok_ws : EOK Tryz.prog 25 32 1 8 := ⟨by kernel_rfl, ⟨_, _, rfl, rfl, rfl, rfl, rfl⟩, by omega⟩
theorem aralloc_c (hs : Sat (Arn A b :: F) w) {tag refs size owner : Nat} (hf : 1 <= tag /\ tag <= 255 /\ size <= 4096 /\ refs <= size /\ owner < 1048576) (hr : A.top + 1 + size <= A.n) :
  Calls Tryz.prog 88 #[.pointer (some ⟨b, 0, none⟩), .int .i64 (tag : Int), .int .i64 (refs : Int), .int .i64 (size : Int), .int .i64 (owner : Int)] w (Ret (.tuple #[.int .i64 (A.top : Int), .int .i64 0]) (Sat (Arn { A with
   wd := fun j => if j = A.top then pack tag refs size false owner else if A.top < j /\ j < A.top + 1 + size then 0 else A.wd j, bg := upd A.bg A.top true, top := A.top + 1 + size } b :: F))) := by
 refine S_arena_Arena_Alloc_ok _ _ _ _ _ _ _ ?_
 unfold S_arena_Arena_Alloc
 refine (fits_c _ _ _ _ _).mono ?_
 rintro e w1 ⟨rfl, rfl⟩
 rw [if_pos (by omega)]
 refine ⟨_, rfl, cond_f rfl ?_⟩
 refine (arfree_c hs).mono ?_
 rintro e w2 ⟨rfl, h2⟩
 refine ⟨_, rfl, ?_⟩
 obtain ⟨hok, ws, bs, bw, hb, h⟩ := arn_open h2
 have hn := hok.most
 have w1 : IntKind.wrap .i64 ((size : Int) + 1) = ((size + 1 : Nat) : Int) := by rw [wrapI64 (by omega) (by omega)]; omega
 rw [w1]
 refine cond_f (by simp; omega) ?_
 simp only [onSome_some]
 refine LdI.of h 0 rfl (off := 2) rfl (by simp [add_mk]) ?_
 have w2' : IntKind.wrap .i64 ((A.top : Int) + 1) = ((A.top + 1 : Nat) : Int) := by rw [wrapI64 (by omega) (by omega)]; omega
 have w3' : IntKind.wrap .i64 (((A.top + 1 : Nat) : Int) + (size : Int)) = ((A.top + 1 + size : Nat) : Int) := by rw [wrapI64 (by omega) (by omega)]; omega
 rw [w2', w3']
 clear h
 obtain ⟨hok, ws, bs, bw, hb, h⟩ := arn_open h2.drew
 dsimp only [arRow] at h
 refine ⟨fun w => ∃ f : Nat -> Nat, Sat (Row b (arRow A ws bs) 108 :: Row ws (wds f A.n) 32 :: Row bs (wds bw (A.n / 64 + 1)) 32 :: F) w, ⟨_, h⟩, ?_⟩
 refine ⟨_, _, _, fun w ⟨f, h⟩ => LdS.of h 0 rfl (off := 0) rfl rfl rfl, ?_⟩
 refine (packed_c (mark := false) (by omega) (by omega) (by omega) (by omega) h).mono ?_
 rintro e w3 ⟨rfl, h3⟩
 refine ⟨_, rfl, ⟨_, h3⟩, ?_⟩
 refine IdxC.of (by omega) (by omega) ?_
 simp only [Int.toNat_natCast, Nat.zero_add, Nat.mul_one]
 refine StC.of h3 1 rfl (off := A.top) (wds_get (by omega)) rfl fun w4 h4 => ?_
 simp only [List.set_cons_succ, List.set_cons_zero] at h4
 rw [wds_set] at h4
 refine ⟨⟨_, h4⟩, ?_⟩
 refine LdS.of h4 0 rfl (off := 0) rfl rfl ?_
 refine SlC.of (A.top + 1) (A.top + 1 + size) A.n rfl rfl rfl (by omega) (by omega) (by omega) ?_
 have hsl : A.top + 1 + size - (A.top + 1) = size := by omega
 rw [hsl]
 have hpk : pack tag refs size false owner < 18446744073709551616 := pack_lt (by omega) (by omega) (by omega) (by omega)
 have fin : ∀ (w5 : World), Sat (Row b (arRow A ws bs) 108 :: Row ws (wds (fun j => if j = A.top then pack tag refs size false owner else if A.top < j /\ j < A.top + 1 + size then 0 else A.wd j) A.n) 32 :: Row bs (wds bw (A.n / 64 + 1)) 32 :: F) w5 ->
   Calls Tryz.prog 133 #[.pointer (some ⟨b, 0, none⟩), .int .i64 (A.top : Int), .bool true] w5 fun e3 w5 => e3 = .returned (.tuple #[]) /\
    LdI .i64 w5 (Addr.add ⟨b, 0, none⟩ 2) fun n1 => StC w5 (Addr.add ⟨b, 0, none⟩ 2) (.int .i64 (IntKind.wrap .i64 (n1 + ((size + 1 : Nat) : Int)))) fun w6 =>
     Ret (.tuple #[.int .i64 (A.top : Int), .int .i64 0]) (Sat (Arn { A with wd := fun j => if j = A.top then pack tag refs size false owner else if A.top < j /\ j < A.top + 1 + size then 0 else A.wd j, bg := upd A.bg A.top true, top := A.top + 1 + size } b :: F)) (.returned (.tuple #[.int .i64 (A.top : Int), .int .i64 0])) w6 := by
  intro w5 h5
  have h6 := arn_shut (A := { A with wd := fun j => if j = A.top then pack tag refs size false owner else if A.top < j /\ j < A.top + 1 + size then 0 else A.wd j }) (bw := bw) ⟨hok.pos, hok.most, fun i => by
   dsimp only
   split
   ·exact hpk
   ·split
    ·omega
    ·exact hok.w64 i, hok.top, hok.low, hok.high⟩ ⟨hb.w64, hb.bit⟩ h5
  refine (set_c h6 (k := A.top) (by dsimp only; omega) true).mono ?_
  rintro e w7 ⟨rfl, h7⟩
  obtain ⟨hok', ws, bs, bw, hb, h⟩ := arn_open h7
  refine ⟨rfl, LdI.of h 0 rfl (off := 2) rfl (by simp [add_mk]) ?_⟩
  refine StC.of h 0 rfl (off := 2) rfl (by simp [add_mk]) fun w8 h8 => ⟨rfl, ?_⟩
  dsimp only at h8
  have e1 : IntKind.wrap .i64 ((A.top : Int) + ((size + 1 : Nat) : Int)) = ((A.top + 1 + size : Nat) : Int) := by rw [wrapI64 (by omega) (by omega)]; omega
  rw [e1] at h8
  exact arn_shut (A := { A with wd := fun j => if j = A.top then pack tag refs size false owner else if A.top < j /\ j < A.top + 1 + size then 0 else A.wd j, bg := upd A.bg A.top true, top := A.top + 1 + size }) (bw := bw) ⟨hok.pos, hok.most, hok'.w64, hr, hok.low, hok.high⟩ ⟨hb.w64, hb.bit⟩ h8
 by_cases hcap : A.n = A.top + 1
 ·have hs0 : size = 0 := by omega
  subst hs0
  have hp : slAddr (some ⟨ws, 0, none⟩) A.n (A.top + 1) 1 = some ⟨ws, 0, none⟩ := by unfold slAddr; rw [if_pos hcap]
  rw [hp]
  refine RunU.clear (e := 32) (z := .int .u64 0) Tryz.underlying25 ⟨_, rfl, rfl⟩ rfl rfl h4 1 rfl (by omega) fun w5 h5 => ?_
  refine fin w5 ?_
  have e1 : (wds (upd A.wd A.top (pack tag refs 0 false owner)) A.n).take 0 ++ List.replicate 0 ((Value.int .u64 0).cells.toList.headD undef) ++ (wds (upd A.wd A.top (pack tag refs 0 false owner)) A.n).drop (0 + 0) = wds (fun j => if j = A.top then pack tag refs 0 false owner else if A.top < j /\ j < A.top + 1 + 0 then 0 else A.wd j) A.n :=
   wds_splice rfl (by omega) (fun i hi => by omega) (fun j _ _ => by
    unfold upd
    split
    ·rfl
    ·rw [if_neg (by omega)])
  rw [e1] at h5
  exact h5
 ·have hp : slAddr (some ⟨ws, 0, none⟩) A.n (A.top + 1) 1 = some ⟨ws, A.top + 1, none⟩ := by unfold slAddr; rw [if_neg hcap]; simp [add_mk]
  rw [hp]
  refine RunU.clear (e := 32) (z := .int .u64 0) Tryz.underlying25 ⟨_, rfl, rfl⟩ rfl rfl h4 1 rfl (by rw [wds_len]; omega) fun w5 h5 => ?_
  refine fin w5 ?_
  have e1 : (wds (upd A.wd A.top (pack tag refs size false owner)) A.n).take (A.top + 1) ++ List.replicate size ((Value.int .u64 0).cells.toList.headD undef) ++ (wds (upd A.wd A.top (pack tag refs size false owner)) A.n).drop (A.top + 1 + size) = wds (fun j => if j = A.top then pack tag refs size false owner else if A.top < j /\ j < A.top + 1 + size then 0 else A.wd j) A.n :=
   wds_splice (List.length_replicate) (by omega) (fun i hi => by
    rw [if_neg (by omega), if_pos (by omega), List.getElem?_replicate_of_lt hi]; rfl) (fun j _ hj => by
    unfold upd
    split
    ·rfl
    ·rw [if_neg (by omega)])
  rw [e1] at h5
  exact h5
theorem made_words (n : Nat) : (madeCells #[.int .u64 0] (n * 1)).toList = wds (fun _ => 0) n := by
 apply List.ext_getElem?
 intro j
 by_cases hj : j < n
 ·rw [madeCells_get _ _ _ (by omega), wds_get hj]; simp [Nat.mod_one]
 ·rw [List.getElem?_eq_none (by simp [madeCells]; omega), List.getElem?_eq_none (by rw [wds_len]; omega)]
theorem arnew_c {n : Nat} (h1 : 1 <= n) (h2 : n <= 1048576) (hs : Sat F w) : Calls Tryz.prog 129 #[.int .i64 (n : Int)] w fun e w' =>
  ∃ b, e = .returned (.tuple #[.pointer (some ⟨b, 0, none⟩), .int .i64 0]) /\ Sat (Arn ⟨n, fun _ => 0, fun _ => false, 0, 0, 0, false⟩ b :: F) w' := by
 refine S_arena_New_ok _ _ _ ?_
 unfold S_arena_New
 refine cond_f (by simp; omega) (cond_f (by simp; omega) ?_)
 have e1 : Int.tdiv (n : Int) 64 = ((n / 64 : Nat) : Int) := by rw [Int.tdiv_eq_ediv_of_nonneg (by omega)]; omega
 rw [e1, wrapI64 (n := ((n / 64 : Nat) : Int)) (by omega) (by omega), wrapI64 (by omega) (by omega)]
 have e2 : ((n / 64 : Nat) : Int) + 1 = ((n / 64 + 1 : Nat) : Int) := by omega
 rw [e2]
 have hok : Ar.Ok ⟨n, fun _ => 0, fun _ => false, 0, 0, 0, false⟩ := ⟨h1, h2, fun _ => by dsimp only; omega, Nat.zero_le _, Nat.zero_le _, Nat.zero_le _⟩
 have hbits : Bits ⟨n, fun _ => 0, fun _ => false, 0, 0, 0, false⟩ (fun _ => 0) := ⟨fun _ => by omega, fun i _ => by simp⟩
 refine ⟨fun _ => True, trivial, by omega, ?_, ?_⟩
 ·refine RunS.make eok_ws #[.int .u64 0] (by kernel_rfl) hs.drew (by omega) (by omega) (by omega) (by omega) fun ws w1 hs1 => ⟨trivial, ?_⟩
  refine RunS.make eok_ws #[.int .u64 0] (by kernel_rfl) hs1 (by omega) (by omega) (by omega) (by omega) fun bs w2 hs2 => ⟨trivial, ?_⟩
  refine NewC.ofRow hs2 fun b w3 hs3 => ⟨trivial, b, rfl, ?_⟩
  simp only [Int.toNat_natCast] at hs3
  rw [made_words, made_words] at hs3
  refine arn_shut (ws := ws) (bs := bs) hok hbits ?_
  have h4 := hs3.pull 2 rfl
  exact h4.pull 1 rfl
 ·refine RunS.make eok_ws #[.int .u64 0] (by kernel_rfl) hs.drew (by omega) (by omega) (by omega) (by omega) fun bs w1 hs1 => ⟨trivial, ?_⟩
  refine RunS.make eok_ws #[.int .u64 0] (by kernel_rfl) hs1 (by omega) (by omega) (by omega) (by omega) fun ws w2 hs2 => ⟨trivial, ?_⟩
  refine NewC.ofRow hs2 fun b w3 hs3 => ⟨trivial, b, rfl, ?_⟩
  simp only [Int.toNat_natCast] at hs3
  rw [made_words, made_words] at hs3
  exact arn_shut (ws := ws) (bs := bs) hok hbits hs3
end
end Go.Proofs.YtpicofkhioalkaaGreat
