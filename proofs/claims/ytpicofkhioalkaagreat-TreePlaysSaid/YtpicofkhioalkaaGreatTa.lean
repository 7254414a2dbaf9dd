
/- Trees: what the small readers of package tree come to, over a heap as data. -/
import Derived.Test.YtpicofkhioalkaaGreatHB
import Derived.Test.YtpicofkhioalkaaGreatKd
set_option maxRecDepth 100000
namespace Go.Hm
def Hp.ov (H : Hp) (x : Nat) : Option Ov := (H.look x).map fun o => ⟨o.tag, o.refs, o.w⟩
theorem ov_some {H : Hp} {x : Nat} {o : Ov} (h : H.ov x = some o) : ∃ p, H.look x = some p /\ p.tag = o.tag /\ p.refs = o.refs /\ p.w = o.w := by
 unfold Hp.ov at h
 cases hl : H.look x with
 | none => rw [hl] at h; cases h
 | some p => rw [hl] at h; simp only [Option.map_some, Option.some.injEq] at h; subst h; exact ⟨p, rfl, rfl, rfl, rfl⟩
end Go.Hm
namespace Go.Proofs.YtpicofkhioalkaaGreat
open Go Go.Lw Go.Wd Go.Am Go.Tb Go.Hm Go.Kd
abbrev trv (b t : Nat) : Value := .agg #[.pointer (some ⟨b, 0, none⟩), .int .u64 (t : Int)]
def trc (b t : Nat) : List Value := [.pointer (some ⟨b, 0, none⟩), .int .u64 (t : Int)]
section
variable {w : World}
theorem must_c (e : Int) {b : Bool} (h : b = true) : Calls Tryz.prog 47 #[.bool b, .int .i64 e] w fun x w' => x = .returned (.tuple #[]) /\ w' = w := by
 subst h
 refine S_tree_must_ok _ _ _ _ ?_
 unfold S_tree_must
 exact cond_f rfl ⟨rfl, rfl⟩
theorem right_c : Calls Tryz.prog 109 #[.int .i64 0] w fun x w' => x = .returned (.tuple #[]) /\ w' = w := by
 refine S_tree_right_ok _ _ _ ?_
 unfold S_tree_right
 refine (must_c 4 (b := ((0 : Int) == 0)) rfl).mono ?_
 rintro e w1 ⟨rfl, rfl⟩
 exact ⟨rfl, rfl, rfl⟩
end
section
variable {H : Hp} {v : Value} {b : Nat} {F : List HP} {w : World}
theorem thead_c (hs : Sat (HeapH H v b :: F) w) {x : Nat} {o : Ov} (ho : H.ov x = some o) : Calls Tryz.prog 82 #[.pointer (some ⟨b, 0, none⟩), .int .u64 (x : Int)] w
  (Ret (.tuple #[.int .i64 (o.tag : Nat), .int .i64 (o.refs : Nat), .int .i64 (o.w.length : Nat), .int .i64 0]) (Sat (HeapH H v b :: F))) := by
 obtain ⟨p, hl, h1, h2, h3⟩ := ov_some ho
 refine (hhead_c hs (look_lt (sat_wf hs) hl)).mono fun e w' ⟨he, h⟩ => ⟨he.trans ?_, h⟩
 rw [hl]
 simp only [h1, h2, h3]
theorem ghead_no (hs : Sat (HeapH H v b :: F) w) {x : Nat} (hx : x < 18446744073709551616) (ho : H.ov x = none) : Calls Tryz.prog 82 #[.pointer (some ⟨b, 0, none⟩), .int .u64 (x : Int)] w
  (Ret (.tuple #[.int .i64 0, .int .i64 0, .int .i64 0, .int .i64 6]) (Sat (HeapH H v b :: F))) := by
 refine (hhead_c hs hx).mono fun e w' ⟨he, h⟩ => ⟨he.trans ?_, h⟩
 have : H.look x = none := by
  unfold Hp.ov at ho
  cases hl : H.look x with
  | none => rfl
  | some p => rw [hl] at ho; cases ho
 rw [this]
theorem ov_lt (hs : Sat (HeapH H v b :: F) w) {x : Nat} {o : Ov} (ho : H.ov x = some o) : x < 18446744073709551616 := by
 obtain ⟨p, hl, _⟩ := ov_some ho
 exact look_lt (sat_wf hs) hl
theorem tgref_c (hs : Sat (HeapH H v b :: F) w) {x i y : Nat} {o : Ov} {j : Int} (ho : H.ov x = some o) (hr : i < o.refs) (hi : o.w[i]? = some y) (hj : j = i) :
  Calls Tryz.prog 83 #[.pointer (some ⟨b, 0, none⟩), .int .u64 (x : Int), .int .i64 j] w (Ret (.tuple #[.int .u64 (y : Int), .int .i64 0]) (Sat (HeapH H v b :: F))) := by
 obtain ⟨p, hl, h1, h2, h3⟩ := ov_some ho
 exact grf_c hs hl (by omega) (by rw [h3]; exact hi) hj
theorem tgword_c (hs : Sat (HeapH H v b :: F) w) {x i y : Nat} {o : Ov} {j : Int} (ho : H.ov x = some o) (hi : o.w[o.refs + i]? = some y) (hj : j = i) :
  Calls Tryz.prog 110 #[.pointer (some ⟨b, 0, none⟩), .int .u64 (x : Int), .int .i64 j] w (Ret (.tuple #[.int .u64 (y : Int), .int .i64 0]) (Sat (HeapH H v b :: F))) := by
 obtain ⟨p, hl, h1, h2, h3⟩ := ov_some ho
 exact gwd_c hs hl (by rw [h2, h3]; exact hi) hj
theorem tref_c (hs : Sat (HeapH H v b :: F) w) (t : Nat) {x i y : Nat} {o : Ov} {j : Int} (ho : H.ov x = some o) (hr : i < o.refs) (hi : o.w[i]? = some y) (hj : j = i) :
  Calls Tryz.prog 135 #[trv b t, .int .u64 (x : Int), .int .i64 j] w (Ret (.int .u64 (y : Int)) (Sat (HeapH H v b :: F))) := by
 refine S_tree_tree_ref_ok _ _ _ _ _ _ ?_
 unfold S_tree_tree_ref
 refine NewC.ofRow hs fun c w1 h1 => ?_
 refine LdP.of h1 0 rfl (off := 0) rfl rfl ?_
 refine (tgref_c (h1.pull 1 rfl) ho hr hi hj).mono ?_
 rintro e w2 ⟨rfl, h2⟩
 refine ⟨_, _, rfl, ?_⟩
 refine right_c.mono ?_
 rintro e w3 ⟨rfl, rfl⟩
 exact ⟨rfl, rfl, (Sat.p1 h2).drop⟩
theorem tword_c (hs : Sat (HeapH H v b :: F) w) (t : Nat) {x i y : Nat} {o : Ov} {j : Int} (ho : H.ov x = some o) (hi : o.w[o.refs + i]? = some y) (hy : y <= 1073741824) (hj : j = i) :
  Calls Tryz.prog 104 #[trv b t, .int .u64 (x : Int), .int .i64 j] w (Ret (.int .i64 (y : Int)) (Sat (HeapH H v b :: F))) := by
 refine S_tree_tree_word_ok _ _ _ _ _ _ ?_
 unfold S_tree_tree_word
 refine NewC.ofRow hs fun c w1 h1 => ?_
 refine LdP.of h1 0 rfl (off := 0) rfl rfl ?_
 refine (tgword_c (h1.pull 1 rfl) ho hi hj).mono ?_
 rintro e w2 ⟨rfl, h2⟩
 refine ⟨_, _, rfl, ?_⟩
 refine right_c.mono ?_
 rintro e w3 ⟨rfl, rfl⟩
 refine ⟨rfl, ?_⟩
 refine (must_c 4 (by simp; omega)).mono ?_
 rintro e w3 ⟨rfl, rfl⟩
 refine ⟨rfl, ?_, (Sat.p1 h2).drop⟩
 rw [wrapI64 (by omega) (by omega)]
theorem ttop_c (hs : Sat (HeapH H v b :: F) w) {t top n d : Nat} (ho : H.ov t = some (treeO top n d)) :
  Calls Tryz.prog 93 #[trv b t] w (Ret (.int .u64 (top : Int)) (Sat (HeapH H v b :: F))) := by
 refine S_tree_tree_top_ok _ _ _ _ ?_
 unfold S_tree_tree_top
 refine NewC.ofRow hs fun c w1 h1 => ?_
 refine LdP.of h1 0 rfl (off := 0) rfl rfl (LdI.of h1 0 rfl (off := 1) rfl (add_mk _ _ _) (LdI.of h1 0 rfl (off := 1) rfl (add_mk _ _ _) ?_))
 refine (tref_c (h1.pull 1 rfl) t (i := 0) ho (by show 0 < 1; omega) rfl rfl).mono ?_
 rintro e w2 ⟨rfl, h2⟩
 exact ⟨_, rfl, rfl, (Sat.p1 h2).drop⟩
theorem tcount_c (hs : Sat (HeapH H v b :: F) w) {t top n d : Nat} (ho : H.ov t = some (treeO top n d)) (hn : n <= 1073741824) :
  Calls Tryz.prog 51 #[trv b t] w (Ret (.int .i64 (n : Int)) (Sat (HeapH H v b :: F))) := by
 refine S_tree_tree_count_ok _ _ _ _ ?_
 unfold S_tree_tree_count
 refine NewC.ofRow hs fun c w1 h1 => ?_
 refine LdP.of h1 0 rfl (off := 0) rfl rfl (LdI.of h1 0 rfl (off := 1) rfl (add_mk _ _ _) (LdI.of h1 0 rfl (off := 1) rfl (add_mk _ _ _) ?_))
 refine (tword_c (h1.pull 1 rfl) t (i := 0) ho rfl hn rfl).mono ?_
 rintro e w2 ⟨rfl, h2⟩
 exact ⟨_, rfl, rfl, (Sat.p1 h2).drop⟩
theorem tdepth_c (hs : Sat (HeapH H v b :: F) w) {t top n d : Nat} (ho : H.ov t = some (treeO top n d)) (hd : d <= 12) :
  Calls Tryz.prog 94 #[trv b t] w (Ret (.int .i64 (d : Int)) (Sat (HeapH H v b :: F))) := by
 refine S_tree_tree_depth_ok _ _ _ _ ?_
 unfold S_tree_tree_depth
 refine NewC.ofRow hs fun c w1 h1 => ?_
 refine LdP.of h1 0 rfl (off := 0) rfl rfl (LdI.of h1 0 rfl (off := 1) rfl (add_mk _ _ _) (LdI.of h1 0 rfl (off := 1) rfl (add_mk _ _ _) ?_))
 refine (tword_c (h1.pull 1 rfl) t (i := 1) ho rfl (by omega) rfl).mono ?_
 rintro e w2 ⟨rfl, h2⟩
 refine ⟨_, rfl, ?_⟩
 refine (must_c 4 (by simp; omega)).mono ?_
 rintro e w3 ⟨rfl, rfl⟩
 exact ⟨rfl, rfl, (Sat.p1 h2).drop⟩
theorem troom_c (hs : Sat (HeapH H v b :: F) w) {t top n d : Nat} (ho : H.ov t = some (treeO top n d)) (hd : d <= 12) {k : Nat} (hk : k <= 1048576) :
  Calls Tryz.prog 46 #[trv b t, .int .i64 (k : Int)] w (Ret (.tuple #[.int .i64 ((26 * (d + 1) + 3 + k / 8 : Nat) : Int), .int .i64 ((d + 2 : Nat) : Int)]) (Sat (HeapH H v b :: F))) := by
 refine S_tree_tree_room_ok _ _ _ _ _ ?_
 unfold S_tree_tree_room
 refine NewC.ofRow hs fun c w1 h1 => ?_
 refine LdP.of h1 0 rfl (off := 0) rfl rfl (LdI.of h1 0 rfl (off := 1) rfl (add_mk _ _ _) ?_)
 refine (tdepth_c (h1.pull 1 rfl) ho hd).mono ?_
 rintro e w2 ⟨rfl, h2⟩
 refine ⟨_, rfl, by decide, ?_⟩
 refine ⟨?_, (Sat.p1 h2).drop⟩
 have e8 : Int.tdiv (k : Int) 8 = ((k / 8 : Nat) : Int) := tdiv_nat k 8
 have hk8 : k / 8 <= 1048576 := by omega
 rw [e8, wrapI64 (n := (d : Int) + 1) (by omega) (by omega), wrapI64 (n := ((d : Int) + 1) * 26) (by omega) (by omega), wrapI64 (n := ((d : Int) + 1) * 26 + 3) (by omega) (by omega),
  wrapI64 (n := ((k / 8 : Nat) : Int)) (by omega) (by omega), wrapI64 (n := ((d : Int) + 1) * 26 + 3 + ((k / 8 : Nat) : Int)) (by omega) (by omega), wrapI64 (n := (d : Int) + 1 + 1) (by omega) (by omega)]
 congr 5
 ·omega
end
def ofE (H : Hp) (t l : Nat) : Nat := match H.ov t with
 | none => 6
 | some o => if o.tag ≠ 20 then 7 else if 16384 < l then 1 else if o.refs ≠ 1 ∨ o.w.length ≠ 3 then 4 else 0
theorem treeof_c {H : Hp} {v : Value} {b : Nat} {F : List HP} {w : World} (hs : Sat (HeapH H v b :: F) w) {t : Nat} (ht : t < 18446744073709551616) (kp : Option Addr) (kl kc : Nat) :
  Calls Tryz.prog 40 #[.pointer (some ⟨b, 0, none⟩), .int .u64 (t : Int), .slice kp kl kc] w
   (Ret (.tuple #[if ofE H t kl = 0 then trv b t else .agg #[.pointer none, .int .u64 0], .int .i64 (ofE H t kl : Nat)]) (Sat (HeapH H v b :: F))) := by
 refine S_tree_of_ok _ _ _ _ _ _ _ ?_
 unfold S_tree_of
 refine NewC.ofRow hs fun c w1 h1 => ?_
 have h1 := h1.pull 1 rfl
 have no : ∀ (k : Int) (w2 : World), ofE H t kl ≠ 0 -> k = (ofE H t kl : Nat) -> Sat (HeapH H v b :: Row c [.pointer none, .int .u64 0] 73 :: F) w2 ->
   StC w2 (⟨c, 0, none⟩) (.pointer none) fun w3 => StC w3 (Addr.add (⟨c, 0, none⟩) 1) (.int .u64 0) fun w4 => LdP w4 (⟨c, 0, none⟩) fun p => LdI .u64 w4 (Addr.add (⟨c, 0, none⟩) 1) fun n =>
    Ret (.tuple #[if ofE H t kl = 0 then trv b t else .agg #[.pointer none, .int .u64 0], .int .i64 (ofE H t kl : Nat)]) (Sat (HeapH H v b :: F)) (.returned (.tuple #[.agg #[.pointer p, .int .u64 n], .int .i64 k])) w4 := by
  intro k w2 h0 hk h2
  refine StC.of h2 1 rfl (off := 0) rfl rfl fun w3 h3 => StC.of h3 1 rfl (off := 1) rfl (add_mk _ _ _) fun w4 h4 => ?_
  refine LdP.of h4 1 rfl (off := 0) rfl rfl (LdI.of h4 1 rfl (off := 1) rfl (add_mk _ _ _) ⟨?_, (Sat.p1 h4).drop⟩)
  rw [if_neg h0, hk]
 cases ho : H.ov t with
 | none =>
  refine (ghead_no h1 ht ho).mono ?_
  rintro e w2 ⟨rfl, h2⟩
  exact ⟨_, _, _, _, rfl, cond_t rfl (no 6 w2 (by simp [ofE, ho]) (by simp [ofE, ho]) h2)⟩
 | some o =>
  refine (thead_c h1 ho).mono ?_
  rintro e w2 ⟨rfl, h2⟩
  refine ⟨_, _, _, _, rfl, cond_f rfl ?_⟩
  by_cases e1 : o.tag = 20
  ·refine cond_f (by simp [e1]) ?_
   by_cases e2 : 16384 < kl
   ·exact cond_t (by simp; omega) (no 1 w2 (by simp [ofE, ho, e1, e2]) (by simp [ofE, ho, e1, e2]) h2)
   ·refine cond_f (by simp; omega) ?_
    by_cases e3 : o.refs = 1
    ·refine cond_f (by simp [e3]) ?_
     by_cases e4 : o.w.length = 3
     ·refine cond_f (by simp [e4]) ?_
      have hz : ofE H t kl = 0 := by simp [ofE, ho, e1, e2, e3, e4]
      refine StC.of h2 1 rfl (off := 0) rfl rfl fun w3 h3 => StC.of h3 1 rfl (off := 1) rfl (add_mk _ _ _) fun w4 h4 => ?_
      refine LdP.of h4 1 rfl (off := 0) rfl rfl (LdI.of h4 1 rfl (off := 1) rfl (add_mk _ _ _) ⟨?_, (Sat.p1 h4).drop⟩)
      rw [if_pos hz, hz]; rfl
     ·exact cond_t (by simp; omega) (no 4 w2 (by simp [ofE, ho, e1, e2, e3, e4]) (by simp [ofE, ho, e1, e2, e3, e4]) h2)
    ·exact cond_t (by simp; omega) (no 4 w2 (by simp [ofE, ho, e1, e2, e3]) (by simp [ofE, ho, e1, e2, e3]) h2)
  ·exact cond_t (by simp; omega) (no 7 w2 (by simp [ofE, ho, e1]) (by simp [ofE, ho, e1]) h2)
end Go.Proofs.YtpicofkhioalkaaGreat
