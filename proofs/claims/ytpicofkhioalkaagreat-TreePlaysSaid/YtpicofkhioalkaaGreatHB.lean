
/- What the laws of chapter 9 have in common: a fresh heap; no watcher; the law 'awake'. -/
import Derived.Test.YtpicofkhioalkaaGreatHc
import Derived.Test.YtpicofkhioalkaaGreatG2
import Derived.Test.YtpicofkhioalkaaGreatLx
import Derived.Test.YtpicofkhioalkaaGreatLaw
set_option maxRecDepth 100000
namespace Go.Proofs.YtpicofkhioalkaaGreat
open Go Go.Lw Go.Wd Go.Am Go.Tb Go.Hm
theorem own : ownKnob Tryz.prog.godebug = none := by kernel_rfl
theorem laidOut : laidOutB Tryz.prog = true := by kernel_rfl
section
variable {H : Hp} {b : Nat} {F : List HP} {w : World}
theorem mk_c (hs : Sat (HeapH H .nilIface b :: F) w) {tag refs size : Nat} (hE : Hp.makeE H tag refs size = 0) :
  Calls Tryz.prog 37 #[.pointer (some ⟨b, 0, none⟩), .int .i64 (tag : Int), .int .i64 (refs : Int), .int .i64 (size : Int)] w (Ret (.tuple #[.int .u64 (nextH H.t : Nat), .int .i64 0]) (Sat (HeapH (H.made tag refs size) .nilIface b :: F))) :=
 make_yes hs hE fun _ h => .none h
theorem sref_c (hs : Sat (HeapH H .nilIface b :: F) w) {x : Nat} (hx : x < 18446744073709551616) (i : Int) {y : Nat} (hy : y < 18446744073709551616) :
  Calls Tryz.prog 38 #[.pointer (some ⟨b, 0, none⟩), .int .u64 (x : Int), .int .i64 i, .int .u64 (y : Int)] w
  (Ret (.int .i64 (Hp.refE H x i y : Nat)) (Sat (HeapH (if Hp.refE H x i y = 0 then Hp.setRef H x i y else H) .nilIface b :: F))) := by
 refine (setref_c hs hx i hy (Q := Sat (HeapH (Hp.setRef H x i y) .nilIface b :: F)) fun _ w' h => ?_).mono fun e w' ⟨he, h⟩ => ⟨he, ?_⟩
 ·split
  ·exact h
  ·exact .none h
 ·unfold Post at h
  split at h
  ·rename_i e; rw [if_pos e]; exact h
  ·rename_i e; rw [if_neg e]; exact h
theorem sroot_c (hs : Sat (HeapH H .nilIface b :: F) w) (i : Int) {y : Nat} (hy : y < 18446744073709551616) :
  Calls Tryz.prog 36 #[.pointer (some ⟨b, 0, none⟩), .int .i64 i, .int .u64 (y : Int)] w
  (Ret (.int .i64 (Hp.rootE H i y : Nat)) (Sat (HeapH (if Hp.rootE H i y = 0 then H.rooted i.toNat y else H) .nilIface b :: F))) := by
 refine (setroot_c hs i hy (Q := Sat (HeapH (H.rooted i.toNat y) .nilIface b :: F)) fun _ w' h => ?_).mono fun e w' ⟨he, h⟩ => ⟨he, ?_⟩
 ·split
  ·exact h
  ·exact .none h
 ·unfold Post at h
  split at h
  ·rename_i e; rw [if_pos e]; exact h
  ·rename_i e; rw [if_neg e]; exact h
end
theorem sat_wf {H : Hp} {v : Value} {b : Nat} {F : List HP} {w : World} (hs : Sat (HeapH H v b :: F) w) : H.WF := (heap_open hs).1
section
variable {L : List HP} {w W : World} {K : Int -> Prop}
theorem own_word {p : Option Addr} {l c j x : Nat} {xs : List Nat} {i : Int} (hs : Sat L w) (q : Nat) (hq : L[q]? = some (Own 32 1 p l c (words xs))) (hl : l = xs.length) (hj : xs[j]? = some x) (hi : i = j) (h : K x) :
  IdxC p l i 1 fun a => LdI .u64 w a K := by
 subst hi
 have hlt := get_lt hj
 refine IdxC.ownAt hs q hq (by omega) fun g hp => ?_
 exact LdI.at (Sat.ownAt hs q hq hp (off := j * 1) (by rw [Nat.mul_one]; simp [words, hj])) h
theorem own_wordQ {C : World -> Prop} {p : Option Addr} {l c j x : Nat} {xs : List Nat} {i : Int} (hs : Sat L w) (q : Nat) (hq : L[q]? = some (Own 32 1 p l c (words xs))) (hC : ∀ w, C w -> ∃ (L' : List HP) (q' : Nat), Sat L' w /\ L'[q']? = some (Own 32 1 p l c (words xs))) (hl : l = xs.length) (hj : xs[j]? = some x) (hi : i = j) (h : K x) :
  IdxC p l i 1 fun a => LdIQ .u64 C a K := by
 subst hi
 have hlt := get_lt hj
 refine IdxC.ownAt hs q hq (by omega) fun g hp => ?_
 refine ⟨_, fun w hw => ?_, h⟩
 obtain ⟨L', q', h1, h2⟩ := hC w hw
 exact LdI.at (Sat.ownAt h1 q' h2 hp (off := j * 1) (by rw [Nat.mul_one]; simp [words, hj])) rfl
end
section
variable {H : Hp} {b : Nat} {F : List HP} {w : World}
theorem swd_c (hs : Sat (HeapH H .nilIface b :: F) w) {x i y : Nat} {o : Ob} {j : Int} (hl : H.look x = some o) (hi : o.refs + i < o.w.length) (hj : j = i) (hy : y < 18446744073709551616) :
  Calls Tryz.prog 39 #[.pointer (some ⟨b, 0, none⟩), .int .u64 (x : Int), .int .i64 j, .int .u64 (y : Int)] w (Ret (.int .i64 0) (Sat (HeapH (H.set x (o.put (o.refs + i) y)) .nilIface b :: F))) := by
 subst hj
 have hm := sat_wf hs
 have hE : Hp.wordE H x (i : Int) = 0 := by simp only [Hp.wordE, hl]; rw [if_pos (by omega)]
 refine (setword_c hs (look_lt hm hl) i hy).mono fun e w' ⟨he, h⟩ => ⟨he.trans (by rw [hE]; rfl), ?_⟩
 rw [if_pos hE] at h
 simpa only [Hp.setWord, hl, Int.toNat_natCast] using h
theorem srf_c (hs : Sat (HeapH H .nilIface b :: F) w) {x i y : Nat} {o : Ob} {j : Int} (hl : H.look x = some o) (hi : i < o.refs) (hj : j = i) (hy : y < 18446744073709551616) (hmy : H.may y = true) :
  Calls Tryz.prog 38 #[.pointer (some ⟨b, 0, none⟩), .int .u64 (x : Int), .int .i64 j, .int .u64 (y : Int)] w (Ret (.int .i64 0) (Sat (HeapH (H.set x (o.put i y)) .nilIface b :: F))) := by
 subst hj
 have hm := sat_wf hs
 have hE : Hp.refE H x (i : Int) y = 0 := by simp only [Hp.refE, hl]; rw [if_pos (by omega), if_pos hmy]
 refine (sref_c hs (look_lt hm hl) i hy).mono fun e w' ⟨he, h⟩ => ⟨he.trans (by rw [hE]; rfl), ?_⟩
 rw [if_pos hE] at h
 simpa only [Hp.setRef, hl, Int.toNat_natCast] using h
theorem gwd_c {v : Value} (hs : Sat (HeapH H v b :: F) w) {x i y : Nat} {o : Ob} {j : Int} (hl : H.look x = some o) (hi : o.w[o.refs + i]? = some y) (hj : j = i) :
  Calls Tryz.prog 110 #[.pointer (some ⟨b, 0, none⟩), .int .u64 (x : Int), .int .i64 j] w (Ret (.tuple #[.int .u64 (y : Int), .int .i64 0]) (Sat (HeapH H v b :: F))) := by
 subst hj
 have hlt := get_lt hi
 refine (hword_c hs (look_lt (sat_wf hs) hl) i).mono fun e w' ⟨he, h⟩ => ⟨he.trans ?_, h⟩
 simp only [Hp.word, hl]
 rw [if_pos (by omega), List.getD_eq_getElem?_getD, Int.toNat_natCast, hi]
 rfl
theorem grf_c {v : Value} (hs : Sat (HeapH H v b :: F) w) {x i y : Nat} {o : Ob} {j : Int} (hl : H.look x = some o) (hr : i < o.refs) (hi : o.w[i]? = some y) (hj : j = i) :
  Calls Tryz.prog 83 #[.pointer (some ⟨b, 0, none⟩), .int .u64 (x : Int), .int .i64 j] w (Ret (.tuple #[.int .u64 (y : Int), .int .i64 0]) (Sat (HeapH H v b :: F))) := by
 subst hj
 refine (href_c hs (look_lt (sat_wf hs) hl) i).mono fun e w' ⟨he, h⟩ => ⟨he.trans ?_, h⟩
 simp only [Hp.ref, hl]
 rw [if_pos (by omega), List.getD_eq_getElem?_getD, Int.toNat_natCast, hi]
 rfl
theorem grt_c {v : Value} (hs : Sat (HeapH H v b :: F) w) {i y : Nat} {j : Int} (hi : H.roots[i]? = some y) (hj : j = i) :
  Calls Tryz.prog 114 #[.pointer (some ⟨b, 0, none⟩), .int .i64 j] w (Ret (.tuple #[.int .u64 (y : Int), .int .i64 0]) (Sat (HeapH H v b :: F))) := by
 subst hj
 have hlt := get_lt hi
 have hl := (sat_wf hs).rlen
 refine (hroot_c hs i).mono fun e w' ⟨he, h⟩ => ⟨he.trans ?_, h⟩
 simp only [Hp.root]
 rw [if_pos (by omega), List.getD_eq_getElem?_getD, Int.toNat_natCast, hi]
 rfl
end
theorem makeE_of {H : Hp} {tag refs size : Nat} (h1 : 1 <= tag /\ tag <= 255) (h2 : size <= 4096) (h3 : refs <= size) (h4 : H.m.top + 1 + size <= H.m.n) (h5 : H.t.count < H.t.n) : Hp.makeE H tag refs size = 0 := by
 unfold Hp.makeE; rw [if_pos (by omega), if_neg (by omega)]
theorem not_full {H : Hp} (hm : H.WF) (h : H.t.count < H.t.n) : ¬ H.t.full := fun hf => by have := (full_count hm.tab).2 hf; omega
theorem fresh_c {n k : Nat} (h1 : 1 <= n) (h2 : n <= 1048576) (h3 : 1 <= k) (h4 : k <= 1048576) {F : List HP} {w : World} (hs : Sat F w) : Calls Tryz.prog 34 #[.int .i64 (n : Int), .int .i64 (k : Int)] w fun e w' =>
  ∃ b, e = .returned (.pointer (some ⟨b, 0, none⟩)) /\ Sat (HeapH (Hp.new n k) .nilIface b :: F) w' := by
 refine S_law9_Fresh_ok _ _ _ _ ?_
 unfold S_law9_Fresh
 refine (heap_new_c h1 h2 h3 h4 hs).mono ?_
 rintro e w1 ⟨b, rfl, s1⟩
 exact ⟨_, _, rfl, cond_f rfl ⟨b, rfl, s1⟩⟩
end Go.Proofs.YtpicofkhioalkaaGreat
