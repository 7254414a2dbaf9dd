/- 'NetKnown' answers true: chapter 24's examples. No conditions. -/
import Derived.Test.YtjpaoggcphfjeaaNBare
namespace Go.Proofs.Ytjpaoggcphfjeaa
open Go Go.Lw Go.Tb Go.Wd Go.ChangeShapes Go.WideShapes Go.ChangeAt Go.RowKit

section
variable {T : MT} {s : T.σ} {N : Nt T.α} {b : Nat} {F : List HP} {w : World}
theorem pick_ok (hs : Sat (NetP T s N b :: F) w) {k : Nat} {x : Nat × T.α} (hx : N.l[k % N.l.length]? = some x) : Calls Try.prog 14 #[.pointer (some ⟨b, 0, none⟩), .int .i64 (k : Int)] w (Ret (.tuple #[.int .i64 (x.1 : Nat), .int .i64 0]) (Sat (NetP T s N b :: F))) := by
  have h0 : N.l ≠ [] := fun h => by rw [h] at hx; simp at hx
  refine (pick_c hs k).mono fun e w' ⟨he, h⟩ => ⟨he.trans ?_, h⟩
  rw [if_neg h0, if_neg (by omega), Int.toNat_natCast, hx]
theorem pick_no (hs : Sat (NetP T s N b :: F) w) {k : Int} (h0 : N.l = []) : Calls Try.prog 14 #[.pointer (some ⟨b, 0, none⟩), .int .i64 k] w (Ret (.tuple #[.int .i64 0, .int .i64 17]) (Sat (NetP T s N b :: F))) := by
  refine (pick_c hs k).mono fun e w' ⟨he, h⟩ => ⟨he.trans ?_, h⟩
  rw [if_pos h0]
end
section
variable {N : Nt Bare.α} {b : Nat} {F : List HP} {w : World}
theorem copyB (hs : Sat (NetB N b :: F) w) (h1 : N.last + 1 < 9223372036854775808) {i : Nat} {y : Nat × Bare.α} (hy : N.l[i]? = some y) (hf : N.l.length < N.most) :
    Calls Try.prog 16 #[.pointer (some ⟨b, 0, none⟩), .int .i64 (y.1 : Int)] w (Ret (.tuple #[.int .i64 ((N.last + 1 : Nat) : Int), .int .i64 0]) (Sat (NetB (N.add y.2) b :: F))) := by
  have h0 : Sat (NetP Bare () N b :: Bare.Kp () :: F) w := (addEmp hs).pull 1 rfl
  have hu := netWF hs
  have hi := hu.ids y (List.mem_of_getElem? hy)
  refine (copy_c (T := Bare) h0 h1 (id := (y.1 : Int)) (by omega)).mono fun e w' h => ?_
  rcases h with ⟨hn, _⟩ | ⟨j, z, hz, hzi, h⟩
  · exact absurd rfl (hn y (List.mem_of_getElem? hy))
  · have hlt := get_lt hy
    have hlt2 := get_lt hz
    have hij : j = i := by
      rcases Nat.lt_trichotomy i j with h | h | h
      · have := List.pairwise_iff_getElem.1 hu.up i j hlt hlt2 h
        rw [List.getElem?_eq_getElem hlt] at hy
        rw [List.getElem?_eq_getElem hlt2] at hz
        cases hy; cases hz; omega
      · exact h.symm
      · have := List.pairwise_iff_getElem.1 hu.up j i hlt2 hlt h
        rw [List.getElem?_eq_getElem hlt] at hy
        rw [List.getElem?_eq_getElem hlt2] at hz
        cases hy; cases hz; omega
    subst hij
    rw [hy] at hz
    cases hz
    rw [if_neg (by omega)] at h
    obtain ⟨_, _, he, h⟩ := h
    exact ⟨he, (h.pull 1 rfl).drop⟩
theorem takeB_no (hs : Sat (NetB N b :: F) w) (h1 : N.last < 9223372036854775808) {id : Int} (hid : -9223372036854775808 ≤ id ∧ id ≤ 9223372036854775807) (hn : ∀ y ∈ N.l, (y.1 : Int) ≠ id) :
    Calls Try.prog 15 #[.pointer (some ⟨b, 0, none⟩), .int .i64 id] w (Ret (.tuple #[msg0.agg, .int .i64 8]) (Sat (NetB N b :: F))) := by
  refine (take_c hs h1 hid).mono fun e w' h => ?_
  rcases h with ⟨_, h⟩ | ⟨j, z, m, hz, hzi, _⟩
  · exact h
  · exact absurd hzi (hn z (List.mem_of_getElem? hz))
theorem sendB_full (hs : Sat (NetB N b :: F) w) (x y n : Int) (h1 : N.last + 1 < 9223372036854775808) (h2 : N.lost + 1 < 9223372036854775808) (ho : N.off (min x y) (max x y) = false) (hf : N.most ≤ N.l.length) :
    Calls Try.prog 11 #[.pointer (some ⟨b, 0, none⟩), (msgOf x y n).agg] w (Ret (.tuple #[.int .i64 0, .int .i64 5]) (Sat (NetB N.lose b :: F))) := by
  refine (sendB hs x y n h1 h2).mono fun e w' h => ?_
  rw [if_neg (by rw [ho]; simp), if_pos hf] at h
  exact h
theorem sendB_off (hs : Sat (NetB N b :: F) w) (x y n : Int) (h1 : N.last + 1 < 9223372036854775808) (h2 : N.lost + 1 < 9223372036854775808) (ho : N.off (min x y) (max x y) = true) :
    Calls Try.prog 11 #[.pointer (some ⟨b, 0, none⟩), (msgOf x y n).agg] w (Ret (.tuple #[.int .i64 0, .int .i64 0]) (Sat (NetB N.lose b :: F))) := by
  refine (sendB hs x y n h1 h2).mono fun e w' h => ?_
  rw [if_pos ho] at h
  exact h
end

theorem known_c {F : List HP} {w : World} (hs : Sat F w) : Calls Try.prog 4 #[] w (Ret (.bool true) (Sat F)) := by
  refine S_law24_NetKnown_ok _ _ ?_
  unfold S_law24_NetKnown
  refine (awake_c hs).mono ?_
  rintro e w0 ⟨rfl, h0⟩
  refine ⟨_, rfl, cond_f rfl ?_⟩
  refine (fresh_c (n := 2) (by omega) (by omega) h0).mono ?_
  rintro e w1 ⟨b, rfl, h1⟩
  refine ⟨_, rfl, ?_⟩
  refine (msg_c 0 1 1 h1).mono ?_
  rintro e w2 ⟨rfl, h2⟩
  refine ⟨_, _, _, _, _, _, _, _, _, _, _, _, _, _, _, _, _, _, _, _, _, _, _, rfl, ?_⟩
  refine (sendB_ok h2 0 1 1 (by decide) (by decide) rfl (by decide)).mono ?_
  rintro e w3 ⟨rfl, h3⟩
  refine ⟨_, _, rfl, ?_⟩
  refine (msg_c 0 1 2 h3).mono ?_
  rintro e w4 ⟨rfl, h4⟩
  refine ⟨_, _, _, _, _, _, _, _, _, _, _, _, _, _, _, _, _, _, _, _, _, _, _, rfl, ?_⟩
  refine (sendB_ok h4 0 1 2 (by decide) (by decide) rfl (by decide)).mono ?_
  rintro e w5 ⟨rfl, h5⟩
  refine ⟨_, _, rfl, ?_⟩
  refine (msg_c 0 1 3 h5).mono ?_
  rintro e w6 ⟨rfl, h6⟩
  refine ⟨_, _, _, _, _, _, _, _, _, _, _, _, _, _, _, _, _, _, _, _, _, _, _, rfl, ?_⟩
  refine (sendB_full h6 0 1 3 (by decide) (by decide) rfl (by decide)).mono ?_
  rintro e w7 ⟨rfl, h7⟩
  refine ⟨_, _, rfl, ?_⟩
  refine (pick_ok h7 (k := 3) (x := (2, msgOf 0 1 2)) rfl).mono ?_
  rintro e w8 ⟨rfl, h8⟩
  refine ⟨_, _, rfl, ?_⟩
  refine cond_f rfl (cond_f rfl (cond_f rfl (cond_f rfl (cond_f rfl (cond_f rfl (cond_f rfl (cond_f rfl ?_)))))))
  refine (lost_c h8).mono ?_
  rintro e w9 ⟨rfl, rfl⟩
  refine ⟨_, rfl, cond_f rfl ?_⟩
  refine (takeB h8 (by decide) (i := 0) (y := (1, msgOf 0 1 1)) rfl (netWF h8)).mono ?_
  rintro e w10 ⟨m, hq, rfl, h10⟩
  refine ⟨_, _, _, _, _, _, _, _, _, _, _, _, _, _, _, _, _, _, _, _, _, _, _, _, rfl, ?_⟩
  refine NewC.ofRow h10 fun b0 w11 h11 => stMsg (m := m) h11 0 rfl fun w12 h12 => ?_
  have h12 : Sat (NetB ((((Nt.new 2 |>.add (msgOf 0 1 1)).add (msgOf 0 1 2)).lose).erase 0) b :: Row b0 m.cells 37 :: F) w12 := h12.pull 1 rfl
  refine (takeB_no h12 (by decide) (id := 1) (by omega) (fun y hy => ?_)).mono ?_
  · have hy : y ∈ [((2 : Nat), (msgOf 0 1 2 : Bare.α))] := hy
    rw [List.mem_singleton.1 hy]
    decide
  rintro e w13 ⟨rfl, h13⟩
  refine ⟨_, _, _, _, _, _, _, _, _, _, _, _, _, _, _, _, _, _, _, _, _, _, _, _, rfl, ?_⟩
  refine (copyB h13 (by decide) (i := 0) (y := (2, msgOf 0 1 2)) rfl (by decide)).mono ?_
  rintro e w14 ⟨rfl, h14⟩
  refine ⟨_, _, rfl, ?_⟩
  refine (netnew_no 0 (by omega) w14).mono ?_
  rintro e w15 ⟨rfl, rfl⟩
  refine ⟨_, _, rfl, ?_⟩
  have h16 := h14.drew
  refine ⟨fun w => Sat (_ :: Row b0 m.cells 37 :: F) w, h16, cond_t rfl ?_⟩
  refine ⟨m.kind, m.from_, m.to, m.view, m.op, m.commit, m.base, m.normal, m.nonce, m.lp, m.ll, m.lc, m.ip, m.il, m.ic, m.ec, m.en, m.et, m.re, m.rn, m.dp, m.dl, m.dc, fun w h => ldMsgRow (m := m) h 1 rfl rfl, ?_⟩
  refine (msg_c 0 1 1 h16).mono ?_
  rintro e w17 ⟨rfl, h17⟩
  refine ⟨_, _, _, _, _, _, _, _, _, _, _, _, _, _, _, _, _, _, _, _, _, _, _, rfl, h17, ?_⟩
  refine (same_bare hq (msgOf_bare 0 1 1) h17).mono ?_
  rintro e w18 ⟨rfl, h18⟩
  refine ⟨_, rfl, cond_t rfl (cond_t rfl (cond_t rfl (cond_t rfl ?_)))⟩
  refine (count_c h18).mono ?_
  rintro e w19 ⟨rfl, rfl⟩
  exact ⟨_, rfl, cond_t rfl ⟨rfl, h18.drop.drop⟩⟩

theorem own : ownKnob Try.prog.godebug = none := by kernel_rfl
theorem laidOut : laidOutB Try.prog = true := by kernel_rfl

set_option maxRecDepth 100000 in
theorem known_lifted (os : Os) (started : os.Started) (H : Type) (enc : TypeId × Value → H) :
    ReturnsInHanded {} Try.checked os 4 .any (Rows.netKnownSpec.pre6 enc Try.prog Try.f4 Rows.netKnownRow.domain false) (Rows.netKnownSpec.post enc Try.prog Try.f4 false true false false) := by
  refine returnsInHanded_of_change (C := Try.checked) own started (by kernel_rfl) Try.func4
    (ChangeSpec.witness6 (enc := enc) (C := Try.checked) false ⟨#[], #[], []⟩ 8 (by kernel_rfl) (by kernel_rfl) (by kernel_rfl) (by kernel_rfl)) ?_
  intro W base args ds gs before hval hW hcnd _
  have hW' : DataW.Whole enc Try.prog Try.f4.params.toList Rows.netKnownSpec.vars false W args.toList ds gs before := hW
  obtain ⟨p, q, hA, hV, _⟩ := hW'
  rw [Try.params4] at hA
  obtain ⟨hargs, rfl, rfl⟩ := trodAll_nil hA
  obtain rfl : args = #[] := by cases args; simp_all
  refine (known_c (Sat.ofBase W)).mono fun e W' ⟨he, hs⟩ => ?_
  exact ⟨_, he, law_post (tb := 4) laidOut (by decide +kernel) (by kernel_rfl) Try.underlying4 rfl hW ⟨rfl, rfl, rfl⟩ (hs.below 0 rfl)⟩

theorem known_holds : Rows.NetKnownSaid :=
  OpenClaim.holds_of_wide 4 Try.f4 rfl rfl rfl rfl rfl rfl rfl ⟨rfl, rfl, rfl, rfl, rfl⟩ rfl rfl rfl rfl rfl (by kernel_rfl) Try.func4 (by kernel_rfl)
    (of_decide_eq_true (by kernel_rfl)) (by unfold Func.isWrapper; first | (rw [if_pos (by decide +kernel)]; kernel_rfl) | (rw [if_neg (by decide +kernel)]; exact ⟨rfl, rfl⟩))
    (fun os started H enc _ => known_lifted os started H enc)
end Go.Proofs.Ytjpaoggcphfjeaa
