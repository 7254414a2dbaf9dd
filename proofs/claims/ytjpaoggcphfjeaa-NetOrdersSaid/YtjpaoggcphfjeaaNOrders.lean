/- 'NetOrders' answers true: what is sent is taken as it was sent, copies behind. No conditions. -/
import Derived.Test.YtjpaoggcphfjeaaNKnown
namespace Go.Proofs.Ytjpaoggcphfjeaa
open Go Go.Lw Go.Tb Go.Wd Go.ChangeShapes Go.WideShapes Go.ChangeAt Go.RowKit

set_option maxRecDepth 100000 in
theorem eok_i : EOK Try.prog 47 3 1 8 := ⟨by kernel_rfl, ⟨_, _, rfl, rfl, rfl, rfl, rfl⟩, by omega⟩
def mB (x : Nat) : Bare.α := msgOf 0 1 (x : Int)
/-- the packets of messages with these numbers. -/
def Lw_ (wl : List Nat) : List (Nat × Bare.α) := (List.range wl.length).map fun i => (i + 1, mB (wl.getD i 0))
theorem lw_len (wl : List Nat) : (Lw_ wl).length = wl.length := by simp [Lw_]
theorem lw_get {wl : List Nat} {i x : Nat} (h : wl[i]? = some x) : (Lw_ wl)[i]? = some (i + 1, mB x) := by
  have hlt := get_lt h
  have hx : wl[i] = x := by rw [List.getElem?_eq_getElem hlt] at h; exact Option.some.inj h
  simp [Lw_, hlt, hx]
theorem lw_snoc (wl : List Nat) (x : Nat) : Lw_ (wl ++ [x]) = Lw_ wl ++ [(wl.length + 1, mB x)] := by
  unfold Lw_
  rw [List.length_append, List.length_singleton, List.range_succ, List.map_append]
  congr 1
  · refine List.map_congr_left fun i hi => ?_
    have hlt : i < wl.length := by simpa using hi
    rw [List.getD_eq_getElem?_getD, List.getD_eq_getElem?_getD, List.getElem?_append_left hlt]
  · simp [List.getD_eq_getElem?_getD]
def NO (wl : List Nat) (i : Nat) : Nt Bare.α := ⟨200, (Lw_ wl).drop i, wl.length, 0, fun _ _ => false⟩
theorem no_add (wl : List Nat) (x : Nat) : (NO wl 0).add (mB x) = NO (wl ++ [x]) 0 := by
  unfold NO Nt.add
  simp only [List.drop_zero, lw_snoc, List.length_append, List.length_singleton]
theorem no_erase {wl : List Nat} {i : Nat} (h : i < wl.length) : (NO wl i).erase 0 = NO wl (i + 1) := by
  unfold NO Nt.erase
  congr 1
  dsimp only
  have hl : i < (Lw_ wl).length := by rw [lw_len]; exact h
  rw [List.drop_eq_getElem_cons hl]
  rfl
theorem no_new : Nt.new (α := Bare.α) 200 = NO [] 0 := rfl

theorem orders_c (W : World) (n : Int) {p : Option Addr} {l c : Nat} {zs : List Int} (hz : ArgI W .i64 p l zs) :
    Calls Try.prog 5 #[.int .i64 n, .slice p l c] W (Ret (.bool true) (Go.RowKit.Below W.heap.size W)) := by
  have hzm := hz.max
  simp only [maxLen] at hzm
  refine S_law24_NetOrders_ok _ _ _ _ _ _ ?_
  unfold S_law24_NetOrders
  refine (awake_c (Sat.ofBase W)).mono ?_
  rintro e w0 ⟨rfl, h0⟩
  refine ⟨_, rfl, cond_f rfl ?_⟩
  obtain ⟨x, hx, hxe⟩ := bAnd_le n 31 (by omega)
  have hxe : bAnd .i64 n 31 = (x : Int) := hxe
  have hk : IntKind.wrap .i64 (1 + bAnd .i64 n 31) = ((x + 1 : Nat) : Int) := by rw [hxe, wrapI64 (by omega) (by omega)]; omega
  have hk32 : x + 1 ≤ 32 := by omega
  have hk1 : 1 ≤ x + 1 := by omega
  generalize x + 1 = k at hk hk32 hk1
  refine (fresh_c (n := 200) (by omega) (by omega) h0).mono ?_
  rintro e w1 ⟨b, rfl, h1⟩
  rw [no_new] at h1
  refine ⟨_, rfl, cond_f rfl ?_⟩
  -- they are sent
  refine ⟨fun i w => ∃ j : Nat, i = j ∧ j ≤ k ∧ Sat [NetB (NO (List.range j) 0) b, Base W] w, fun i _ => (k - i).toNat, ⟨0, rfl, by omega, h1⟩, ?_⟩
  clear h0 h1
  rintro i w2 ⟨j, rfl, hj, h2⟩
  unfold S_law24_NetOrders_l3
  rw [hk]
  by_cases hjk : j < k
  · refine cond_t (by simpa using hjk) ?_
    refine (msg_c 0 1 (j : Int) h2).mono ?_
    rintro e w3 ⟨rfl, h3⟩
    refine ⟨_, _, _, _, _, _, _, _, _, _, _, _, _, _, _, _, _, _, _, _, _, _, _, rfl, ?_⟩
    refine (sendB_ok h3 0 1 (j : Int) (by show (List.range j).length + 1 < _; simp; omega) (by show (0 : Nat) + 1 < _; omega) rfl (by show ((Lw_ (List.range j)).drop 0).length < 200; rw [List.drop_zero, lw_len]; simp; omega)).mono ?_
    rintro e w4 ⟨rfl, h4⟩
    have e1 : (NO (List.range j) 0).last = j := by show (List.range j).length = j; simp
    rw [e1]
    refine ⟨_, _, rfl, cond_f rfl ?_⟩
    rw [wrapI64 (by omega) (by omega)]
    refine cond_f (by simp) ⟨⟨j + 1, by omega, by omega, ?_⟩, by first | omega | (dsimp only; omega)⟩
    rw [List.range_succ, ← no_add]
    exact h4
  have hjk : j = k := by omega
  subst hjk
  refine cond_f (by simp) ?_
  -- what is wanted
  refine ⟨fun wp wn wc i w => ∃ q : Nat, i = q ∧ q ≤ j ∧ wn = q ∧ Sat [Own 3 1 wp wn wc (intsL (List.range q)), NetB (NO (List.range j) 0) b, Base W] w, fun _ _ _ i _ => (j - i).toNat, ⟨0, rfl, by omega, rfl, h2.ownNil _ _⟩, ?_⟩
  clear h2
  rintro wp wn wc i w5 ⟨q, rfl, hq, rfl, h5⟩
  unfold S_law24_NetOrders_l2
  rw [hk]
  by_cases hqj : wn < j
  · refine cond_t (by simpa using hqj) ?_
    refine RunS.one eok_i h5 0 rfl (by rfl) (by rfl) (by omega) (by simp only [maxLen]; omega) fun p1 c1 w7 h7 => ?_
    rw [wrapI64 (by omega) (by omega)]
    refine ⟨⟨wn + 1, by omega, by omega, rfl, ?_⟩, by first | omega | (dsimp only; omega)⟩
    have e1 : intsL (List.range (wn + 1)) = intsL (List.range wn) ++ [.int .i64 (wn : Int)] := by rw [List.range_succ]; simp [intsL]
    rw [e1]
    exact h7
  have hqj : wn = j := by omega
  subst hqj
  refine cond_f (by simp) ?_
  intro k0 hk0
  -- the copies
  refine ⟨fun wp m wc i w => ∃ (q : Nat) (wl : List Nat), i = q ∧ q ≤ 40 ∧ m = wl.length ∧ wl.length = wn + q ∧ (∀ v ∈ wl, v < wn) ∧ (∀ v, v < wn → wl[v]? = some v) ∧ Sat [Own 3 1 wp m wc (intsL wl), NetB (NO wl 0) b, Base W] w,
    fun _ _ _ i _ => (40 - i).toNat, ⟨0, List.range wn, rfl, by omega, by simp, by simp, fun v hv => by simpa using hv, fun v hv => by simp [hv], h5⟩, ?_⟩
  clear h5
  rintro wp m wc i w8 ⟨q, wl, rfl, hq40, rfl, hwl, hall, hfirst, h8⟩
  unfold S_law24_NetOrders_l0
  -- they are taken
  have taken : k0 wp wl.length wc w8 := by
    refine hk0 _ _ _ _ ?_
    unfold S_law24_NetOrders_j0
    refine ⟨fun i w => ∃ r : Nat, i = r ∧ r ≤ wl.length ∧ Sat [Own 3 1 wp wl.length wc (intsL wl), NetB (NO wl r) b, Base W] w, fun i _ => (wl.length - i).toNat, ⟨0, rfl, by omega, h8⟩, ?_⟩
    rintro i w13 ⟨r, rfl, hr, h13⟩
    unfold S_law24_NetOrders_l1
    by_cases hrl : r < wl.length
    · refine cond_t (by simpa using hrl) ?_
      have hx : wl[r]? = some wl[r] := List.getElem?_eq_getElem hrl
      generalize wl[r] = x at hx
      have hd : (NO wl r).l[0]? = some (r + 1, mB x) := by
        show ((Lw_ wl).drop r)[0]? = _
        rw [List.getElem?_drop, Nat.add_zero]; exact lw_get hx
      refine (pick_ok (h13.pull 1 rfl) (k := 0) (x := (r + 1, mB x)) (by rw [Nat.zero_mod]; exact hd)).mono ?_
      rintro e w14 ⟨rfl, h14⟩
      refine ⟨_, _, rfl, ?_⟩
      refine (takeB h14 (by show wl.length < _; omega) hd (netWF h14)).mono ?_
      rintro e w15 ⟨m, hq, rfl, h15⟩
      rw [no_erase hrl] at h15
      refine ⟨_, _, _, _, _, _, _, _, _, _, _, _, _, _, _, _, _, _, _, _, _, _, _, _, rfl, ?_⟩
      refine NewC.ofRow h15 fun b2 w16 h16 => stMsg (m := m) h16 0 rfl fun w17 h17 => ?_
      have h18 : Sat (Row b2 m.cells 37 :: NetB (NO wl (r + 1)) b :: Own 3 1 wp wl.length wc (intsL wl) :: Base W :: []) w17.drew := h17.drew
      refine ⟨fun w => Sat (Row b2 m.cells 37 :: NetB (NO wl (r + 1)) b :: Own 3 1 wp wl.length wc (intsL wl) :: Base W :: []) w, h18, cond_f rfl (cond_f rfl ?_)⟩
      have e1 : IntKind.wrap .i64 ((r : Int) + 1) = ((r + 1 : Nat) : Int) := by rw [wrapI64 (by omega) (by omega)]; omega
      rw [e1]
      refine cond_f (by simp) ?_
      refine ⟨m.kind, m.from_, m.to, m.view, m.op, m.commit, m.base, m.normal, m.nonce, m.lp, m.ll, m.lc, m.ip, m.il, m.ic, m.ec, m.en, m.et, m.re, m.rn, m.dp, m.dl, m.dc, fun w h => ldMsgRow (m := m) h 0 rfl rfl, ?_⟩
      refine IdxC.ownAt h18 2 rfl hrl fun g hg => ?_
      rw [Nat.mul_one]
      refine ⟨(x : Int), fun w h => LdI.at (h.ownAt 2 rfl hg (by simp [intsL, hx])) rfl, ?_⟩
      refine (msg_c 0 1 (x : Int) h18).mono ?_
      rintro e w19 ⟨rfl, h19⟩
      refine ⟨_, _, _, _, _, _, _, _, _, _, _, _, _, _, _, _, _, _, _, _, _, _, _, rfl, h19, ?_⟩
      refine (same_bare hq (msgOf_bare 0 1 (x : Int)) h19).mono ?_
      rintro e w20 ⟨rfl, h20⟩
      refine ⟨_, rfl, h20, ?_⟩
      refine cond_f rfl ⟨⟨r + 1, rfl, by omega, h20.drop.pull 1 rfl⟩, by first | omega | (dsimp only; omega)⟩
    · refine cond_f (by simpa using hrl) ?_
      have hn : (NO wl r).l = [] := List.drop_eq_nil_of_le (by rw [lw_len]; omega)
      refine (pick_no (h13.pull 1 rfl) hn).mono ?_
      rintro e w21 ⟨rfl, h21⟩
      refine ⟨_, _, rfl, cond_t rfl ?_⟩
      refine (lost_c h21).mono ?_
      rintro e w22 ⟨rfl, rfl⟩
      exact ⟨_, rfl, rfl, h21.below 2 rfl⟩
  by_cases hql : q < l
  case neg => exact cond_f (by simp; omega) taken
  refine cond_t (by simp; omega) ?_
  by_cases hq4 : q < 40
  case neg => exact cond_f (by simp; omega) taken
  refine cond_t (by simp; omega) ?_
  clear taken
  have hzj : zs[q]? = some (zs[q]'(by rw [hz.len]; exact hql)) := List.getElem?_eq_getElem _
  generalize (zs[q]'(by rw [hz.len]; exact hql)) = z at hzj
  refine IdxC.reads (h8.baseReads 2 rfl hz.reads) (hz.some (by omega)) (by omega) (by omega) fun a hca => ?_
  rw [Int.toNat_natCast, Nat.mul_one] at hca
  refine LdI.at (n := z) (by simpa [Addr.add] using hca 0 (.int .i64 z) (by simp [hzj])) ?_
  rw [hk]
  refine ⟨by omega, ?_⟩
  obtain ⟨y, hy, hye⟩ := bAnd_le z 65535 (by omega)
  have hye : bAnd .i64 z 65535 = (y : Int) := hye
  rw [hye, tmod_nat]
  have hv : y % wn < wn := Nat.mod_lt _ (by omega)
  generalize y % wn = v at hv
  have e1 : IntKind.wrap .i64 ((v : Int) + 1) = ((v + 1 : Nat) : Int) := by rw [wrapI64 (by omega) (by omega)]; omega
  rw [e1]
  have hd : (NO wl 0).l[v]? = some (v + 1, mB v) := by
    show ((Lw_ wl).drop 0)[v]? = _
    rw [List.drop_zero]; exact lw_get (hfirst v hv)
  refine (copyB (h8.pull 1 rfl) (by show wl.length + 1 < _; omega) hd (by show ((Lw_ wl).drop 0).length < 200; rw [List.drop_zero, lw_len]; omega)).mono ?_
  rintro e w9 ⟨rfl, h9⟩
  rw [no_add] at h9
  refine ⟨_, _, rfl, cond_f rfl ?_⟩
  have e2 : (NO wl 0).last = wn + q := hwl
  rw [e2, wrapI64 (n := ((wn : Nat) : Int) + (q : Int)) (by omega) (by omega), wrapI64 (by omega) (by omega)]
  refine cond_f (by simp) ?_
  have h10 : Sat [Own 3 1 wp wl.length wc (intsL wl), NetB (NO (wl ++ [v]) 0) b, Base W] w9 := h9.pull 1 rfl
  refine RunS.one eok_i h10 0 rfl (by rfl) (by rfl) (by omega) (by simp only [maxLen]; omega) fun p1 c1 w11 h11 => ?_
  rw [wrapI64 (by omega) (by omega)]
  have e3 : intsL (wl ++ [v]) = intsL wl ++ [.int .i64 (v : Int)] := by simp [intsL]
  refine ⟨⟨q + 1, wl ++ [v], by omega, by omega, by simp, by simp; omega, fun u hu => ?_, fun u hu => ?_, ?_⟩, by first | omega | (dsimp only; omega)⟩
  · rcases List.mem_append.1 hu with hu | hu
    · exact hall u hu
    · rw [List.mem_singleton.1 hu]; exact hv
  · rw [List.getElem?_append_left (by omega)]; exact hfirst u hu
  · rw [e3]; exact h11

set_option maxRecDepth 100000 in
theorem orders_lifted (os : Os) (started : os.Started) (H : Type) (enc : TypeId × Value → H) :
    ReturnsInHanded {} Try.checked os 5 .any (Rows.netOrdersSpec.pre6 enc Try.prog Try.f5 Rows.netOrdersRow.domain false) (Rows.netOrdersSpec.post enc Try.prog Try.f5 false true false false) := by
  refine returnsInHanded_of_change (C := Try.checked) own started (by kernel_rfl) Try.func5
    (ChangeSpec.witness6 (enc := enc) (C := Try.checked) false ⟨#[], #[.int .i64 0, .slice none 0 0], []⟩ 8 (by kernel_rfl) (by kernel_rfl) (by kernel_rfl) (by kernel_rfl)) ?_
  intro W base args ds gs before hval hW hcnd _
  have hval : ∀ (j : Nat) t v, Try.f5.params[j]? = some t → args[j]? = some v → Value.okWide Try.prog W .any base t v := hval
  have hW' : DataW.Whole enc Try.prog Try.f5.params.toList Rows.netOrdersSpec.vars false W args.toList ds gs before := hW
  obtain ⟨p, q, hA, hV, _⟩ := hW'
  rw [Try.params5] at hA hval
  obtain ⟨v0, v1, d0, d1, p0, p1, rfl, rfl, rfl, h0, h1⟩ := trodAll_two hA
  obtain ⟨n0, rfl, rfl, rfl, wn0⟩ := open_int Try.underlying3 (hval 0 3 v0 rfl rfl) h0
  obtain ⟨a1, l1, c1, rfl⟩ := okWide_slice Try.underlying47 (hval 1 47 v1 rfl rfl)
  obtain ⟨zs1, hz1⟩ := argInts Try.underlying47 Try.underlying3 (by kernel_rfl) h1
  refine (orders_c W n0 hz1).mono fun e W' ⟨he, hs⟩ => ?_
  exact ⟨_, he, law_post (tb := 4) laidOut (by decide +kernel) (by kernel_rfl) Try.underlying4 rfl hW ⟨rfl, rfl, rfl⟩ hs⟩

theorem orders_holds : Rows.NetOrdersSaid :=
  OpenClaim.holds_of_wide 5 Try.f5 rfl rfl rfl rfl rfl rfl rfl ⟨rfl, rfl, rfl, rfl, rfl⟩ rfl rfl rfl rfl rfl (by kernel_rfl) Try.func5 (by kernel_rfl)
    (of_decide_eq_true (by kernel_rfl)) (by unfold Func.isWrapper; first | (rw [if_pos (by decide +kernel)]; kernel_rfl) | (rw [if_neg (by decide +kernel)]; exact ⟨rfl, rfl⟩))
    (fun os started H enc _ => orders_lifted os started H enc)
end Go.Proofs.Ytjpaoggcphfjeaa
