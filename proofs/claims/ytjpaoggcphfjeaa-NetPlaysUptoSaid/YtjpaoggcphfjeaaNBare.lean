/- Messages whose log, image and documents are empty: copied, compared; and the laws' own small functions. -/
import Derived.Test.YtjpaoggcphfjeaaNc
namespace Go.Proofs.Ytjpaoggcphfjeaa
open Go Go.Lw Go.Tb Go.Wd

theorem addEmp {F : List HP} {w : World} (hs : Sat F w) : Sat (hemp :: F) w := by
  obtain ⟨h, hw, x⟩ := hs
  exact ⟨h, hw, fun _ => none, h, fun _ => .inl rfl, fun b => by dsimp only; cases h b <;> rfl, fun _ => rfl, x⟩

/-- but for where its empty rows lie. -/
def Mg.norm (m : Mg) : Mg := { m with lp := none, ll := 0, lc := 0, ip := none, il := 0, ic := 0, dp := none, dl := 0, dc := 0 }
structure BareQ (m k : Mg) : Prop where
  l : m.ll = 0
  i : m.il = 0
  d : m.dl = 0
  norm : m.norm = k
set_option maxRecDepth 100000 in
theorem eok_entry : EOK Try.prog 29 32 3 32 := ⟨by kernel_rfl, ⟨_, _, rfl, rfl, rfl, rfl, rfl⟩, by omega⟩
set_option maxRecDepth 100000 in
theorem eok_byte : EOK Try.prog 30 5 1 1 := ⟨by kernel_rfl, ⟨_, _, rfl, rfl, rfl, rfl, rfl⟩, by omega⟩
set_option maxRecDepth 100000 in
theorem eok_val : EOK Try.prog 33 102 5 80 := ⟨by kernel_rfl, ⟨_, _, rfl, rfl, rfl, rfl, rfl⟩, by omega⟩

theorem copied_bare {m k : Mg} (hq : BareQ m k) {F : List HP} {w : World} (hs : Sat F w) : Calls Try.prog 39 #[m.agg] w fun e w' => ∃ m', BareQ m' k ∧ e = .returned m'.agg ∧ Sat F w' := by
  refine S_net_Copied_ok _ _ _ _ _ _ _ _ _ _ _ _ _ _ _ _ _ _ _ _ _ _ _ _ _ ?_
  unfold S_net_Copied
  refine NewC.ofRow hs fun b0 w1 h1 => NewC.ofRow h1 fun b1 w2 h2 => ?_
  have h3 : Sat (Row b1 msg0.cells 37 :: Row b0 m.cells 37 :: F) w2.drew := h2.drew
  refine ⟨fun w => ∃ L i, L[i]? = some (Row b0 m.cells 37) ∧ Sat L w, ⟨_, 1, rfl, h3⟩, ?_⟩
  refine ⟨m.lp, m.ll, m.lc, fun w ⟨L, i, hi, h⟩ => LdS.of h i hi (off := 9) rfl (by simp [add_mk]) rfl, ?_⟩
  refine ⟨m.lp, m.ll, m.lc, fun w ⟨L, i, hi, h⟩ => LdS.of h i hi (off := 9) rfl (by simp [add_mk]) rfl, ?_⟩
  rw [hq.l]
  refine RunS.makeOwn eok_entry h3 (by omega) (by omega) (by omega) fun p1 w4 h4 => ⟨⟨_, 2, rfl, h4⟩, ?_⟩
  refine RunS.nothing eok_entry (by omega) ⟨⟨_, 2, rfl, h4⟩, ?_⟩
  refine StC.of h4.drop 1 rfl (off := 9) rfl (by simp [add_mk]) fun w5 h5 => ?_
  have h6 : Sat (Row b1 msg0.cells 37 :: Row b0 ({ m with lp := p1, ll := 0, lc := ((0 : Nat) : Int).toNat } : Mg).cells 37 :: F) w5.drew := h5.drew
  generalize hm1 : ({ m with lp := p1, ll := 0, lc := ((0 : Nat) : Int).toNat } : Mg) = m1 at h6
  have a1 : m1.il = 0 := by rw [← hm1]; exact hq.i
  have a2 : m1.dl = 0 := by rw [← hm1]; exact hq.d
  have a3 : m1.ll = 0 := by rw [← hm1]
  have a4 : m1.norm = k := by rw [← hm1]; exact hq.norm
  refine ⟨fun w => ∃ L i, L[i]? = some (Row b0 m1.cells 37) ∧ Sat L w, ⟨_, 1, rfl, h6⟩, ?_⟩
  refine ⟨m1.ip, m1.il, m1.ic, fun w ⟨L, i, hi, h⟩ => LdS.of h i hi (off := 10) rfl (by simp [add_mk]) rfl, ?_⟩
  refine ⟨m1.ip, m1.il, m1.ic, fun w ⟨L, i, hi, h⟩ => LdS.of h i hi (off := 10) rfl (by simp [add_mk]) rfl, ?_⟩
  rw [a1]
  refine RunS.makeOwn eok_byte h6 (by omega) (by omega) (by omega) fun p2 w7 h7 => ⟨⟨_, 2, rfl, h7⟩, ?_⟩
  refine RunS.nothing eok_byte (by omega) ⟨⟨_, 2, rfl, h7⟩, ?_⟩
  refine StC.of h7.drop 1 rfl (off := 10) rfl (by simp [add_mk]) fun w8 h8 => ?_
  have h9 : Sat (Row b1 msg0.cells 37 :: Row b0 ({ m1 with ip := p2, il := 0, ic := ((0 : Nat) : Int).toNat } : Mg).cells 37 :: F) w8 := h8
  generalize hm2 : ({ m1 with ip := p2, il := 0, ic := ((0 : Nat) : Int).toNat } : Mg) = m2 at h9
  have b1' : m2.il = 0 := by rw [← hm2]
  have b2 : m2.dl = 0 := by rw [← hm2]; exact a2
  have b3 : m2.ll = 0 := by rw [← hm2]; exact a3
  have b4 : m2.norm = k := by rw [← hm2]; exact a4
  refine LdS.of h9 1 rfl (off := 16) rfl (by simp [add_mk]) ?_
  rw [b2]
  refine RunS.makeOwn eok_val h9 (by omega) (by omega) (by omega) fun p3 w10 h10 => ?_
  refine LdS.of h10 2 rfl (off := 16) rfl (by simp [add_mk]) ?_
  refine ⟨fun p l c i w => p = p3 ∧ l = 0 ∧ i = 0 ∧ Sat (Row b1 msg0.cells 37 :: Row b0 m2.cells 37 :: F) w, fun _ _ _ _ _ => 0, ⟨rfl, rfl, rfl, h10.drop⟩, ?_⟩
  rintro p l c i w11 ⟨rfl, rfl, rfl, h11⟩
  unfold S_net_Copied_l0
  rw [b2]
  refine cond_f (by simp) ?_
  refine StC.of h11 1 rfl (off := 16) rfl (by simp [add_mk]) fun w12 h12 => ?_
  have h13 : Sat (Row b1 msg0.cells 37 :: Row b0 ({ m2 with dp := p, dl := 0, dc := c } : Mg).cells 37 :: F) w12 := h12
  generalize hm3 : ({ m2 with dp := p, dl := 0, dc := c } : Mg) = m3 at h13
  refine ldMsgRow (m := m3) h13 1 rfl ?_
  refine stMsg (m := m3) h13 0 rfl fun w14 h14 => ?_
  refine ldMsgRow (m := m3) h14 0 rfl ?_
  refine ⟨m3, ⟨?_, ?_, ?_, ?_⟩, rfl, h14.drop.drop⟩
  · rw [← hm3]; exact b3
  · rw [← hm3]; exact b1'
  · rw [← hm3]
  · rw [← hm3]; exact b4

def Bare : MT where
  σ := Unit
  α := Mg
  Kp := fun _ => hemp
  le := fun _ _ => True
  Q := fun _ m k => BareQ m k
  fr := fun k => k.from_
  tt := fun k => k.to
  refl := fun _ => trivial
  trans := fun _ _ => trivial
  mono := fun _ h => h
  ends := fun h => ⟨by rw [← h.norm]; rfl, by rw [← h.norm]; rfl⟩
  copied := fun hq hs => (copied_bare hq hs).mono fun e w' ⟨m', h1, h2, h3⟩ => ⟨(), m', trivial, h1, h2, h3⟩

/-! Messages compared. -/
theorem run_bytes_none {P : Program} {s d : TypeId} {p : Option Addr} {c : Nat} {w : World} {K : ByteArray → Prop} {e : TypeId} (hs : P.underlying s = some (.slice e)) (he : P.underlying e = some (.int .u8)) (hd : P.underlying d = some .string) (h : K ⟨#[]⟩) : RunStr P (convert s d (.slice p 0 c)) w K := by
  refine ⟨⟨#[]⟩, ?_, h⟩
  cases p with
  | none => simp [convert, run_underlying hs, run_underlying hd, run_underlying he, Conv.bytesToString]; rfl
  | some a => simp [convert, run_underlying hs, run_underlying hd, run_underlying he, Conv.bytesToString, loadCells, loadCellsFrom]; rfl

theorem logs_none {p q : Option Addr} {c d : Nat} {F : List HP} {w : World} (hs : Sat F w) : Calls Try.prog 43 #[.slice p 0 c, .slice q 0 d] w (Ret (.bool true) (Sat F)) := by
  refine S_ref24_Logs_ok _ _ _ _ _ _ _ _ ?_
  unfold S_ref24_Logs
  refine cond_f rfl ⟨fun i w => i = 0 ∧ Sat F w, fun _ _ => 0, ⟨rfl, hs⟩, ?_⟩
  rintro i w1 ⟨rfl, h1⟩
  unfold S_ref24_Logs_l0
  exact cond_f (by simp) ⟨rfl, h1⟩

theorem logs_one {b1 b2 : Nat} {c n : Int} {t : ByteArray} {F : List HP} {w : World} (hs : Sat (Row b1 [.int .i64 c, .int .i64 n, .string t] 32 :: Row b2 [.int .i64 c, .int .i64 n, .string t] 32 :: F) w) :
    Calls Try.prog 43 #[.slice (some ⟨b1, 0, none⟩) 1 1, .slice (some ⟨b2, 0, none⟩) 1 1] w (Ret (.bool true) (Sat F)) := by
  refine S_ref24_Logs_ok _ _ _ _ _ _ _ _ ?_
  unfold S_ref24_Logs
  refine cond_f rfl ⟨fun i w => ∃ j : Nat, i = j ∧ j ≤ 1 ∧ Sat (Row b1 [.int .i64 c, .int .i64 n, .string t] 32 :: Row b2 [.int .i64 c, .int .i64 n, .string t] 32 :: F) w, fun i _ => (1 - i).toNat, ⟨0, rfl, by omega, hs⟩, ?_⟩
  rintro i w1 ⟨j, rfl, hj, h1⟩
  unfold S_ref24_Logs_l0
  by_cases h0 : j = 0
  · subst h0
    refine cond_t (by simp) ?_
    have h2 := h1.drew
    refine IdxC.of (by omega) (by omega) (LdI.of h2 0 rfl (off := 0) rfl (by simp) (IdxC.of (by omega) (by omega) (LdI.of h2 1 rfl (off := 0) rfl (by simp) (cond_f (by simp) ?_))))
    refine IdxC.of (by omega) (by omega) (LdI.of h2 0 rfl (off := 1) rfl (by simp [add_mk]) (IdxC.of (by omega) (by omega) (LdI.of h2 1 rfl (off := 1) rfl (by simp [add_mk]) (cond_f (by simp) ?_))))
    refine IdxC.of (by omega) (by omega) (LdStr.at (n := t) (by simp only [add_mk]; exact h2.cell 0 rfl rfl) (IdxC.of (by omega) (by omega) (LdStr.at (n := t) (by simp only [add_mk]; exact h2.cell 1 rfl rfl) (cond_f (by simp) ?_))))
    exact ⟨⟨1, by rw [wrapI64 (by omega) (by omega)]; omega, by omega, h2⟩, by rw [wrapI64 (by omega) (by omega)]; first | omega | (dsimp only; omega)⟩
  · have : j = 1 := by omega
    subst this
    exact cond_f (by simp) ⟨rfl, h1.drop.drop⟩

theorem vals_none {p q : Option Addr} {c d : Nat} {F : List HP} {w : World} (hs : Sat F w) : Calls Try.prog 47 #[.slice p 0 c, .slice q 0 d] w (Ret (.bool true) (Sat F)) := by
  refine S_ref2_List_ok _ _ _ _ _ _ _ _ ?_
  unfold S_ref2_List
  refine Calls.mono (R := Ret (.bool true) (Sat F)) ?_ fun e w' ⟨he, h⟩ => ⟨true, he, rfl, h⟩
  refine S_ref2_Same_ok _ _ _ _ _ _ _ _ _ _ _ _ _ _ _ _ _ _ _ _ ?_
  unfold S_ref2_Same
  refine NewC.ofRow hs fun b1 w1 h1 => NewC.ofRow h1 fun b2 w2 h2 => ?_
  simp only [add_mk, Nat.zero_add]
  refine LdI.of h2 1 rfl (off := 0) rfl rfl (LdI.of h2 0 rfl (off := 0) rfl rfl (cond_f rfl ?_))
  refine LdI.of h2 1 rfl (off := 1) rfl rfl (LdI.of h2 0 rfl (off := 1) rfl rfl (cond_f rfl ?_))
  refine LdStr.at (n := ⟨#[]⟩) (h2.cell 1 rfl rfl) (LdStr.at (n := ⟨#[]⟩) (h2.cell 0 rfl rfl) (cond_f (by simp) ?_))
  refine LdS.of h2 1 rfl (off := 3) rfl rfl (LdS.of h2 0 rfl (off := 3) rfl rfl (cond_f rfl ?_))
  refine LdS.of h2 1 rfl (off := 4) rfl rfl (LdS.of h2 0 rfl (off := 4) rfl rfl (cond_f rfl ?_))
  refine ⟨fun i w => i = 0 ∧ Sat (Row b2 [.int .i64 0, .int .i64 0, .string ⟨#[]⟩, .slice q 0 d, .slice none 0 0] 102 :: Row b1 [.int .i64 0, .int .i64 0, .string ⟨#[]⟩, .slice p 0 c, .slice none 0 0] 102 :: F) w, fun _ _ => 0, ⟨rfl, h2⟩, ?_⟩
  rintro i w3 ⟨rfl, h3⟩
  unfold S_ref2_Same_l1
  simp only [add_mk, Nat.zero_add]
  refine LdS.of h3 1 rfl (off := 3) rfl rfl (cond_f (by simp) ?_)
  refine ⟨fun i w => i = 0 ∧ Sat (Row b2 [.int .i64 0, .int .i64 0, .string ⟨#[]⟩, .slice q 0 d, .slice none 0 0] 102 :: Row b1 [.int .i64 0, .int .i64 0, .string ⟨#[]⟩, .slice p 0 c, .slice none 0 0] 102 :: F) w, fun _ _ => 0, ⟨rfl, h3⟩, ?_⟩
  rintro i w4 ⟨rfl, h4⟩
  unfold S_ref2_Same_l0
  simp only [add_mk, Nat.zero_add]
  exact LdS.of h4 1 rfl (off := 4) rfl rfl (cond_f (by simp) ⟨rfl, h4.drop.drop⟩)

theorem same_bare {m m' k : Mg} (hq : BareQ m k) (hq' : BareQ m' k) {F : List HP} {w : World} (hs : Sat F w) : Calls Try.prog 18 #[m.agg, m'.agg] w (Ret (.bool true) (Sat F)) := by
  have e := hq.norm.trans hq'.norm.symm
  have i1 : m.kind = m'.kind := by have h := congrArg Mg.kind e; exact h
  have i2 : m.from_ = m'.from_ := by have h := congrArg Mg.from_ e; exact h
  have i3 : m.to = m'.to := by have h := congrArg Mg.to e; exact h
  have i4 : m.view = m'.view := by have h := congrArg Mg.view e; exact h
  have i5 : m.op = m'.op := by have h := congrArg Mg.op e; exact h
  have i6 : m.commit = m'.commit := by have h := congrArg Mg.commit e; exact h
  have i7 : m.base = m'.base := by have h := congrArg Mg.base e; exact h
  have i8 : m.normal = m'.normal := by have h := congrArg Mg.normal e; exact h
  have i9 : m.nonce = m'.nonce := by have h := congrArg Mg.nonce e; exact h
  have j1 : m.ec = m'.ec := by have h := congrArg Mg.ec e; exact h
  have j2 : m.en = m'.en := by have h := congrArg Mg.en e; exact h
  have j3 : m.et = m'.et := by have h := congrArg Mg.et e; exact h
  have j4 : m.re = m'.re := by have h := congrArg Mg.re e; exact h
  have j5 : m.rn = m'.rn := by have h := congrArg Mg.rn e; exact h
  refine S_law24_same_ok _ _ _ _ _ _ _ _ _ _ _ _ _ _ _ _ _ _ _ _ _ _ _ _ _ _ _ _ _ _ _ _ _ _ _ _ _ _ _ _ _ _ _ _ _ _ _ _ ?_
  unfold S_law24_same
  refine NewC.ofRow hs fun c1 w1 h1 => NewC.ofRow h1 fun c2 w2 h2 => ?_
  refine ldMsgRow (m := m) h2 1 rfl (ldMsgRow (m := m') h2 0 rfl ?_)
  refine Calls.mono (R := Ret (.bool true) (Sat F)) ?_ fun e w' ⟨he, h⟩ => ⟨true, he, rfl, h⟩
  refine S_ref24_Same_ok _ _ _ _ _ _ _ _ _ _ _ _ _ _ _ _ _ _ _ _ _ _ _ _ _ _ _ _ _ _ _ _ _ _ _ _ _ _ _ _ _ _ _ _ _ _ _ _ _ ?_
  unfold S_ref24_Same
  refine NewC.ofRow h2.drop.drop fun b1 w3 h3 => NewC.ofRow h3 fun b2 w4 h4 => ?_
  have h4 : Sat (Row b2 m'.cells 37 :: Row b1 m.cells 37 :: F) w4 := h4
  simp only [add_mk, Nat.zero_add]
  refine LdI.of h4 1 rfl (off := 0) rfl rfl (LdI.of h4 0 rfl (off := 0) rfl rfl (cond_f (by simp [i1]) ?_))
  refine LdI.of h4 1 rfl (off := 1) rfl rfl (LdI.of h4 0 rfl (off := 1) rfl rfl (cond_f (by simp [i2]) ?_))
  refine LdI.of h4 1 rfl (off := 2) rfl rfl (LdI.of h4 0 rfl (off := 2) rfl rfl (cond_f (by simp [i3]) ?_))
  refine LdI.of h4 1 rfl (off := 3) rfl rfl (LdI.of h4 0 rfl (off := 3) rfl rfl (cond_f (by simp [i4]) ?_))
  refine LdI.of h4 1 rfl (off := 4) rfl rfl (LdI.of h4 0 rfl (off := 4) rfl rfl (cond_f (by simp [i5]) ?_))
  refine LdI.of h4 1 rfl (off := 5) rfl rfl (LdI.of h4 0 rfl (off := 5) rfl rfl (cond_f (by simp [i6]) ?_))
  refine LdI.of h4 1 rfl (off := 6) rfl rfl (LdI.of h4 0 rfl (off := 6) rfl rfl (cond_f (by simp [i7]) ?_))
  refine LdI.of h4 1 rfl (off := 7) rfl rfl (LdI.of h4 0 rfl (off := 7) rfl rfl (cond_f (by simp [i8]) ?_))
  refine LdI.of h4 1 rfl (off := 8) rfl rfl (LdI.of h4 0 rfl (off := 8) rfl rfl (cond_f (by simp [i9]) ?_))
  intro k0 hk0
  refine cond_t rfl ?_
  refine LdS.of h4 1 rfl (off := 10) rfl rfl ?_
  rw [hq.i]
  refine run_bytes_none Try.underlying30 Try.underlying5 Try.underlying9 ?_
  refine LdS.of h4 0 rfl (off := 10) rfl rfl ?_
  rw [hq'.i]
  refine run_bytes_none Try.underlying30 Try.underlying5 Try.underlying9 (cond_f (by simp) ?_)
  refine LdS.of h4 1 rfl (off := 10) rfl rfl (LdS.of h4 0 rfl (off := 10) rfl rfl (cond_f (by rw [hq.i, hq'.i]; rfl) (hk0 _ ?_)))
  unfold S_ref24_Same_j0
  simp only [add_mk, Nat.zero_add]
  refine LdS.of h4 1 rfl (off := 9) rfl rfl (LdS.of h4 0 rfl (off := 9) rfl rfl ?_)
  rw [hq.l, hq'.l]
  refine (logs_none h4).mono ?_
  rintro e w5 ⟨rfl, h5⟩
  refine ⟨_, rfl, cond_t rfl ?_⟩
  refine LdI.of h5 1 rfl (off := 11) rfl rfl (LdI.of h5 1 rfl (off := 12) rfl rfl (LdStr.at (n := m.et) (h5.cell 1 rfl rfl) ?_))
  refine NewC.ofRow h5 fun b3 w6 h6 => ?_
  refine LdI.of h6 1 rfl (off := 11) rfl rfl (LdI.of h6 1 rfl (off := 12) rfl rfl (LdStr.at (n := m'.et) (h6.cell 1 rfl rfl) ?_))
  refine NewC.ofRow h6 fun b4 w7 h7 => ?_
  have h8 : Sat (Row b3 [.int .i64 m.ec, .int .i64 m.en, .string m.et] 32 :: Row b4 [.int .i64 m.ec, .int .i64 m.en, .string m.et] 32 :: Row b2 m'.cells 37 :: Row b1 m.cells 37 :: F) w7 := by
    have := h7.pull 1 rfl
    rw [j1, j2, j3] at this ⊢
    exact this
  refine (logs_one h8).mono ?_
  rintro e w9 ⟨rfl, h9⟩
  refine ⟨_, rfl, cond_t rfl ?_⟩
  refine LdI.of h9 1 rfl (off := 14) rfl rfl (LdI.of h9 1 rfl (off := 15) rfl rfl (LdS.of h9 1 rfl (off := 16) rfl rfl ?_))
  refine LdI.of h9 0 rfl (off := 14) rfl rfl (LdI.of h9 0 rfl (off := 15) rfl rfl (LdS.of h9 0 rfl (off := 16) rfl rfl ?_))
  rw [hq.d, hq'.d]
  refine Calls.mono (R := Ret (.bool true) (Sat F)) ?_ fun e w' ⟨he, h⟩ => ⟨true, he, rfl, h⟩
  refine S_ref2_Reply_ok _ _ _ _ _ _ _ _ _ _ _ _ ?_
  unfold S_ref2_Reply
  refine NewC.ofRow h9.drop.drop fun b5 w10 h10 => NewC.ofRow h10 fun b6 w11 h11 => ?_
  simp only [add_mk, Nat.zero_add]
  refine LdI.of h11 1 rfl (off := 0) rfl rfl (LdI.of h11 0 rfl (off := 0) rfl rfl (cond_t (by simp [j4]) ?_))
  refine LdI.of h11 1 rfl (off := 1) rfl rfl (LdI.of h11 0 rfl (off := 1) rfl rfl (cond_t (by simp [j5]) ?_))
  refine LdS.of h11 1 rfl (off := 2) rfl rfl (LdS.of h11 0 rfl (off := 2) rfl rfl ?_)
  refine (vals_none h11.drop.drop).mono ?_
  rintro e w12 ⟨rfl, h12⟩
  exact ⟨_, rfl, rfl, h12⟩

/-! The laws' own functions. -/
def msgOf (a b n : Int) : Mg := { msg0 with kind := 5, from_ := a, to := b, view := n }
theorem msgOf_bare (a b n : Int) : BareQ (msgOf a b n) (msgOf a b n) := ⟨rfl, rfl, rfl, rfl⟩
theorem msg_c (a b n : Int) {F : List HP} {w : World} (hs : Sat F w) : Calls Try.prog 12 #[.int .i64 a, .int .i64 b, .int .i64 n] w (Ret (msgOf a b n).agg (Sat F)) := by
  refine S_law24_msg_ok _ _ _ _ _ ?_
  unfold S_law24_msg
  refine NewC.ofRow hs fun b0 w1 h1 => stMsg (m := msgOf a b n) h1 0 rfl fun w2 h2 => ?_
  exact ldMsgRow (m := msgOf a b n) h2 0 rfl ⟨rfl, h2.drop⟩

abbrev NetB (N : Nt Bare.α) (b : Nat) : HP := NetP Bare () N b
theorem fresh_c {n : Nat} (h1 : 1 ≤ n) (h2 : n ≤ 100000) {F : List HP} {w : World} (hs : Sat F w) :
    Calls Try.prog 9 #[.int .i64 (n : Int)] w fun e w' => ∃ b, e = .returned (.pointer (some ⟨b, 0, none⟩)) ∧ Sat (NetB (Nt.new n) b :: F) w' := by
  refine S_law24_fresh_ok _ _ _ ?_
  unfold S_law24_fresh
  refine (netnew_c Bare () h1 h2 hs).mono ?_
  rintro e w' ⟨b, rfl, hs'⟩
  exact ⟨_, _, rfl, cond_f rfl ⟨b, rfl, hs'⟩⟩

section
variable {N : Nt Bare.α} {b : Nat} {F : List HP} {w : World}
/-- sending a message of the laws' own. -/
theorem sendB (hs : Sat (NetB N b :: F) w) (x y n : Int) (h1 : N.last + 1 < 9223372036854775808) (h2 : N.lost + 1 < 9223372036854775808) : Calls Try.prog 11 #[.pointer (some ⟨b, 0, none⟩), (msgOf x y n).agg] w fun e w' =>
    if N.off (min x y) (max x y) = true then Ret (.tuple #[.int .i64 0, .int .i64 0]) (Sat (NetB N.lose b :: F)) e w'
    else if N.most ≤ N.l.length then Ret (.tuple #[.int .i64 0, .int .i64 5]) (Sat (NetB N.lose b :: F)) e w'
    else Ret (.tuple #[.int .i64 ((N.last + 1 : Nat) : Int), .int .i64 0]) (Sat (NetB (N.add (msgOf x y n)) b :: F)) e w' := by
  have h0 : Sat (NetP Bare () N b :: Bare.Kp () :: F) w := (addEmp hs).pull 1 rfl
  refine (send_c (T := Bare) h0 (msgOf_bare x y n) h1 h2).mono fun e w' h => ?_
  have e1 : N.off (min (Bare.fr (msgOf x y n)) (Bare.tt (msgOf x y n))) (max (Bare.fr (msgOf x y n)) (Bare.tt (msgOf x y n))) = N.off (min x y) (max x y) := rfl
  rw [e1] at h
  by_cases hc : N.off (min x y) (max x y) = true
  · rw [if_pos hc] at h ⊢
    exact ⟨h.1, (h.2.pull 1 rfl).drop⟩
  · rw [if_neg hc] at h ⊢
    by_cases hf : N.most ≤ N.l.length
    · rw [if_pos hf] at h ⊢
      exact ⟨h.1, (h.2.pull 1 rfl).drop⟩
    · rw [if_neg hf] at h ⊢
      obtain ⟨s', _, he, h⟩ := h
      exact ⟨he, (h.pull 1 rfl).drop⟩
theorem sendB_ok (hs : Sat (NetB N b :: F) w) (x y n : Int) (h1 : N.last + 1 < 9223372036854775808) (h2 : N.lost + 1 < 9223372036854775808) (ho : N.off (min x y) (max x y) = false) (hf : N.l.length < N.most) :
    Calls Try.prog 11 #[.pointer (some ⟨b, 0, none⟩), (msgOf x y n).agg] w (Ret (.tuple #[.int .i64 ((N.last + 1 : Nat) : Int), .int .i64 0]) (Sat (NetB (N.add (msgOf x y n)) b :: F))) := by
  refine (sendB hs x y n h1 h2).mono fun e w' h => ?_
  rw [if_neg (by rw [ho]; simp), if_neg (by omega)] at h
  exact h
theorem takeB (hs : Sat (NetB N b :: F) w) (h1 : N.last < 9223372036854775808) {i : Nat} {y : Nat × Bare.α} (hy : N.l[i]? = some y) (hu : N.WF) :
    Calls Try.prog 15 #[.pointer (some ⟨b, 0, none⟩), .int .i64 (y.1 : Int)] w fun e w' => ∃ m : Mg, BareQ m y.2 ∧ Ret (.tuple #[m.agg, .int .i64 0]) (Sat (NetB (N.erase i) b :: F)) e w' := by
  have hi := hu.ids y (List.mem_of_getElem? hy)
  refine (take_c hs h1 (id := (y.1 : Int)) (by omega)).mono fun e w' h => ?_
  rcases h with ⟨hn, _⟩ | ⟨j, z, m, hz, hzi, hq, h⟩
  · exact absurd rfl (hn y (List.mem_of_getElem? hy))
  · have hlt := get_lt hy
    have hlt2 := get_lt hz
    have hij : j = i := by
      rcases Nat.lt_trichotomy i j with h | h | h
      · have := List.pairwise_iff_getElem.1 hu.up i j hlt hlt2 h
        rw [List.getElem?_eq_getElem hlt] at hy
        rw [List.getElem?_eq_getElem hlt2] at hz
        cases hy; cases hz; omega
      · exact h.symm
      · have := List.pairwise_iff_getElem.1 hu.up j i hlt2 hlt h
        rw [List.getElem?_eq_getElem hlt] at hy
        rw [List.getElem?_eq_getElem hlt2] at hz
        cases hy; cases hz; omega
    subst hij
    rw [hy] at hz
    cases hz
    exact ⟨m, hq, h⟩
theorem netWF (hs : Sat (NetB N b :: F) w) : N.WF := (net_open hs).1
end

theorem awake_c {F : List HP} {w : World} (hs : Sat F w) : Calls Try.prog 8 #[] w (Ret (.bool true) (Sat F)) := by
  refine S_law24_awake_ok _ _ ?_
  unfold S_law24_awake
  refine (fresh_c (n := 2) (by omega) (by omega) hs).mono ?_
  rintro e w1 ⟨b, rfl, h1⟩
  refine ⟨_, rfl, cond_f rfl ?_⟩
  refine (msg_c 0 1 7 h1).mono ?_
  rintro e w2 ⟨rfl, h2⟩
  refine ⟨_, _, _, _, _, _, _, _, _, _, _, _, _, _, _, _, _, _, _, _, _, _, _, rfl, ?_⟩
  refine (sendB_ok h2 0 1 7 (by decide) (by decide) rfl (by decide)).mono ?_
  rintro e w3 ⟨rfl, h3⟩
  refine ⟨_, _, rfl, ?_⟩
  refine (takeB h3 (by decide) (i := 0) (y := (1, msgOf 0 1 7)) rfl (netWF h3)).mono ?_
  rintro e w4 ⟨m, hq, rfl, h4⟩
  refine ⟨_, _, _, _, _, _, _, _, _, _, _, _, _, _, _, _, _, _, _, _, _, _, _, _, rfl, ?_⟩
  refine NewC.ofRow h4 fun b0 w5 h5 => stMsg (m := m) h5 0 rfl fun w6 h6 => ?_
  refine ⟨fun w => Sat (Row b0 m.cells 37 :: NetB ((Nt.new 2 |>.add (msgOf 0 1 7)).erase 0) b :: F) w, h6.drew, cond_t rfl (cond_t rfl (cond_t rfl ?_))⟩
  refine ⟨m.kind, m.from_, m.to, m.view, m.op, m.commit, m.base, m.normal, m.nonce, m.lp, m.ll, m.lc, m.ip, m.il, m.ic, m.ec, m.en, m.et, m.re, m.rn, m.dp, m.dl, m.dc, fun w h => ldMsgRow (m := m) h 0 rfl rfl, ?_⟩
  refine (msg_c 0 1 7 h6.drew).mono ?_
  rintro e w7 ⟨rfl, h7⟩
  refine ⟨_, _, _, _, _, _, _, _, _, _, _, _, _, _, _, _, _, _, _, _, _, _, _, rfl, h7, ?_⟩
  refine (same_bare hq (msgOf_bare 0 1 7) h7.drop).mono ?_
  rintro e w8 ⟨rfl, h8⟩
  refine ⟨_, rfl, cond_t rfl ?_⟩
  refine (count_c h8).mono ?_
  rintro e w9 ⟨rfl, rfl⟩
  exact ⟨_, rfl, rfl, h8.drop⟩
end Go.Proofs.Ytjpaoggcphfjeaa
