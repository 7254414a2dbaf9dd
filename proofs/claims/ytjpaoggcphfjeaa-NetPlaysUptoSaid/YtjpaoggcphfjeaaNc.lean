/- What the package net's functions come to; over whatever is known of its messages. -/
import Derived.Test.YtjpaoggcphfjeaaMp
import Derived.Test.YtjpaoggcphfjeaaDl
import Derived.Test.YtjpaoggcphfjeaaWd
import Derived.Test.YtjpaoggcphfjeaaLx
import Derived.Test.YtjpaoggcphfjeaaG
namespace Go.Proofs.Ytjpaoggcphfjeaa
open Go Go.Lw Go.Tb Go.Wd

theorem LdStr.at {w : World} {n : ByteArray} {a : Addr} {K : ByteArray → Prop} (hc : w.cell? a = some (.string n)) (h : K n) : LdStr w a K := ⟨n, hc, h⟩
theorem LdM.at {w : World} {n : Option Nat} {a : Addr} {K : Option Nat → Prop} (hc : w.cell? a = some (.map n)) (h : K n) : LdM w a K := ⟨n, hc, h⟩
theorem LdM.of {L : List HP} {w : World} {b off T : Nat} {cs : List Value} {a : Addr} {n : Option Nat} {K : Option Nat → Prop} (hs : Sat L w) (i : Nat) (hi : L[i]? = some (Row b cs T)) (hc : cs[off]? = some (.map n)) (ha : a = ⟨b, off, none⟩) (h : K n) : LdM w a K :=
  ⟨n, by rw [ha]; exact hs.cell i hi hc, h⟩

/-- a message, as it lies in its seventeen cells. -/
structure Mg where
  kind : Int
  from_ : Int
  to : Int
  view : Int
  op : Int
  commit : Int
  base : Int
  normal : Int
  nonce : Int
  lp : Option Addr
  ll : Nat
  lc : Nat
  ip : Option Addr
  il : Nat
  ic : Nat
  ec : Int
  en : Int
  et : ByteArray
  re : Int
  rn : Int
  dp : Option Addr
  dl : Nat
  dc : Nat
def Mg.cells (m : Mg) : List Value := [.int .i64 m.kind, .int .i64 m.from_, .int .i64 m.to, .int .i64 m.view, .int .i64 m.op, .int .i64 m.commit, .int .i64 m.base, .int .i64 m.normal, .int .i64 m.nonce, .slice m.lp m.ll m.lc, .slice m.ip m.il m.ic, .int .i64 m.ec, .int .i64 m.en, .string m.et, .int .i64 m.re, .int .i64 m.rn, .slice m.dp m.dl m.dc]
def Mg.agg (m : Mg) : Value := .agg #[.int .i64 m.kind, .int .i64 m.from_, .int .i64 m.to, .int .i64 m.view, .int .i64 m.op, .int .i64 m.commit, .int .i64 m.base, .int .i64 m.normal, .int .i64 m.nonce, .slice m.lp m.ll m.lc, .slice m.ip m.il m.ic, .int .i64 m.ec, .int .i64 m.en, .string m.et, .int .i64 m.re, .int .i64 m.rn, .slice m.dp m.dl m.dc]
theorem ldMsg {w : World} {a : Addr} {m : Mg} {K : Int → Int → Int → Int → Int → Int → Int → Int → Int → Option Addr → Nat → Nat → Option Addr → Nat → Nat → Int → Int → ByteArray → Int → Int → Option Addr → Nat → Nat → Prop} (hc : ∀ j v, m.cells[j]? = some v → w.cell? (a.add j) = some v) (h : K m.kind m.from_ m.to m.view m.op m.commit m.base m.normal m.nonce m.lp m.ll m.lc m.ip m.il m.ic m.ec m.en m.et m.re m.rn m.dp m.dl m.dc) : Ld_api_Msg w a K := by
  unfold Ld_api_Msg
  exact LdI.at (by simpa [Addr.add] using hc 0 _ rfl) (LdI.at (hc 1 _ rfl) (LdI.at (hc 2 _ rfl) (LdI.at (hc 3 _ rfl) (LdI.at (hc 4 _ rfl) (LdI.at (hc 5 _ rfl) (LdI.at (hc 6 _ rfl) (LdI.at (hc 7 _ rfl) (LdI.at (hc 8 _ rfl) (LdS.at (hc 9 _ rfl) (LdS.at (hc 10 _ rfl) (LdI.at (hc 11 _ rfl) (LdI.at (hc 12 _ rfl) (LdStr.at (hc 13 _ rfl) (LdI.at (hc 14 _ rfl) (LdI.at (hc 15 _ rfl) (LdS.at (hc 16 _ rfl) (h)))))))))))))))))
theorem ldMsgRow {L : List HP} {w : World} {b T : Nat} {m : Mg} {K : Int → Int → Int → Int → Int → Int → Int → Int → Int → Option Addr → Nat → Nat → Option Addr → Nat → Nat → Int → Int → ByteArray → Int → Int → Option Addr → Nat → Nat → Prop} (hs : Sat L w) (i : Nat) (hi : L[i]? = some (Row b m.cells T)) (h : K m.kind m.from_ m.to m.view m.op m.commit m.base m.normal m.nonce m.lp m.ll m.lc m.ip m.il m.ic m.ec m.en m.et m.re m.rn m.dp m.dl m.dc) : Ld_api_Msg w ⟨b, 0, none⟩ K :=
  ldMsg (fun j v hj => by rw [add_mk, Nat.zero_add]; exact hs.cell i hi hj) h
theorem ldPk {w : World} {a : Addr} {id : Int} {m : Mg} {K : Int → Int → Int → Int → Int → Int → Int → Int → Int → Int → Option Addr → Nat → Nat → Option Addr → Nat → Nat → Int → Int → ByteArray → Int → Int → Option Addr → Nat → Nat → Prop} (hc : ∀ j v, (Value.int .i64 id :: m.cells)[j]? = some v → w.cell? (a.add j) = some v) (h : K id m.kind m.from_ m.to m.view m.op m.commit m.base m.normal m.nonce m.lp m.ll m.lc m.ip m.il m.ic m.ec m.en m.et m.re m.rn m.dp m.dl m.dc) : Ld_net_Packet w a K := by
  unfold Ld_net_Packet
  exact LdI.at (by simpa [Addr.add] using hc 0 _ rfl) (LdI.at (hc 1 _ rfl) (LdI.at (hc 2 _ rfl) (LdI.at (hc 3 _ rfl) (LdI.at (hc 4 _ rfl) (LdI.at (hc 5 _ rfl) (LdI.at (hc 6 _ rfl) (LdI.at (hc 7 _ rfl) (LdI.at (hc 8 _ rfl) (LdI.at (hc 9 _ rfl) (LdS.at (hc 10 _ rfl) (LdS.at (hc 11 _ rfl) (LdI.at (hc 12 _ rfl) (LdI.at (hc 13 _ rfl) (LdStr.at (hc 14 _ rfl) (LdI.at (hc 15 _ rfl) (LdI.at (hc 16 _ rfl) (LdS.at (hc 17 _ rfl) (h))))))))))))))))))
theorem stMsg {L : List HP} {w : World} {b T : Nat} {c0 c1 c2 c3 c4 c5 c6 c7 c8 c9 c10 c11 c12 c13 c14 c15 c16 : Value} {m : Mg} {K : World → Prop} (hs : Sat L w) (i : Nat) (hi : L[i]? = some (Row b [c0, c1, c2, c3, c4, c5, c6, c7, c8, c9, c10, c11, c12, c13, c14, c15, c16] T)) (h : ∀ w', Sat (L.set i (Row b m.cells T)) w' → K w') :
    St_api_Msg w ⟨b, 0, none⟩ m.kind m.from_ m.to m.view m.op m.commit m.base m.normal m.nonce m.lp m.ll m.lc m.ip m.il m.ic m.ec m.en m.et m.re m.rn m.dp m.dl m.dc K := by
  unfold St_api_Msg
  simp only [add_mk, Nat.zero_add]
  refine StC.of hs i hi (off := 0) rfl rfl fun w1 h1 => ?_
  simp only [List.set_cons_succ, List.set_cons_zero] at h1
  refine StC.of h1 i (get_set_self hi) (off := 1) rfl rfl fun w2 h2 => ?_
  rw [set_set_self] at h2
  simp only [List.set_cons_succ, List.set_cons_zero] at h2
  refine StC.of h2 i (get_set_self hi) (off := 2) rfl rfl fun w3 h3 => ?_
  rw [set_set_self] at h3
  simp only [List.set_cons_succ, List.set_cons_zero] at h3
  refine StC.of h3 i (get_set_self hi) (off := 3) rfl rfl fun w4 h4 => ?_
  rw [set_set_self] at h4
  simp only [List.set_cons_succ, List.set_cons_zero] at h4
  refine StC.of h4 i (get_set_self hi) (off := 4) rfl rfl fun w5 h5 => ?_
  rw [set_set_self] at h5
  simp only [List.set_cons_succ, List.set_cons_zero] at h5
  refine StC.of h5 i (get_set_self hi) (off := 5) rfl rfl fun w6 h6 => ?_
  rw [set_set_self] at h6
  simp only [List.set_cons_succ, List.set_cons_zero] at h6
  refine StC.of h6 i (get_set_self hi) (off := 6) rfl rfl fun w7 h7 => ?_
  rw [set_set_self] at h7
  simp only [List.set_cons_succ, List.set_cons_zero] at h7
  refine StC.of h7 i (get_set_self hi) (off := 7) rfl rfl fun w8 h8 => ?_
  rw [set_set_self] at h8
  simp only [List.set_cons_succ, List.set_cons_zero] at h8
  refine StC.of h8 i (get_set_self hi) (off := 8) rfl rfl fun w9 h9 => ?_
  rw [set_set_self] at h9
  simp only [List.set_cons_succ, List.set_cons_zero] at h9
  refine StC.of h9 i (get_set_self hi) (off := 9) rfl rfl fun w10 h10 => ?_
  rw [set_set_self] at h10
  simp only [List.set_cons_succ, List.set_cons_zero] at h10
  refine StC.of h10 i (get_set_self hi) (off := 10) rfl rfl fun w11 h11 => ?_
  rw [set_set_self] at h11
  simp only [List.set_cons_succ, List.set_cons_zero] at h11
  refine StC.of h11 i (get_set_self hi) (off := 11) rfl rfl fun w12 h12 => ?_
  rw [set_set_self] at h12
  simp only [List.set_cons_succ, List.set_cons_zero] at h12
  refine StC.of h12 i (get_set_self hi) (off := 12) rfl rfl fun w13 h13 => ?_
  rw [set_set_self] at h13
  simp only [List.set_cons_succ, List.set_cons_zero] at h13
  refine StC.of h13 i (get_set_self hi) (off := 13) rfl rfl fun w14 h14 => ?_
  rw [set_set_self] at h14
  simp only [List.set_cons_succ, List.set_cons_zero] at h14
  refine StC.of h14 i (get_set_self hi) (off := 14) rfl rfl fun w15 h15 => ?_
  rw [set_set_self] at h15
  simp only [List.set_cons_succ, List.set_cons_zero] at h15
  refine StC.of h15 i (get_set_self hi) (off := 15) rfl rfl fun w16 h16 => ?_
  rw [set_set_self] at h16
  simp only [List.set_cons_succ, List.set_cons_zero] at h16
  refine StC.of h16 i (get_set_self hi) (off := 16) rfl rfl fun w17 h17 => ?_
  rw [set_set_self] at h17
  simp only [List.set_cons_succ, List.set_cons_zero] at h17
  exact h _ h17

theorem Mg.one (m : Mg) : ∀ u ∈ m.cells, u.oneCell' = true := by
  intro u hu
  simp only [Mg.cells, List.mem_cons, List.not_mem_nil, or_false] at hu
  rcases hu with rfl | rfl | rfl | rfl | rfl | rfl | rfl | rfl | rfl | rfl | rfl | rfl | rfl | rfl | rfl | rfl | rfl <;> rfl
theorem Mg.len (m : Mg) : m.cells.length = 17 := rfl

/-! Packets in a row. -/
def pcells (l : List (Nat × Mg)) : List Value := l.flatMap fun x => .int .i64 (x.1 : Int) :: x.2.cells
theorem pcells_len (l : List (Nat × Mg)) : (pcells l).length = l.length * 18 := by
  induction l with
  | nil => rfl
  | cons x l ih => unfold pcells at ih ⊢; simp only [List.flatMap_cons, List.length_append, ih, List.length_cons, Mg.len]; omega
theorem pcells_get : ∀ {l : List (Nat × Mg)} {k q : Nat} {x : Nat × Mg}, l[k]? = some x → q < 18 → (pcells l)[k * 18 + q]? = (Value.int .i64 (x.1 : Int) :: x.2.cells)[q]?
  | [], _, _, _, h, _ => by simp at h
  | y :: l, 0, q, x, h, hq => by
    simp at h; subst h
    unfold pcells
    rw [List.flatMap_cons, Nat.zero_mul, Nat.zero_add, List.getElem?_append_left (by rw [List.length_cons, Mg.len]; exact hq)]
  | y :: l, k + 1, q, x, h, hq => by
    simp only [List.getElem?_cons_succ] at h
    have ih := pcells_get h hq
    unfold pcells at ih ⊢
    rw [List.flatMap_cons, List.getElem?_append_right (by rw [List.length_cons, Mg.len]; omega), ← ih]
    congr 1
    rw [List.length_cons, Mg.len]
    omega
theorem pcells_snoc (l : List (Nat × Mg)) (x : Nat × Mg) : pcells (l ++ [x]) = pcells l ++ (.int .i64 (x.1 : Int) :: x.2.cells) := by simp [pcells]
theorem pcells_one (l : List (Nat × Mg)) : ∀ u ∈ pcells l, u.oneCell' = true := by
  intro u hu
  obtain ⟨x, _, hx⟩ := List.mem_flatMap.1 hu
  rcases List.mem_cons.1 hx with rfl | hx
  · rfl
  · exact x.2.one u hx
theorem pcells_take (l : List (Nat × Mg)) : ∀ k, (pcells l).take (k * 18) = pcells (l.take k)
  | 0 => by simp [pcells]
  | k + 1 => by
    cases l with
    | nil => simp [pcells]
    | cons x l =>
      have ih := pcells_take l k
      unfold pcells at ih ⊢
      rw [List.take_succ_cons, List.flatMap_cons, List.flatMap_cons, Nat.succ_mul, Nat.add_comm, ← ih]
      have hl : (Value.int .i64 (x.1 : Int) :: x.2.cells).length = 18 := by rw [List.length_cons, Mg.len]
      rw [List.take_append, hl, List.take_of_length_le (by omega), show 18 + k * 18 - 18 = k * 18 by omega]
theorem pcells_drop (l : List (Nat × Mg)) : ∀ k, (pcells l).drop (k * 18) = pcells (l.drop k)
  | 0 => by simp
  | k + 1 => by
    cases l with
    | nil => simp [pcells]
    | cons x l =>
      have ih := pcells_drop l k
      unfold pcells at ih ⊢
      rw [List.drop_succ_cons, List.flatMap_cons, Nat.succ_mul, Nat.add_comm, ← ih]
      have hl : (Value.int .i64 (x.1 : Int) :: x.2.cells).length = 18 := by rw [List.length_cons, Mg.len]
      rw [List.drop_append, hl, List.drop_eq_nil_of_le (by omega), show 18 + k * 18 - 18 = k * 18 by omega, List.nil_append]
theorem pcells_erase (l : List (Nat × Mg)) (k : Nat) : (pcells l).take (k * 18) ++ (pcells l).drop ((k + 1) * 18) = pcells (l.eraseIdx k) := by
  rw [pcells_take, pcells_drop, List.eraseIdx_eq_take_drop_succ]
  simp [pcells]

/-! What is known of messages, and what copying one comes to. -/
structure MT where
  σ : Type
  α : Type
  Kp : σ → HP
  le : σ → σ → Prop
  Q : σ → Mg → α → Prop
  fr : α → Int
  tt : α → Int
  refl : ∀ s, le s s
  trans : ∀ {a b c}, le a b → le b c → le a c
  mono : ∀ {s s' m k}, le s s' → Q s m k → Q s' m k
  ends : ∀ {s m k}, Q s m k → m.from_ = fr k ∧ m.to = tt k
  copied : ∀ {s : σ} {m : Mg} {k : α} {F : List HP} {w : World}, Q s m k → Sat (Kp s :: F) w →
    Calls Try.prog 39 #[m.agg] w fun e w' => ∃ s' m', le s s' ∧ Q s' m' k ∧ e = .returned m'.agg ∧ Sat (Kp s' :: F) w'

structure Nt (α : Type) where
  most : Nat
  l : List (Nat × α)
  last : Nat
  lost : Nat
  off : Int → Int → Bool
structure Nt.WF {α : Type} (N : Nt α) : Prop where
  pos : 1 ≤ N.most
  most : N.most ≤ 100000
  cnt : N.l.length ≤ N.most
  up : N.l.Pairwise fun a b => a.1 < b.1
  ids : ∀ x ∈ N.l, 1 ≤ x.1 ∧ x.1 ≤ N.last
def Nt.new {α : Type} (n : Nat) : Nt α := ⟨n, [], 0, 0, fun _ _ => false⟩
/-- the packets that lie there are those that are meant. -/
structure Pks (T : MT) (s : T.σ) (pm : List (Nat × Mg)) (l : List (Nat × T.α)) : Prop where
  len : pm.length = l.length
  each : ∀ (i : Nat) x y, pm[i]? = some x → l[i]? = some y → x.1 = y.1 ∧ T.Q s x.2 y.2
theorem Pks.mono {T : MT} {s s' : T.σ} {pm : List (Nat × Mg)} {l : List (Nat × T.α)} (h : Pks T s pm l) (hl : T.le s s') : Pks T s' pm l :=
  ⟨h.len, fun i x y hx hy => ⟨(h.each i x y hx hy).1, T.mono hl (h.each i x y hx hy).2⟩⟩
theorem Pks.snoc {T : MT} {s : T.σ} {pm : List (Nat × Mg)} {l : List (Nat × T.α)} (h : Pks T s pm l) {n : Nat} {m : Mg} {k : T.α} (hq : T.Q s m k) : Pks T s (pm ++ [(n, m)]) (l ++ [(n, k)]) := by
  refine ⟨by simp [h.len], fun i x y hx hy => ?_⟩
  have hl := h.len
  rcases Nat.lt_or_ge i l.length with hlt | hge
  · rw [List.getElem?_append_left (by omega)] at hx hy
    exact h.each i x y hx hy
  · rw [List.getElem?_append_right (by omega)] at hx hy
    have h0 : i - l.length = 0 := by
      have := get_lt hy
      rw [List.length_singleton] at this
      omega
    rw [hl, h0] at hx
    rw [h0] at hy
    cases hx
    cases hy
    exact ⟨rfl, hq⟩
theorem Pks.erase {T : MT} {s : T.σ} {pm : List (Nat × Mg)} {l : List (Nat × T.α)} (h : Pks T s pm l) (k : Nat) : Pks T s (pm.eraseIdx k) (l.eraseIdx k) := by
  refine ⟨by simp [List.length_eraseIdx, h.len], fun i x y hx hy => ?_⟩
  rw [List.getElem?_eraseIdx] at hx hy
  split at hx
  · rename_i hlt; rw [if_pos hlt] at hy; exact h.each i x y hx hy
  · rename_i hlt; rw [if_neg hlt] at hy; exact h.each (i + 1) x y hx hy
theorem Pks.get {T : MT} {s : T.σ} {pm : List (Nat × Mg)} {l : List (Nat × T.α)} (h : Pks T s pm l) {i : Nat} {y : Nat × T.α} (hy : l[i]? = some y) : ∃ x, pm[i]? = some x ∧ x.1 = y.1 ∧ T.Q s x.2 y.2 := by
  have hl := get_lt hy
  rw [← h.len] at hl
  exact ⟨pm[i], List.getElem?_eq_getElem hl, h.each i _ y (List.getElem?_eq_getElem hl) hy⟩

set_option maxRecDepth 100000 in
theorem eok_pk : EOK Try.prog 73 80 18 200 := ⟨by kernel_rfl, ⟨_, _, rfl, rfl, rfl, rfl, rfl⟩, by omega⟩
set_option maxRecDepth 100000 in
theorem k2 : K2 Try.prog 71 := ⟨by kernel_rfl, by kernel_rfl, by kernel_rfl⟩

def nRow (p : Option Addr) (n c r : Nat) (most last lost : Nat) : List Value := [.int .i64 (most : Int), .slice p n c, .int .i64 (last : Int), .map (some r), .int .i64 (lost : Int)]
structure NX where
  p : Option Addr
  c : Nat
  r : Nat
  pm : List (Nat × Mg)
def NetP (T : MT) (s : T.σ) (N : Nt T.α) (b : Nat) : HP := HEx fun (x : NX) => HAnd (N.WF ∧ Pks T s x.pm N.l) (star (Row b (nRow x.p x.pm.length x.c x.r N.most N.last N.lost) 76) (star (Own 80 18 x.p x.pm.length x.c (pcells x.pm)) (CutM (.agg #[]) N.off x.r)))
theorem net_open {T : MT} {s : T.σ} {N : Nt T.α} {b : Nat} {F : List HP} {w : World} (hs : Sat (NetP T s N b :: F) w) : N.WF ∧ ∃ p c r pm, Pks T s pm N.l ∧
    Sat (Row b (nRow p pm.length c r N.most N.last N.lost) 76 :: Own 80 18 p pm.length c (pcells pm) :: CutM (.agg #[]) N.off r :: F) w := by
  obtain ⟨x, h⟩ := hs.ex
  obtain ⟨⟨h1, h2⟩, h⟩ := h.pureOf
  have h3 := (h.split.pull 1 rfl).split
  exact ⟨h1, x.p, x.c, x.r, x.pm, h2, h3.pull 2 rfl⟩
theorem net_shut {T : MT} {s : T.σ} {N : Nt T.α} {b : Nat} {F : List HP} {w : World} {p : Option Addr} {c r : Nat} {pm : List (Nat × Mg)} (h1 : N.WF) (h2 : Pks T s pm N.l)
    (hs : Sat (Row b (nRow p pm.length c r N.most N.last N.lost) 76 :: Own 80 18 p pm.length c (pcells pm) :: CutM (.agg #[]) N.off r :: F) w) : Sat (NetP T s N b :: F) w := by
  refine Sat.mkEx ⟨p, c, r, pm⟩ (Sat.mkPure ⟨h1, h2⟩ ?_)
  have h3 : Sat (Own 80 18 p pm.length c (pcells pm) :: CutM (.agg #[]) N.off r :: Row b (nRow p pm.length c r N.most N.last N.lost) 76 :: F) w := (hs.pull 2 rfl).pull 2 rfl
  exact (h3.join.pull 1 rfl).join

section
variable {T : MT} {s : T.σ} {N : Nt T.α} {b : Nat} {F : List HP} {w : World}

theorem lost_c (hs : Sat (NetP T s N b :: F) w) : Calls Try.prog 13 #[.pointer (some ⟨b, 0, none⟩)] w fun e w' => e = .returned (.int .i64 (N.lost : Int)) ∧ w = w' := by
  obtain ⟨_, p, c, r, pm, _, h⟩ := net_open hs
  refine S_net_Net_Lost_ok _ _ _ ?_
  unfold S_net_Net_Lost
  simp only [onSome_some, add_mk, Nat.zero_add]
  exact LdI.of h 0 rfl (off := 4) rfl rfl ⟨rfl, by trivial⟩
theorem count_c (hs : Sat (NetP T s N b :: F) w) : Calls Try.prog 19 #[.pointer (some ⟨b, 0, none⟩)] w fun e w' => e = .returned (.int .i64 (N.l.length : Nat)) ∧ w = w' := by
  obtain ⟨_, p, c, r, pm, hp, h⟩ := net_open hs
  refine S_net_Net_Count_ok _ _ _ ?_
  unfold S_net_Net_Count
  simp only [onSome_some, add_mk, Nat.zero_add]
  rw [← hp.len]
  exact LdS.of h 0 rfl (off := 1) rfl rfl ⟨rfl, by trivial⟩

theorem netnew_no (n : Int) (h : n < 1 ∨ 100000 < n) (w : World) : Calls Try.prog 17 #[.int .i64 n] w (Ret (.tuple #[.pointer none, .int .i64 1]) (w = ·)) := by
  refine S_net_New_ok _ _ _ ?_
  unfold S_net_New
  by_cases h1 : n < 1
  · exact cond_t (by simpa using h1) ⟨rfl, rfl⟩
  · exact cond_f (by simpa using h1) (cond_t (by simp; omega) ⟨rfl, rfl⟩)
theorem netnew_c (T : MT) (s : T.σ) {n : Nat} (h1 : 1 ≤ n) (h2 : n ≤ 100000) {F : List HP} {w : World} (hs : Sat F w) : Calls Try.prog 17 #[.int .i64 (n : Int)] w fun e w' =>
    ∃ b, e = .returned (.tuple #[.pointer (some ⟨b, 0, none⟩), .int .i64 0]) ∧ Sat (NetP T s (Nt.new n) b :: F) w' := by
  refine S_net_New_ok _ _ _ ?_
  unfold S_net_New
  refine cond_f (by simp; omega) (cond_f (by simp; omega) ?_)
  refine NewC.of hs fun r w1 h3 => ?_
  refine NewC.ofRow h3 fun b w2 h4 => ⟨b, rfl, ?_⟩
  have h5 : Sat (Blk r (.map #[] 0) :: Row b (nRow none 0 0 r n 0 0) 76 :: F) w2 := h4.pull 1 rfl
  have h6 := h5.cutNew (v := .agg #[])
  have h7 := h6.ownNil 80 18
  have h8 : Sat (Row b (nRow none 0 0 r n 0 0) 76 :: Own 80 18 none 0 0 [] :: CutM (.agg #[]) (fun _ _ => false) r :: F) w2 := h7.pull 2 rfl
  exact net_shut (N := Nt.new n) (pm := []) ⟨h1, h2, Nat.zero_le _, List.Pairwise.nil, fun x hx => by simp [Nt.new] at hx⟩ ⟨rfl, fun i x y hx _ => by simp at hx⟩ h8

theorem iMin_eq (a b : Int) : iMin a b = min a b := by unfold iMin; split <;> omega
theorem iMax_eq (a b : Int) : iMax a b = max a b := by unfold iMax; split <;> omega
def Nt.cut {α : Type} (N : Nt α) (a b : Int) (on : Bool) : Nt α := { N with off := bif on then (fun x y => N.off x y || (x == min a b && y == max a b)) else (fun x y => N.off x y && !(x == min a b && y == max a b)) }
theorem Nt.cut_wf {α : Type} {N : Nt α} (h : N.WF) (a b : Int) (on : Bool) : (N.cut a b on).WF := ⟨h.pos, h.most, h.cnt, h.up, h.ids⟩

theorem cut_c (hs : Sat (NetP T s N b :: F) w) (x y : Int) (on : Bool) : Calls Try.prog 10 #[.pointer (some ⟨b, 0, none⟩), .int .i64 x, .int .i64 y, .bool on] w (Ret (.tuple #[]) (Sat (NetP T s (N.cut x y on) b :: F))) := by
  obtain ⟨hwf, p, c, r, pm, hp, h⟩ := net_open hs
  refine S_net_Net_Cut_ok _ _ _ _ _ _ ?_
  unfold S_net_Net_Cut
  refine NewC.ofRow h fun b1 w1 h1 => ?_
  simp only [add_mk, Nat.zero_add, onSome_some, iMin_eq, iMax_eq]
  refine StC.of h1 0 rfl (off := 0) rfl rfl fun w2 h2 => StC.of h2 0 rfl (off := 1) rfl rfl fun w3 h3 => ?_
  have h4 := h3.drew
  have h5 : Sat (CutM (.agg #[]) N.off r :: Row b1 [.int .i64 (min x y), .int .i64 (max x y)] 71 :: Row b (nRow p pm.length c r N.most N.last N.lost) 76 :: Own 80 18 p pm.length c (pcells pm) :: F) w3.drew := h4.pull 3 rfl
  have fin : ∀ (N' : Nt T.α) (w : World), N'.WF → N'.l = N.l → N'.most = N.most → N'.last = N.last → N'.lost = N.lost →
      Sat (CutM (.agg #[]) N'.off r :: Row b1 [.int .i64 (min x y), .int .i64 (max x y)] 71 :: Row b (nRow p pm.length c r N.most N.last N.lost) 76 :: Own 80 18 p pm.length c (pcells pm) :: F) w → Sat (NetP T s N' b :: F) w := by
    intro N' w h6 e1 e2 e3 e4 h7
    have h8 : Sat (Row b (nRow p pm.length c r N.most N.last N.lost) 76 :: Own 80 18 p pm.length c (pcells pm) :: CutM (.agg #[]) N'.off r :: F) w := by
      have a1 := (h7.pull 1 rfl).drop
      have a2 := a1.pull 2 rfl
      exact a2.pull 2 rfl
    rw [← e2, ← e3, ← e4] at h8
    exact net_shut h6 (by rw [e1]; exact hp) h8
  cases on with
  | true =>
    refine cond_t rfl ?_
    refine LdM.of h4 1 rfl (off := 3) rfl rfl (LdI.of h4 0 rfl (off := 0) rfl rfl (LdI.of h4 0 rfl (off := 1) rfl rfl ?_))
    refine k2.put Try.underlying74 h5 _ _ fun w6 h6 => ⟨rfl, ?_⟩
    exact fin (N.cut x y true) w6 (Nt.cut_wf hwf x y true) rfl rfl rfl rfl h6
  | false =>
    refine cond_f rfl ?_
    refine LdM.of h4 1 rfl (off := 3) rfl rfl (LdI.of h4 0 rfl (off := 0) rfl rfl (LdI.of h4 0 rfl (off := 1) rfl rfl ?_))
    refine k2.del Try.underlying74 h5 _ _ fun w6 h6 => ⟨rfl, ?_⟩
    exact fin (N.cut x y false) w6 (Nt.cut_wf hwf x y false) rfl rfl rfl rfl h6

theorem pick_c (hs : Sat (NetP T s N b :: F) w) (k : Int) : Calls Try.prog 14 #[.pointer (some ⟨b, 0, none⟩), .int .i64 k] w
    (Ret (if N.l = [] then .tuple #[.int .i64 0, .int .i64 17] else if k < 0 then .tuple #[.int .i64 0, .int .i64 1] else match N.l[k.toNat % N.l.length]? with | some x => .tuple #[.int .i64 (x.1 : Nat), .int .i64 0] | none => .bool false) (Sat (NetP T s N b :: F))) := by
  obtain ⟨hwf, p, c, r, pm, hp, h⟩ := net_open hs
  refine S_net_Net_Pick_ok _ _ _ _ ?_
  unfold S_net_Net_Pick
  simp only [add_mk, Nat.zero_add, onSome_some]
  have hl := hp.len
  refine LdS.of h 0 rfl (off := 1) rfl rfl ?_
  by_cases h0 : N.l = []
  · rw [if_pos h0]
    have : pm.length = 0 := by rw [hl, h0]; rfl
    exact cond_t (by simp [this]) ⟨rfl, hs⟩
  rw [if_neg h0]
  have hpos : 0 < N.l.length := List.length_pos_iff.2 h0
  refine cond_f (by rw [hl]; simp [h0]) ?_
  by_cases hk : k < 0
  · rw [if_pos hk]; exact cond_t (by simpa using hk) ⟨rfl, hs⟩
  rw [if_neg hk]
  refine cond_f (by simpa using hk) ?_
  have h1 := h.drew
  obtain ⟨q, rfl⟩ := Int.eq_ofNat_of_zero_le (Int.not_lt.1 hk)
  have hlt : q % N.l.length < N.l.length := Nat.mod_lt _ hpos
  have hy : N.l[q % N.l.length]? = some N.l[q % N.l.length] := List.getElem?_eq_getElem hlt
  generalize N.l[q % N.l.length] = y at hy
  obtain ⟨x, hx, e1, _⟩ := hp.get hy
  refine LdS.of h1 0 rfl (off := 1) rfl rfl (LdS.of h1 0 rfl (off := 1) rfl rfl ⟨by omega, ?_⟩)
  rw [tmod_nat, Int.toNat_natCast, hy]
  rw [← hl] at hlt hx
  refine IdxC.ownAt h1 1 rfl hlt fun g hg => ?_
  refine LdI.at (h1.ownAt 1 rfl hg ((pcells_get (q := 0) hx (by omega)).trans rfl)) ?_
  exact ⟨by rw [e1], hs.drew⟩

end

/-! The search. -/
structure Up (pm : List (Nat × Mg)) : Prop where
  up : pm.Pairwise fun a b => a.1 < b.1
  ids : ∀ x ∈ pm, 1 ≤ x.1 ∧ x.1 < 9223372036854775808
theorem Up.lt {pm : List (Nat × Mg)} (h : Up pm) {i j : Nat} {x y : Nat × Mg} (hx : pm[i]? = some x) (hy : pm[j]? = some y) (hij : i < j) : x.1 < y.1 := by
  have h1 := get_lt hx; have h2 := get_lt hy
  have := List.pairwise_iff_getElem.1 h.up i j h1 h2 hij
  rw [List.getElem?_eq_getElem h1] at hx
  rw [List.getElem?_eq_getElem h2] at hy
  cases hx
  cases hy
  exact this

theorem less_c {x : Nat × Mg} {id : Int} {L : List HP} {w : World} (hs : Sat L w) : Calls Try.prog 41 #[.agg #[.int .i64 (x.1 : Int), .int .i64 x.2.kind, .int .i64 x.2.from_, .int .i64 x.2.to, .int .i64 x.2.view, .int .i64 x.2.op, .int .i64 x.2.commit, .int .i64 x.2.base, .int .i64 x.2.normal, .int .i64 x.2.nonce, .slice x.2.lp x.2.ll x.2.lc, .slice x.2.ip x.2.il x.2.ic, .int .i64 x.2.ec, .int .i64 x.2.en, .string x.2.et, .int .i64 x.2.re, .int .i64 x.2.rn, .slice x.2.dp x.2.dl x.2.dc], .int .i64 id] w
    (Ret (.int .i64 (IntKind.wrap .i64 ((x.1 : Int) - id))) (Sat L)) := by
  refine S_net_Net_find_1_ok _ _ _ _ _ _ _ _ _ _ _ _ _ _ _ _ _ _ _ _ _ _ _ _ _ _ _ ?_
  unfold S_net_Net_find_1
  refine NewC.ofRow hs fun b w1 h1 => ?_
  exact LdI.of h1 0 rfl (off := 0) rfl rfl ⟨rfl, h1.drop⟩

theorem search_c {L : List HP} {w : World} {p : Option Addr} {c : Nat} {pm : List (Nat × Mg)} (hs : Sat L w) (i : Nat) (hi : L[i]? = some (Own 80 18 p pm.length c (pcells pm))) (hu : Up pm) (hm : pm.length ≤ 100000) {id : Int} (hid : -9223372036854775808 ≤ id ∧ id ≤ 9223372036854775807) :
    Calls Try.prog 40 #[.slice p pm.length c, .int .i64 id, .func (.func 41) #[] #[]] w fun e w' =>
      ∃ (k : Nat) (found : Bool), e = .returned (.tuple #[.int .i64 (k : Int), .bool found]) ∧ (found = true → ∃ x, pm[k]? = some x ∧ (x.1 : Int) = id) ∧ (found = false → ∀ x ∈ pm, (x.1 : Int) ≠ id) ∧ Sat L w' := by
  refine S_slices_BinarySearchFunc_net_Packet_net_Packet_int_ok _ _ _ _ _ _ ?_
  unfold S_slices_BinarySearchFunc_net_Packet_net_Packet_int
  -- an element is looked at
  have rd : ∀ {w : World} {k : Nat} {x : Nat × Mg}, Sat L w → pm[k]? = some x → ∀ {K : Addr → Prop}, (∀ a, (∀ j v, (Value.int .i64 (x.1 : Int) :: x.2.cells)[j]? = some v → w.cell? (a.add j) = some v) → K a) → IdxC p pm.length (k : Int) 18 K := by
    intro w k x h hx K hk
    refine IdxC.ownAt h i hi (get_lt hx) fun g hg => hk _ fun j v hj => ?_
    rw [add_mk]
    refine h.ownAt i hi hg ?_
    have hlt : j < 18 := by have := get_lt hj; rw [List.length_cons, Mg.len] at this; exact this
    rw [pcells_get hx hlt]; exact hj
  refine ⟨fun a z w => ∃ lo hi : Nat, a = lo ∧ z = hi ∧ lo ≤ hi ∧ hi ≤ pm.length ∧ (0 ≤ id → (∀ (k : Nat) x, k < lo → pm[k]? = some x → (x.1 : Int) < id) ∧ (∀ (k : Nat) x, hi ≤ k → pm[k]? = some x → id ≤ x.1)) ∧ Sat L w, fun a z _ => (z - a).toNat,
    ⟨0, pm.length, rfl, rfl, by omega, by omega, fun _ => ⟨fun k x h _ => by omega, fun k x h hx => absurd (get_lt hx) (by omega)⟩, hs⟩, ?_⟩
  rintro a z w1 ⟨lo, hi', rfl, rfl, hlh, hhn, hinv, h1⟩
  unfold S_slices_BinarySearchFunc_net_Packet_net_Packet_int_l0
  by_cases hlt : lo < hi'
  · refine cond_t (by simpa using hlt) ?_
    have hmid : IntKind.wrap .i64 (bShr .u64 (IntKind.wrap .u64 (IntKind.wrap .i64 ((lo : Int) + (hi' : Int)))) 1) = (((lo + hi') / 2 : Nat) : Int) := by
      have e1 : (lo : Int) + (hi' : Int) = ((lo + hi' : Nat) : Int) := by omega
      have e2 := shr_u64 (lo + hi') 1 (by omega)
      have e3 : ((1 : Nat) : Int) = 1 := rfl
      rw [e3] at e2
      rw [Nat.pow_one] at e2
      rw [e1, wrapI64 (n := ((lo + hi' : Nat) : Int)) (by omega) (by omega), wrapU64 (n := ((lo + hi' : Nat) : Int)) (by omega) (by omega), e2, wrapI64 (by omega) (by omega)]
    rw [hmid]
    have hmlo : lo ≤ (lo + hi') / 2 ∧ (lo + hi') / 2 < hi' := by omega
    generalize (lo + hi') / 2 = mid at hmlo
    intro k0 hk0
    have hx : pm[mid]? = some (pm[mid]'(by omega)) := List.getElem?_eq_getElem _
    generalize (pm[mid]'(by omega)) = x at hx
    have hxi := hu.ids x (List.mem_of_getElem? hx)
    refine rd h1 hx fun a hc => ldPk hc ?_
    refine (less_c h1).mono ?_
    rintro e w2 ⟨rfl, h2⟩
    refine ⟨_, rfl, ?_⟩
    by_cases hneg : IntKind.wrap .i64 ((x.1 : Int) - id) < 0
    · refine cond_t (by simpa using hneg) (hk0 _ _ _ ?_)
      unfold S_slices_BinarySearchFunc_net_Packet_net_Packet_int_j0
      rw [wrapI64 (by omega) (by omega)]
      refine ⟨⟨mid + 1, hi', by omega, rfl, by omega, hhn, fun h0 => ⟨fun k y hk hy => ?_, (hinv h0).2⟩, h2⟩, by first | omega | (dsimp only; omega)⟩
      rw [wrapI64 (by omega) (by omega)] at hneg
      by_cases hkm : k = mid
      · subst hkm; rw [hx] at hy; cases hy; omega
      · have := hu.lt hy hx (by omega); omega
    · refine cond_f (by simpa using hneg) (hk0 _ _ _ ?_)
      unfold S_slices_BinarySearchFunc_net_Packet_net_Packet_int_j0
      refine ⟨⟨lo, mid, rfl, rfl, by omega, by omega, fun h0 => ⟨(hinv h0).1, fun k y hk hy => ?_⟩, h2⟩, by first | omega | (dsimp only; omega)⟩
      rw [wrapI64 (by omega) (by omega)] at hneg
      by_cases hkm : k = mid
      · subst hkm; rw [hx] at hy; cases hy; omega
      · have := hu.lt hx hy (by omega); omega
  · refine cond_f (by simpa using hlt) ?_
    have he : lo = hi' := by omega
    subst he
    by_cases hln : lo < pm.length
    · refine cond_t (by simpa using hln) ?_
      have hx : pm[lo]? = some pm[lo] := List.getElem?_eq_getElem hln
      generalize pm[lo] = x at hx
      have hxi := hu.ids x (List.mem_of_getElem? hx)
      refine rd h1 hx fun a hc => ldPk hc ?_
      refine (less_c h1).mono ?_
      rintro e w2 ⟨rfl, h2⟩
      refine ⟨_, rfl, lo, _, rfl, fun hf => ⟨x, hx, ?_⟩, fun hf y hy => ?_, h2⟩
      · have hf : IntKind.wrap .i64 ((x.1 : Int) - id) = 0 := by simpa using hf
        rw [IntKind.wrap_i64] at hf
        omega
      · have hf : ¬ IntKind.wrap .i64 ((x.1 : Int) - id) = 0 := by simpa using hf
        have hyi := hu.ids y hy
        by_cases h0 : 0 ≤ id
        · rw [wrapI64 (by omega) (by omega)] at hf
          obtain ⟨k, hk⟩ := List.mem_iff_getElem?.1 hy
          rcases Nat.lt_trichotomy k lo with h | h | h
          · have := (hinv h0).1 k y h hk; omega
          · subst h; rw [hx] at hk; cases hk; omega
          · have h3 := (hinv h0).2 lo x (Nat.le_refl _) hx
            have h4 := hu.lt hx hk h
            omega
        · omega
    · refine cond_f (by simpa using hln) ⟨lo, false, rfl, fun hf => (by cases hf), fun _ y hy => ?_, h1⟩
      have hyi := hu.ids y hy
      by_cases h0 : 0 ≤ id
      · obtain ⟨k, hk⟩ := List.mem_iff_getElem?.1 hy
        have := get_lt hk
        have := (hinv h0).1 k y (by omega) hk
        omega
      · omega

section
variable {T : MT} {s : T.σ} {N : Nt T.α} {b : Nat} {F : List HP} {w : World}

theorem net_up {pm : List (Nat × Mg)} (hwf : N.WF) (hp : Pks T s pm N.l) (hlast : N.last < 9223372036854775808) : Up pm := by
  have hl := hp.len
  refine ⟨List.pairwise_iff_getElem.2 fun i j hi hj hij => ?_, fun x hx => ?_⟩
  · have e1 := (hp.each i _ _ (List.getElem?_eq_getElem hi) (List.getElem?_eq_getElem (by omega))).1
    have e2 := (hp.each j _ _ (List.getElem?_eq_getElem hj) (List.getElem?_eq_getElem (by omega))).1
    rw [e1, e2]
    exact List.pairwise_iff_getElem.1 hwf.up i j (by omega) (by omega) hij
  · obtain ⟨i, hi⟩ := List.mem_iff_getElem?.1 hx
    have hlt := get_lt hi
    have hy : N.l[i]? = some (N.l[i]'(by omega)) := List.getElem?_eq_getElem _
    have e1 := (hp.each i _ _ hi hy).1
    have := hwf.ids _ (List.mem_of_getElem? hy)
    omega

theorem find_c (hs : Sat (NetP T s N b :: F) w) (hlast : N.last < 9223372036854775808) {id : Int} (hid : -9223372036854775808 ≤ id ∧ id ≤ 9223372036854775807) :
    Calls Try.prog 30 #[.pointer (some ⟨b, 0, none⟩), .int .i64 id] w fun e w' =>
      ∃ (k : Nat) (found : Bool), e = .returned (.tuple #[.int .i64 (k : Int), .bool found]) ∧ (found = true → ∃ y, N.l[k]? = some y ∧ (y.1 : Int) = id) ∧ (found = false → ∀ y ∈ N.l, (y.1 : Int) ≠ id) ∧ Sat (NetP T s N b :: F) w' := by
  obtain ⟨hwf, p, c, r, pm, hp, h⟩ := net_open hs
  have hl := hp.len; have hc := hwf.cnt; have hm := hwf.most
  refine S_net_Net_find_ok _ _ _ _ ?_
  unfold S_net_Net_find
  simp only [add_mk, Nat.zero_add, onSome_some]
  refine LdS.of h 0 rfl (off := 1) rfl rfl ?_
  refine (search_c h 1 rfl (net_up hwf hp hlast) (by omega) hid).mono ?_
  rintro e w1 ⟨k, found, rfl, hf, hn, h1⟩
  refine ⟨_, _, rfl, k, found, rfl, fun hh => ?_, fun hh y hy => ?_, net_shut hwf hp h1⟩
  · obtain ⟨x, hx, e1⟩ := hf hh
    have hlt := get_lt hx
    have hy : N.l[k]? = some (N.l[k]'(by omega)) := List.getElem?_eq_getElem _
    have e2 := (hp.each k _ _ hx hy).1
    exact ⟨_, hy, by omega⟩
  · obtain ⟨i, hi⟩ := List.mem_iff_getElem?.1 hy
    obtain ⟨x, hx, e1, _⟩ := hp.get hi
    have := hn hh x (List.mem_of_getElem? hx)
    omega

def Nt.erase {α : Type} (N : Nt α) (k : Nat) : Nt α := { N with l := N.l.eraseIdx k }
theorem Nt.erase_wf {α : Type} {N : Nt α} (h : N.WF) (k : Nat) : (N.erase k).WF := by
  refine ⟨h.pos, h.most, Nat.le_trans (List.length_eraseIdx_le _ _) h.cnt, h.up.sublist (List.eraseIdx_sublist _ _), fun x hx => h.ids x (List.mem_of_mem_eraseIdx hx)⟩

def msg0 : Mg := ⟨0, 0, 0, 0, 0, 0, 0, 0, 0, none, 0, 0, none, 0, 0, 0, 0, ⟨#[]⟩, 0, 0, none, 0, 0⟩
set_option maxRecDepth 100000 in
theorem pk_zero : ∃ ti, Try.prog.info? 80 = some ti ∧ ti.zero = some (.agg (pcells [(0, msg0)]).toArray) := ⟨_, rfl, rfl⟩

theorem delete_c {L : List HP} {w : World} {p : Option Addr} {c : Nat} {pm : List (Nat × Mg)} (hs : Sat L w) (i : Nat) (hi : L[i]? = some (Own 80 18 p pm.length c (pcells pm))) (hm : pm.length ≤ 100000) {k : Nat} (hk : k < pm.length) :
    Calls Try.prog 42 #[.slice p pm.length c, .int .i64 (k : Int), .int .i64 ((k : Int) + 1)] w fun e w' =>
      e = .returned (.slice p (pm.length - 1) c) ∧ Sat (L.set i (Own 80 18 p (pm.length - 1) c (pcells (pm.eraseIdx k)))) w' := by
  obtain ⟨g, rfl⟩ := hs.own_some i hi (by omega)
  have hlc : pm.length ≤ c := by
    obtain ⟨_, ⟨h0, _⟩ | ⟨g', rest, _, h, _⟩⟩ := hs.own i hi
    · cases h0
    · exact h
  refine S_slices_Delete_net_Packet_net_Packet_ok _ _ _ _ _ _ _ ?_
  unfold S_slices_Delete_net_Packet_net_Packet
  refine SlC.of k (k + 1) pm.length rfl (by omega) rfl (by omega) (by omega) hlc ?_
  refine cond_f (by simp; omega) ?_
  have h1 := hs.drew
  refine RunS.deleteOne eok_pk pk_zero rfl (by decide) h1 i hi (pcells_one pm) hk rfl (by omega) fun w' h2 => ⟨rfl, ?_⟩
  rw [pcells_erase] at h2
  exact h2

theorem out_c (hs : Sat (NetP T s N b :: F) w) {k : Nat} {y : Nat × T.α} (hy : N.l[k]? = some y) :
    Calls Try.prog 31 #[.pointer (some ⟨b, 0, none⟩), .int .i64 (k : Int)] w fun e w' => ∃ m : Mg, e = .returned m.agg ∧ T.Q s m y.2 ∧ Sat (NetP T s (N.erase k) b :: F) w' := by
  obtain ⟨hwf, p, c, r, pm, hp, h⟩ := net_open hs
  obtain ⟨x, hx, e1, hq⟩ := hp.get hy
  have hl := hp.len; have hc := hwf.cnt; have hm := hwf.most
  have hk := get_lt hx
  refine S_net_Net_out_ok _ _ _ _ ?_
  unfold S_net_Net_out
  refine NewC.ofRow h fun b0 w1 h1 => ?_
  simp only [onSome_some]
  refine LdS.of h1 1 rfl (off := 1) rfl (by simp [add_mk]) ?_
  refine IdxC.ownAt h1 2 rfl hk fun g hg => ?_
  refine ldMsg (m := x.2) (fun j v hj => ?_) ?_
  · rw [add_mk, add_mk]
    refine h1.ownAt 2 rfl hg ?_
    have hlt : j < 17 := by have := get_lt hj; rwa [Mg.len] at this
    rw [Nat.add_assoc, pcells_get hx (by omega), Nat.add_comm 1 j, List.getElem?_cons_succ]
    exact hj
  refine NewC.ofRow h1 fun b1 w2 h2 => stMsg (m := x.2) h2 0 rfl fun w3 h3 => ?_
  refine LdS.of h3 2 rfl (off := 1) rfl (by simp [add_mk]) ?_
  rw [wrapI64 (n := (k : Int) + 1) (by omega) (by omega)]
  refine (delete_c h3 3 rfl (by omega) hk).mono ?_
  rintro e w4 ⟨rfl, h4⟩
  refine ⟨_, _, _, rfl, ?_⟩
  refine StC.of h4 2 rfl (off := 1) rfl (by simp [add_mk]) fun w5 h5 => ?_
  refine ldMsgRow (m := x.2) h5 0 rfl ?_
  refine stMsg (m := x.2) h5 1 rfl fun w6 h6 => ?_
  refine ldMsgRow (m := x.2) h6 1 rfl ?_
  refine ⟨x.2, rfl, hq, ?_⟩
  have hle : (pm.eraseIdx k).length = pm.length - 1 := List.length_eraseIdx_of_lt hk
  refine net_shut (N := N.erase k) (p := p) (c := c) (r := r) (pm := pm.eraseIdx k) (Nt.erase_wf hwf k) (hp.erase k) ?_
  rw [hle]
  exact h6.drop.drop

def Nt.add {α : Type} (N : Nt α) (k : α) : Nt α := { N with last := N.last + 1, l := N.l ++ [(N.last + 1, k)] }
theorem Nt.add_wf {α : Type} {N : Nt α} (h : N.WF) (k : α) (hr : N.l.length < N.most) : (N.add k).WF := by
  refine ⟨h.pos, h.most, by simp [Nt.add]; omega, ?_, fun x hx => ?_⟩
  · refine List.pairwise_append.2 ⟨h.up, by simp, fun x hx y hy => ?_⟩
    rw [List.mem_singleton.1 hy]
    have := (h.ids x hx).2
    dsimp only
    omega
  · rcases List.mem_append.1 hx with hx | hx
    · have := h.ids x hx; dsimp only [Nt.add]; omega
    · rw [List.mem_singleton.1 hx]; dsimp only [Nt.add]; omega

theorem wait_c (hs : Sat (NetP T s N b :: T.Kp s :: F) w) {m : Mg} {k : T.α} (hq : T.Q s m k) (hr : N.l.length < N.most) (hlast : N.last + 1 < 9223372036854775808) :
    Calls Try.prog 29 #[.pointer (some ⟨b, 0, none⟩), m.agg] w fun e w' => ∃ s', T.le s s' ∧ e = .returned (.int .i64 ((N.last + 1 : Nat) : Int)) ∧ Sat (NetP T s' (N.add k) b :: T.Kp s' :: F) w' := by
  obtain ⟨hwf, p, c, r, pm, hp, h⟩ := net_open hs
  have hl := hp.len; have hc := hwf.cnt; have hm := hwf.most
  refine S_net_Net_wait_ok _ _ _ _ _ _ _ _ _ _ _ _ _ _ _ _ _ _ _ _ _ _ _ _ _ _ ?_
  unfold S_net_Net_wait
  refine NewC.ofRow h fun b0 w1 h1 => ?_
  simp only [onSome_some]
  refine LdI.of h1 1 rfl (off := 2) rfl (by simp [add_mk]) ?_
  have e1 : IntKind.wrap .i64 ((N.last : Int) + 1) = ((N.last + 1 : Nat) : Int) := by rw [wrapI64 (by omega) (by omega)]; omega
  rw [e1]
  refine StC.of h1 1 rfl (off := 2) rfl (by simp [add_mk]) fun w2 h2 => ?_
  have h3 := h2.drew
  have clsI : ∀ {L : List HP} {w : World} (i j : Nat), Sat L w → L[i]? = some (Row b0 m.cells 37) → L[j]? = some (Row b (nRow p pm.length c r N.most (N.last + 1) N.lost) 76) →
      ∃ (L : List HP) (i j : Nat), L[i]? = some (Row b0 m.cells 37) ∧ L[j]? = some (Row b (nRow p pm.length c r N.most (N.last + 1) N.lost) 76) ∧ Sat L w := fun i j hs hi hj => ⟨_, i, j, hi, hj, hs⟩
  refine ⟨fun w => ∃ (L : List HP) (i j : Nat), L[i]? = some (Row b0 m.cells 37) ∧ L[j]? = some (Row b (nRow p pm.length c r N.most (N.last + 1) N.lost) 76) ∧ Sat L w, clsI 0 1 h3 rfl rfl, ?_⟩
  refine ⟨p, pm.length, c, fun w ⟨L, i, j, _, hj, h⟩ => LdS.of h j hj (off := 1) rfl (by simp [add_mk]) rfl, ?_⟩
  refine ⟨((N.last + 1 : Nat) : Int), fun w ⟨L, i, j, _, hj, h⟩ => LdI.of h j hj (off := 2) rfl (by simp [add_mk]) rfl, ?_⟩
  refine ⟨m.kind, m.from_, m.to, m.view, m.op, m.commit, m.base, m.normal, m.nonce, m.lp, m.ll, m.lc, m.ip, m.il, m.ic, m.ec, m.en, m.et, m.re, m.rn, m.dp, m.dl, m.dc, fun w ⟨L, i, j, hi, _, h⟩ => ldMsgRow h i hi rfl, ?_⟩
  refine (T.copied hq (h3.pull 4 rfl)).mono ?_
  rintro e w3 ⟨s', m', hle, hq', rfl, h4⟩
  refine ⟨_, _, _, _, _, _, _, _, _, _, _, _, _, _, _, _, _, _, _, _, _, _, _, rfl, clsI 1 2 h4 rfl rfl, ?_⟩
  refine NewC.ofRow h4 fun b1 w4 h5 => ⟨clsI 2 3 h5 rfl rfl, ?_⟩
  refine RunS.own eok_pk h5 4 rfl (news := .int .i64 ((N.last + 1 : Nat) : Int) :: m'.cells) ?_ (by rw [List.length_cons, Mg.len]) (fun u hu => ?_) (by omega) (by simp only [maxLen]; omega) fun p' c' w5 h6 => ⟨clsI 2 3 h6 rfl rfl, ?_⟩
  · intro a ha j v hj
    cases ha
    rw [add_mk, Nat.zero_add]
    exact h5.cell 0 rfl hj
  · rcases List.mem_cons.1 hu with rfl | hu
    · rfl
    · exact m'.one u hu
  refine StC.of h6 3 rfl (off := 1) rfl (by simp [add_mk]) fun w6 h7 => ?_
  refine LdI.of h7 3 rfl (off := 2) rfl (by simp [add_mk]) ⟨s', hle, rfl, ?_⟩
  have h8 : Sat (T.Kp s' :: Row b (nRow p' (pm.length + 1) c' r N.most (N.last + 1) N.lost) 76 :: Own 80 18 p' (pm.length + 1) c' (pcells pm ++ (.int .i64 ((N.last + 1 : Nat) : Int) :: m'.cells)) :: CutM (.agg #[]) N.off r :: F) w6 := (h7.drop.pull 1 rfl).drop
  have h9 : Sat (Row b (nRow p' (pm.length + 1) c' r N.most (N.last + 1) N.lost) 76 :: Own 80 18 p' (pm.length + 1) c' (pcells pm ++ (.int .i64 ((N.last + 1 : Nat) : Int) :: m'.cells)) :: CutM (.agg #[]) N.off r :: T.Kp s' :: F) w6 := by
    have a1 := h8.pull 3 rfl
    have a2 := a1.pull 3 rfl
    exact a2.pull 3 rfl
  have e2 : pcells (pm ++ [(N.last + 1, m')]) = pcells pm ++ (.int .i64 ((N.last + 1 : Nat) : Int) :: m'.cells) := pcells_snoc pm (N.last + 1, m')
  have e3 : (pm ++ [(N.last + 1, m')]).length = pm.length + 1 := by simp
  rw [← e2, ← e3] at h9
  exact net_shut (N := N.add k) (Nt.add_wf hwf k hr) ((hp.mono hle).snoc hq') h9

def Nt.lose {α : Type} (N : Nt α) : Nt α := { N with lost := N.lost + 1 }
theorem Nt.lose_wf {α : Type} {N : Nt α} (h : N.WF) : N.lose.WF := ⟨h.pos, h.most, h.cnt, h.up, h.ids⟩

set_option maxRecDepth 100000 in
theorem unit_zero : ∃ ti, Try.prog.info? 72 = some ti ∧ ti.zero = some (.agg #[]) := ⟨_, rfl, rfl⟩
/-- what sending comes to: the id, the error. -/
theorem send_c (hs : Sat (NetP T s N b :: T.Kp s :: F) w) {m : Mg} {k : T.α} (hq : T.Q s m k) (hlast : N.last + 1 < 9223372036854775808) (hlost : N.lost + 1 < 9223372036854775808) :
    Calls Try.prog 11 #[.pointer (some ⟨b, 0, none⟩), m.agg] w fun e w' =>
      if N.off (min (T.fr k) (T.tt k)) (max (T.fr k) (T.tt k)) = true then Ret (.tuple #[.int .i64 0, .int .i64 0]) (Sat (NetP T s N.lose b :: T.Kp s :: F)) e w'
      else if N.most ≤ N.l.length then Ret (.tuple #[.int .i64 0, .int .i64 5]) (Sat (NetP T s N.lose b :: T.Kp s :: F)) e w'
      else ∃ s', T.le s s' ∧ Ret (.tuple #[.int .i64 ((N.last + 1 : Nat) : Int), .int .i64 0]) (Sat (NetP T s' (N.add k) b :: T.Kp s' :: F)) e w' := by
  obtain ⟨hwf, p, c, r, pm, hp, h⟩ := net_open hs
  have hl := hp.len; have hc := hwf.cnt; have hm := hwf.most
  obtain ⟨ef, et⟩ := T.ends hq
  refine S_net_Net_Send_ok _ _ _ _ _ _ _ _ _ _ _ _ _ _ _ _ _ _ _ _ _ _ _ _ _ _ ?_
  unfold S_net_Net_Send
  refine NewC.ofRow h fun b0 w1 h1 => ?_
  simp only [onSome_some]
  intro k0 hk0
  have h2 := h1.drew
  -- what stands behind the look at the cuts
  have go : ∀ w, Sat (Row b0 m.cells 37 :: Row b (nRow p pm.length c r N.most N.last N.lost) 76 :: Own 80 18 p pm.length c (pcells pm) :: CutM (.agg #[]) N.off r :: T.Kp s :: F) w → k0 (N.off (min (T.fr k) (T.tt k)) (max (T.fr k) (T.tt k))) w := by
    intro w h3
    refine hk0 _ _ ?_
    unfold S_net_Net_Send_j0
    simp only [onSome_some]
    have e1 : IntKind.wrap .i64 ((N.lost : Int) + 1) = ((N.lost + 1 : Nat) : Int) := by rw [wrapI64 (by omega) (by omega)]; omega
    cases hoff : N.off (min (T.fr k) (T.tt k)) (max (T.fr k) (T.tt k)) with
    | true =>
      simp only [if_true]
      refine cond_t rfl (LdI.of h3 1 rfl (off := 4) rfl (by simp [add_mk]) ?_)
      rw [e1]
      exact StC.of h3 1 rfl (off := 4) rfl (by simp [add_mk]) fun w4 h4 => ⟨rfl, net_shut (N := N.lose) (Nt.lose_wf hwf) hp h4.drop⟩
    | false =>
      simp only [Bool.false_eq_true, if_false]
      have h5 := h3.drew
      refine cond_f rfl (LdS.of h5 1 rfl (off := 1) rfl (by simp [add_mk]) (LdI.of h5 1 rfl (off := 0) rfl rfl ?_))
      by_cases hfull : N.most ≤ N.l.length
      · simp only [if_pos hfull]
        refine cond_t (by simp; omega) (LdI.of h5 1 rfl (off := 4) rfl (by simp [add_mk]) ?_)
        rw [e1]
        exact StC.of h5 1 rfl (off := 4) rfl (by simp [add_mk]) fun w4 h4 => ⟨rfl, net_shut (N := N.lose) (Nt.lose_wf hwf) hp h4.drop⟩
      · simp only [if_neg hfull]
        refine cond_f (by simp; omega) ?_
        refine ldMsgRow h5 0 rfl ?_
        have h6 : Sat (NetP T s N b :: T.Kp s :: F) w.drew := net_shut hwf hp h5.drop
        refine (wait_c h6 hq (by omega) hlast).mono ?_
        rintro e w7 ⟨s', hle, rfl, h7⟩
        exact ⟨_, rfl, s', hle, rfl, h7⟩
  have look : ∀ {w : World}, Sat (Row b0 m.cells 37 :: Row b (nRow p pm.length c r N.most N.last N.lost) 76 :: Own 80 18 p pm.length c (pcells pm) :: CutM (.agg #[]) N.off r :: T.Kp s :: F) w →
      (Instr.lookup 74 (.map (some r)) (.agg #[.int .i64 (iMin m.from_ m.to), .int .i64 (iMax m.from_ m.to)]) true).run Try.prog w = .ok (.tuple #[.agg #[], .bool (N.off (min (T.fr k) (T.tt k)) (max (T.fr k) (T.tt k)))]) w := by
    intro w h
    rw [iMin_eq, iMax_eq, ef, et]
    obtain ⟨ti, h1, h2⟩ := unit_zero
    exact k2.look Try.underlying74 (by simp [zeroValue, typeInfo, h1, h2]) (h.pull 3 rfl) _ _
  refine ⟨fun w => Sat (Row b0 m.cells 37 :: Row b (nRow p pm.length c r N.most N.last N.lost) 76 :: Own 80 18 p pm.length c (pcells pm) :: CutM (.agg #[]) N.off r :: T.Kp s :: F) w, h2, ?_⟩
  refine ⟨some r, fun w h => LdM.of h 1 rfl (off := 3) rfl (by simp [add_mk]) rfl, ?_⟩
  refine ⟨m.from_, fun w h => LdI.of h 0 rfl (off := 1) rfl (by simp [add_mk]) rfl, ?_⟩
  refine ⟨m.to, fun w h => LdI.of h 0 rfl (off := 2) rfl (by simp [add_mk]) rfl, ?_⟩
  refine ⟨m.from_, fun w h => LdI.of h 0 rfl (off := 1) rfl (by simp [add_mk]) rfl, ?_⟩
  refine ⟨m.to, fun w h => LdI.of h 0 rfl (off := 2) rfl (by simp [add_mk]) rfl, ?_⟩
  constructor
  · refine ⟨_, look h2, h2, ?_⟩
    exact NewC.ofRow h2 fun _ w2 h3 => ⟨h3.drop, go w2 h3.drop⟩
  · exact NewC.ofRow h2 fun _ w3 h3 => ⟨h3.drop, _, look h3.drop, h3.drop, go w3 h3.drop⟩

theorem take_c (hs : Sat (NetP T s N b :: F) w) (hlast : N.last < 9223372036854775808) {id : Int} (hid : -9223372036854775808 ≤ id ∧ id ≤ 9223372036854775807) :
    Calls Try.prog 15 #[.pointer (some ⟨b, 0, none⟩), .int .i64 id] w fun e w' =>
      ((∀ y ∈ N.l, (y.1 : Int) ≠ id) ∧ Ret (.tuple #[msg0.agg, .int .i64 8]) (Sat (NetP T s N b :: F)) e w') ∨
      ∃ (i : Nat) (y : Nat × T.α) (m : Mg), N.l[i]? = some y ∧ (y.1 : Int) = id ∧ T.Q s m y.2 ∧ Ret (.tuple #[m.agg, .int .i64 0]) (Sat (NetP T s (N.erase i) b :: F)) e w' := by
  refine S_net_Net_Take_ok _ _ _ _ ?_
  unfold S_net_Net_Take
  refine NewC.ofRow hs fun b0 w1 h1 => ?_
  refine (find_c (h1.pull 1 rfl) hlast hid).mono ?_
  rintro e w2 ⟨i, found, rfl, hf, hn, h2⟩
  refine ⟨_, _, rfl, ?_⟩
  cases found with
  | false =>
    refine cond_t rfl ?_
    refine stMsg (m := msg0) h2 1 rfl fun w3 h3 => ?_
    refine ldMsgRow (m := msg0) h3 1 rfl ?_
    exact .inl ⟨hn rfl, rfl, (h3.pull 1 rfl).drop⟩
  | true =>
    obtain ⟨y, hy, hyi⟩ := hf rfl
    refine cond_f rfl ?_
    refine (out_c h2 hy).mono ?_
    rintro e w3 ⟨m, rfl, hq, h3⟩
    refine ⟨_, _, _, _, _, _, _, _, _, _, _, _, _, _, _, _, _, _, _, _, _, _, _, rfl, ?_⟩
    refine stMsg (m := m) h3 1 rfl fun w4 h4 => ?_
    refine ldMsgRow (m := m) h4 1 rfl ?_
    exact .inr ⟨i, y, m, hy, hyi, hq, rfl, (h4.pull 1 rfl).drop⟩

theorem drop_c (hs : Sat (NetP T s N b :: F) w) (hlast : N.last < 9223372036854775808) (hlost : N.lost + 1 < 9223372036854775808) {id : Int} (hid : -9223372036854775808 ≤ id ∧ id ≤ 9223372036854775807) :
    Calls Try.prog 21 #[.pointer (some ⟨b, 0, none⟩), .int .i64 id] w fun e w' =>
      ((∀ y ∈ N.l, (y.1 : Int) ≠ id) ∧ Ret (.int .i64 8) (Sat (NetP T s N b :: F)) e w') ∨
      ∃ (i : Nat) (y : Nat × T.α), N.l[i]? = some y ∧ (y.1 : Int) = id ∧ Ret (.int .i64 0) (Sat (NetP T s (N.erase i).lose b :: F)) e w' := by
  refine S_net_Net_Drop_ok _ _ _ _ ?_
  unfold S_net_Net_Drop
  refine (find_c hs hlast hid).mono ?_
  rintro e w2 ⟨i, found, rfl, hf, hn, h2⟩
  refine ⟨_, _, rfl, ?_⟩
  cases found with
  | false => exact cond_t rfl (.inl ⟨hn rfl, rfl, h2⟩)
  | true =>
    obtain ⟨y, hy, hyi⟩ := hf rfl
    refine cond_f rfl ?_
    refine (out_c h2 hy).mono ?_
    rintro e w3 ⟨m, rfl, hq, h3⟩
    refine ⟨_, _, _, _, _, _, _, _, _, _, _, _, _, _, _, _, _, _, _, _, _, _, _, rfl, ?_⟩
    obtain ⟨hwf, p, c, r, pm, hp, h⟩ := net_open h3
    simp only [onSome_some]
    have e1 : IntKind.wrap .i64 ((N.lost : Int) + 1) = ((N.lost + 1 : Nat) : Int) := by rw [wrapI64 (by omega) (by omega)]; omega
    have h : Sat (Row b (nRow p pm.length c r N.most N.last N.lost) 76 :: Own 80 18 p pm.length c (pcells pm) :: CutM (.agg #[]) N.off r :: F) w3 := h
    refine LdI.of h 0 rfl (off := 4) rfl (by simp [add_mk]) ?_
    rw [e1]
    exact StC.of h 0 rfl (off := 4) rfl (by simp [add_mk]) fun w4 h4 => .inr ⟨i, y, hy, hyi, rfl, net_shut (N := (N.erase i).lose) (Nt.lose_wf hwf) hp h4⟩

theorem copy_c (hs : Sat (NetP T s N b :: T.Kp s :: F) w) (hlast : N.last + 1 < 9223372036854775808) {id : Int} (hid : -9223372036854775808 ≤ id ∧ id ≤ 9223372036854775807) :
    Calls Try.prog 16 #[.pointer (some ⟨b, 0, none⟩), .int .i64 id] w fun e w' =>
      ((∀ y ∈ N.l, (y.1 : Int) ≠ id) ∧ Ret (.tuple #[.int .i64 0, .int .i64 8]) (Sat (NetP T s N b :: T.Kp s :: F)) e w') ∨
      ∃ (i : Nat) (y : Nat × T.α), N.l[i]? = some y ∧ (y.1 : Int) = id ∧ if N.most ≤ N.l.length then Ret (.tuple #[.int .i64 0, .int .i64 5]) (Sat (NetP T s N b :: T.Kp s :: F)) e w'
        else ∃ s', T.le s s' ∧ Ret (.tuple #[.int .i64 ((N.last + 1 : Nat) : Int), .int .i64 0]) (Sat (NetP T s' (N.add y.2) b :: T.Kp s' :: F)) e w' := by
  refine S_net_Net_Copy_ok _ _ _ _ ?_
  unfold S_net_Net_Copy
  refine (find_c hs (by omega) hid).mono ?_
  rintro e w2 ⟨i, found, rfl, hf, hn, h2⟩
  refine ⟨_, _, rfl, ?_⟩
  cases found with
  | false => exact cond_t rfl (.inl ⟨hn rfl, rfl, h2⟩)
  | true =>
    obtain ⟨y, hy, hyi⟩ := hf rfl
    refine cond_f rfl ?_
    have h3 := h2.drew
    obtain ⟨hwf, p, c, r, pm, hp, h⟩ := net_open h3
    have hl := hp.len; have hc := hwf.cnt; have hm := hwf.most
    simp only [onSome_some]
    refine LdS.of h 0 rfl (off := 1) rfl (by simp [add_mk]) (LdI.of h 0 rfl (off := 0) rfl rfl ?_)
    by_cases hfull : N.most ≤ N.l.length
    · refine cond_t (by simp; omega) (.inr ⟨i, y, hy, hyi, ?_⟩)
      rw [if_pos hfull]
      exact ⟨rfl, h3⟩
    · refine cond_f (by simp; omega) ?_
      obtain ⟨x, hx, e1, hq⟩ := hp.get hy
      refine LdS.of h 0 rfl (off := 1) rfl (by simp [add_mk]) ?_
      refine IdxC.ownAt h 1 rfl (get_lt hx) fun g hg => ?_
      refine ldMsg (m := x.2) (fun j v hj => ?_) ?_
      · rw [add_mk, add_mk]
        refine h.ownAt 1 rfl hg ?_
        have hlt : j < 17 := by have := get_lt hj; rwa [Mg.len] at this
        rw [Nat.add_assoc, pcells_get hx (by omega), Nat.add_comm 1 j, List.getElem?_cons_succ]
        exact hj
      refine (wait_c h3 hq (by omega) hlast).mono ?_
      rintro e w4 ⟨s', hle, rfl, h4⟩
      refine ⟨_, rfl, .inr ⟨i, y, hy, hyi, ?_⟩⟩
      rw [if_neg hfull]
      exact ⟨s', hle, rfl, h4⟩
end
end Go.Proofs.Ytjpaoggcphfjeaa
