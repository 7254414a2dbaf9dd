
/- What Check comes to: a tree is whole. -/
import Derived.Test.YtpicofkhioalkaaGreatEf
import Derived.Test.YtpicofkhioalkaaGreatWk
set_option maxRecDepth 100000
namespace Go.Hm
open Go Go.Lw
def setEs : List Nat -> Nat -> List MapEntry
 | [], _ => []
 | y :: l, i => ⟨.int .u64 (y : Int), .agg #[], i⟩ :: setEs l (i + 1)
def setObj' (l : List Nat) : Obj := .map (setEs l 0).toArray l.length
theorem setEs_app : ∀ (l : List Nat) (x i : Nat), setEs (l ++ [x]) i = setEs l i ++ [⟨.int .u64 (x : Int), .agg #[], i + l.length⟩]
 | [], x, i => by simp [setEs]
 | a :: l, x, i => by simp only [List.cons_append, setEs, setEs_app l x (i + 1), List.length_cons]; simp [Nat.add_assoc, Nat.add_comm 1]
theorem findNow_set (k : TypeDesc) (hk : ∃ q, k = .int q) (y : Nat) : ∀ (l : List Nat) (i j : Nat), y ∉ l -> Instr.findNow k (.int .u64 (y : Int)) (setEs l i) j = some none
 | [], i, j, _ => by simp [setEs, Instr.findNow]
 | x :: l, i, j, h => by
  have hne : y ≠ x := fun e => h (by simp [e])
  have hn : y ∉ l := fun e => h (by simp [e])
  obtain ⟨q, rfl⟩ := hk
  simp only [setEs, Instr.findNow, Instr.sameNow, if_true]
  have : ((y : Int) == (x : Int)) = false := by simp; omega
  rw [this]
  exact findNow_set _ ⟨q, rfl⟩ y l (i + 1) (j + 1) hn
section
variable {P : Program} {t kt et : TypeId} {L : List HP} {w : World} {r : Nat} {l : List Nat}
theorem lookSet (hu : P.underlying t = some (.map kt et)) {q : IntKind} (hk : P.underlying kt = some (.int q)) (hz : ∀ w, (zeroValue et).run P w = .ok (.agg #[]) w) (hb : w.heap[r]? = some (setObj' l)) {y : Nat} (hy : y ∉ l) :
  (Instr.lookup t (.map (some r)) (.int .u64 (y : Int)) true).run P w = .ok (.tuple #[.agg #[], .bool false]) w := by
 have hc : ∀ e, (Instr.checkKey e 10000 kt (.int .u64 (y : Int))).run P w = .ok () w := fun e => checkInt hk e y
 have hf := findNow_set (.int q) ⟨q, rfl⟩ y l 0 0 hy
 simp [Instr.lookup, run_underlying hu, getM hb, hc, Instr.findKey, run_underlying hk, hf, hz]
theorem putSet (hu : P.underlying t = some (.map kt et)) {q : IntKind} (hk : P.underlying kt = some (.int q)) (hs : Sat L w) (i : Nat) (hi : L[i]? = some (Blk r (setObj' l))) {y : Nat} (hy : y ∉ l) {K : World -> Prop}
  (h : ∀ w', Sat (L.set i (Blk r (setObj' (l ++ [y])))) w' -> K w') : RunN P (Instr.mapUpdate t (.map (some r)) (.int .u64 (y : Int)) (.agg #[])) w K := by
 have hb := hs.blk i hi
 have hc : ∀ e, (Instr.checkKey e 10000 kt (.int .u64 (y : Int))).run P w = .ok () w := fun e => checkInt hk e y
 have hf := findNow_set (.int q) ⟨q, rfl⟩ y l 0 0 hy
 refine ⟨_, ?_, h _ (updMap hs i hi _)⟩
 have hp : (setEs l 0).toArray.push { key := .int .u64 (y : Int), val := .agg #[], born := l.length } = (setEs (l ++ [y]) 0).toArray := by
  rw [setEs_app]; simp
 have ho : (.map ((setEs l 0).toArray.push { key := .int .u64 (y : Int), val := .agg #[], born := l.length }) (l.length + 1) : Obj) = setObj' (l ++ [y]) := by
  rw [hp]; simp [setObj']
 rw [<- ho]
 have hb' : w.heap[r]? = some (.map (setEs l 0).toArray l.length) := hb
 simp only [Instr.mapUpdate, Sem.run_bind, run_underlying hu, Result.andThen_ok, getM hb', hc, Instr.findKey, run_underlying hk, hf, Sem.run_pure, setM _ hb']
end
end Go.Hm
namespace Go.Proofs.YtpicofkhioalkaaGreat
open Go Go.Lw Go.Wd Go.Am Go.Tb Go.Hm Go.Kd Go.Td
theorem us : Tryz.prog.underlying 160 = some (.map 32 189) := by kernel_rfl
theorem us_u64 : Tryz.prog.underlying 32 = some (.int .u64) := by kernel_rfl
theorem us_zero (w : World) : (zeroValue 189).run Tryz.prog w = .ok (.agg #[]) w := by
 have h : ∃ ti, Tryz.prog.info? 189 = some ti /\ ti.zero = some (.agg #[]) := ⟨_, rfl, rfl⟩
 obtain ⟨ti, h1, h2⟩ := h
 simp [zeroValue, typeInfo, h1, h2]
theorem onS {a : Addr} {K : Addr -> Prop} (h : K a) : onSome (some a) K := h
def cen (b t r : Nat) (last : K) (n : Nat) : List Value := [.pointer (some ⟨b, 0, none⟩), .int .u64 (t : Int), .map (some r), .string (str last), .int .i64 (n : Int)]
def lastK (es : List Ent) : K := match es.getLast? with | some e => e.key | none => []
theorem lastK_app (a b : List Ent) (h : b ≠ []) : lastK (a ++ b) = lastK b := by
 unfold lastK
 rw [List.getLast?_append, List.getLast?_eq_some_getLast h]; rfl
theorem lastK_mem {es : List Ent} (h : es ≠ []) : ∃ e ∈ es, lastK es = e.key := by
 unfold lastK
 rw [List.getLast?_eq_some_getLast h]
 exact ⟨_, List.getLast_mem h, rfl⟩
theorem key_str_eq (x y : K) : ((str x).toList == (str y).toList) = decide (x = y) := by
 rw [str_toList, str_toList]
 by_cases h : x = y <;> simp [h]
section
variable {H : Hp} {v : Value} {b : Nat} {F : List HP} {w : World}
theorem above_must {last k : K} (h : lt last k = true) : (!((Op.bytesLess (str k).toList (str last).toList) || ((str k).toList == (str last).toList))) = true := by
 rw [key_str_eq, str_toList, str_toList]
 have h1 : Op.bytesLess k last = false := lt_asymm h
 have h2 : k ≠ last := fun e => by rw [e, lt_irrefl] at h; cases h
 simp [h1, h2]
theorem cen_chk {a : Kid} {d : Nat} (ha : Rep H.ov (d + 1) 6 a) {cb t r n : Nat} {lk : K} {l : List Nat} {b2 : Nat} {kh : Int} {G : List HP} {k0 : World -> Prop} {deep : Int} (hdeep : deep = ((d + 2 : Nat) : Int))
  (g : Sat (HeapH H v b :: Row cb (cen b t r lk n) 193 :: Blk r (setObj' l) :: Row b2 [.int .u64 kh, .int .u64 (a.x : Int)] 96 :: G) w)
  (hk : ∀ w', Sat (HeapH H v b :: Row cb (cen b t r lk n) 193 :: Blk r (setObj' l) :: Row b2 [.int .u64 kh, .int .u64 (a.x : Int)] 96 :: G) w' -> k0 w') :
  ∃ C0 : World -> Prop, C0 (World.drew w) /\ onSome (some ⟨cb, 0, none⟩) fun a6 =>
  ∃ (p2 : Option Addr), ∃ (n8 : Int), (∀ (w12 : World), C0 w12 -> LdP w12 a6 fun p3 => LdI .u64 w12 (Addr.add a6 1) fun n9 => Value.agg #[.pointer p3, .int .u64 n9] = .agg #[.pointer p2, .int .u64 n8]) /\ onSome (some ⟨cb, 0, none⟩) fun a7 =>
  ∃ (p4 : Option Addr), ∃ (n10 : Int), (∀ (w13 : World), C0 w13 -> LdP w13 a7 fun p5 => LdI .u64 w13 (Addr.add a7 1) fun n11 => Value.agg #[.pointer p5, .int .u64 n11] = .agg #[.pointer p4, .int .u64 n10]) /\
  LdIQ .u64 C0 (Addr.add (⟨b2, 0, none⟩) 1) fun n12 =>
  Calls Tryz.prog 105 #[.agg #[.pointer p4, .int .u64 n10], .int .u64 n12, .bool (decide (deep > 2))] (World.drew w) fun e6 w15 =>
  ∃ (r2p : Option Addr), ∃ (r2l : Nat), ∃ (r2c : Nat), e6 = .returned (.slice r2p r2l r2c) /\
  ∃ C1 : World -> Prop, (∀ (w14 : World), C1 w14 -> C0 w14) /\ C1 w15 /\ IdxC r2p r2l 0 2 fun a8 => LdIQ .u64 C1 a8 fun n13 =>
  Calls Tryz.prog 58 #[.agg #[.pointer p2, .int .u64 n8], .int .u64 n13] w15 fun e7 w17 => ∃ (r3 : ByteArray), e7 = .returned (.string r3) /\
  ∃ C2 : World -> Prop, (∀ (w16 : World), C2 w16 -> C1 w16) /\ C2 w17 /\ Calls Tryz.prog 47 #[.bool (r3.toList == (str a.key).toList), .int .i64 4] w17 fun e8 w19 => e8 = .returned (.tuple #[]) /\
  ∃ C3 : World -> Prop, (∀ (w18 : World), C3 w18 -> C2 w18) /\ C3 w19 /\ k0 w19 := by
 have hld : ∀ w', (∃ T, Sat (Row cb (cen b t r lk n) 193 :: T) w') -> LdP w' ⟨cb, 0, none⟩ fun p3 => LdI .u64 w' (Addr.add ⟨cb, 0, none⟩ 1) fun n9 => Value.agg #[.pointer p3, .int .u64 n9] = .agg #[.pointer (some ⟨b, 0, none⟩), .int .u64 (t : Int)] :=
  fun w' ⟨T, h⟩ => LdP.of h 0 rfl (off := 0) rfl rfl (LdI.of h 0 rfl (off := 1) rfl (add_mk _ _ _) rfl)
 refine ⟨fun w' => ∃ T, Sat (Row cb (cen b t r lk n) 193 :: Row b2 [.int .u64 kh, .int .u64 (a.x : Int)] 96 :: T) w', ⟨_, Sat.pull (Sat.pull g.drew 3 rfl) 2 rfl⟩, ?_⟩
 refine onS ⟨_, _, fun w' ⟨T, h⟩ => hld w' ⟨_, h⟩, onS ⟨_, _, fun w' ⟨T, h⟩ => hld w' ⟨_, h⟩, ?_⟩⟩
 refine ⟨(a.x : Int), fun w' ⟨T, h⟩ => LdI.of h 1 rfl (off := 1) rfl (add_mk _ _ _) rfl, ?_⟩
 obtain ⟨L, g1, g2, g3, g4, g5, g6⟩ := ha
 have edd : decide (deep > 2) = decide (0 < d) := by rw [hdeep, decide_eq_decide]; omega
 rw [edd]
 refine (pairs_c g.drew t (by simpa using g5) g1).mono ?_
 rintro e w15 ⟨lp, lc, rfl, hlc, h3⟩
 rw [List.length_map] at h3 ⊢
 have hL0 : 0 < L.length := by omega
 obtain ⟨c', r', hL⟩ := List.exists_cons_of_ne_nil (List.length_pos_iff.1 hL0)
 obtain ⟨gg, rfl⟩ := h3.own_some 0 rfl hL0
 have hg0 : (L.map Kid.pr)[0]? = some c'.pr := by rw [hL]; rfl
 obtain ⟨k1, k2, k3, k4⟩ := (g6 c' (by rw [hL]; simp)).keyOK (by omega)
 have hkey : c'.key = a.key := by
  obtain ⟨e, rr, he⟩ := List.exists_cons_of_ne_nil k4
  unfold Kid.key
  rw [g2, hL, esOf_cons, he]; rfl
 refine ⟨_, _, _, rfl, fun w' => ∃ T, Sat (Own 96 2 (some ⟨gg, 0, none⟩) L.length lc (pairsV (L.map Kid.pr)) :: Row cb (cen b t r lk n) 193 :: Row b2 [.int .u64 kh, .int .u64 (a.x : Int)] 96 :: T) w', fun w' ⟨T, h⟩ => ⟨_, h.drop⟩, ⟨_, Sat.pull (Sat.pull (Sat.pull h3 4 rfl) 3 rfl) 2 rfl⟩, ?_⟩
 refine IdxC.of (by omega) (by omega) ?_
 refine ⟨(c'.k : Int), fun w' ⟨T, h⟩ => ⟨_, h.ownCell 0 rfl (off := 0 * 2) (pairsV_get0 hg0), rfl⟩, ?_⟩
 refine (tkey_c (Sat.pull h3 1 rfl) t k2 k1).mono ?_
 rintro e w17 ⟨rfl, h4⟩
 refine ⟨_, rfl, _, fun _ h => h, ⟨_, Sat.pull (Sat.pull (Sat.pull h4 4 rfl) 3 rfl) 3 rfl⟩, ?_⟩
 refine (must_c 4 (by rw [key_str_eq, hkey]; simp)).mono ?_
 rintro e w19 ⟨rfl, rfl⟩
 exact ⟨rfl, _, fun _ h => h, ⟨_, Sat.pull (Sat.pull (Sat.pull h4 4 rfl) 3 rfl) 3 rfl⟩, hk _ (h4.del 1 rfl)⟩
set_option maxHeartbeats 2000000 in
theorem cmeet_c {cb t r : Nat} : ∀ (d : Nat) {m : Nat} {c : Kid} {l : List Nat} {last : K} {n : Nat} {F : List HP} {w : World}, d <= 12 -> Rep H.ov (d + 1) m c -> 1 <= m -> Srt c.es -> c.hs.Nodup -> (∀ z ∈ c.hs, z ∉ l) -> (n = 0 ∨ ∀ e ∈ c.es, lt last e.key = true) -> n + c.es.length <= 1073741824 ->
  Sat (HeapH H v b :: Row cb (cen b t r last n) 193 :: Blk r (setObj' l) :: F) w ->
  Calls Tryz.prog 144 #[.pointer (some ⟨cb, 0, none⟩), .int .u64 (c.x : Int), .int .i64 ((d + 1 : Nat) : Int)] w fun e w' => e = .returned (.tuple #[]) /\
   ∃ l', (∀ z ∈ l', z ∈ l ∨ z ∈ c.hs) /\ Sat (HeapH H v b :: Row cb (cen b t r (lastK c.es) (n + c.es.length)) 193 :: Blk r (setObj' l') :: F) w' := by
 intro d
 induction d with
 | zero => ?_
 | succ d ih => ?_
 all_goals
  intro m c l last n F w hd hrep hm hsrt hnd hfresh hlast hn hs
  refine S_tree_census_meet_ok _ _ _ _ _ ?_
  unfold S_tree_census_meet
  obtain ⟨L, g1, g2, g3, g4, g5, g6⟩ := hrep
  have hxl : c.x ∉ l := hfresh _ (by rw [g3]; simp)
  refine onS ⟨some r, hs.cell 1 rfl (off := 2) rfl, ?_⟩
  refine ⟨false, lookSet us us_u64 us_zero (hs.blk 2 rfl) hxl, ?_⟩
  refine NewC.ofRow hs fun be w0 h0 => ?_
  have h0 := h0.drop
  refine (must_c 4 rfl).mono ?_
  rintro e w1 ⟨rfl, rfl⟩
  refine ⟨rfl, onS ⟨some r, h0.cell 1 rfl (off := 2) rfl, ?_⟩⟩
  refine putSet us us_u64 h0 2 rfl hxl fun w2 h2 => ?_
  refine onS (LdP.of h2 1 rfl (off := 0) rfl rfl (LdI.of h2 1 rfl (off := 1) rfl (add_mk _ _ _) ?_))
 ·-- a leaf
  have g1 : H.ov c.x = some (nodeO false (L.map Kid.pr)) := by rw [g1]; simp
  refine (pairs_c h2 t (by simpa using g5) g1).mono ?_
  rintro e w3 ⟨lp, lc, rfl, hlc, h3⟩
  rw [List.length_map] at h3 ⊢
  refine ⟨_, _, _, rfl, ?_⟩
  have hL0 : 0 < L.length := by omega
  refine (must_c 4 (by simpa using hL0)).mono ?_
  rintro e w4 ⟨rfl, rfl⟩
  refine ⟨rfl, ?_⟩
  have hks := srt_kids (by rw [<- g2]; exact hsrt) fun a ha => (g6 a ha).ne (by omega)
  refine ⟨fun j w' => ∃ (i : Nat) (lk : K), j = i /\ i <= L.length /\ (n + i = 0 ∨ ∀ e ∈ esOf (L.drop i), lt lk e.key = true) /\ (i ≠ 0 -> lk = lastK (esOf (L.take i))) /\
    Sat (Own 96 2 lp L.length lc (pairsV (L.map Kid.pr)) :: HeapH H v b :: Row cb (cen b t r lk (n + i)) 193 :: Blk r (setObj' (l ++ [c.x])) :: F) w', fun j _ => ((L.length : Int) - j).toNat,
   ⟨0, last, rfl, by omega, by rw [g2] at hlast; simpa using hlast, fun h => absurd rfl h, h3⟩, ?_⟩
  rintro j w5 ⟨i, lk, rfl, hi, hlk, hlk2, h5⟩
  unfold S_tree_census_meet_l0
  have hlen : (esOf L).length = L.length := by
   have : ∀ M : List Kid, (∀ a ∈ M, a ∈ L) -> (esOf M).length = M.length := by
    intro M
    induction M with
    | nil => intro _; rfl
    | cons a M ihM =>
     intro h
     obtain ⟨e0, h1, _⟩ := g6 a (h a (by simp))
     rw [esOf_cons, List.length_append, h1, ihM fun x hx => h x (by simp [hx])]
     simp; omega
   exact this L fun a ha => ha
  rw [g2, hlen] at hn
  by_cases hlt : i < L.length
  ·refine cond_t (by simp; omega) ?_
   intro k0 hk0
   obtain ⟨a, ha⟩ : ∃ a, L[i]? = some a := ⟨_, List.getElem?_eq_getElem hlt⟩
   have hgi : (L.map Kid.pr)[i]? = some a.pr := by rw [List.getElem?_map, ha]; rfl
   obtain ⟨e0, q1, q2, q3, q4, q5, q6⟩ := esOf_one g6 a (List.mem_of_getElem? ha)
   refine IdxC.ownAt (k := i) h5 0 rfl hlt fun g hg => ?_
   refine LdI.at (n := (a.k : Int)) (Sat.ownAt h5 0 rfl hg (off := i * 2) (pairsV_get0 hgi)) ?_
   refine LdI.at (n := (a.x : Int)) (Sat.ownAt h5 0 rfl hg (off := i * 2 + 1) (pairsV_get1 hgi)) ?_
   refine NewC.ofRow h5 fun b2 w6 h6 => ?_
   refine StC.of h6 0 rfl (off := 0) rfl rfl fun w7 h7 => StC.of h7 0 rfl (off := 1) rfl (add_mk _ _ _) fun w8 h8 => ?_
   have h8 := h8.drew
   refine onS (LdP.of h8 3 rfl (off := 0) rfl rfl (LdI.of h8 3 rfl (off := 1) rfl (add_mk _ _ _) (LdI.of h8 0 rfl (off := 0) rfl rfl ?_)))
   rw [q3] at h8 ⊢
   refine (tkey_c (Sat.pull h8 2 rfl) t q6 q5).mono ?_
   rintro e w9 ⟨rfl, h9⟩
   refine ⟨_, rfl, cond_f rfl ?_⟩
   have hd1 : L.drop i = a :: L.drop (i + 1) := by
    have ha' := ha
    rw [List.getElem?_eq_getElem hlt] at ha'
    rw [List.drop_eq_getElem_cons hlt]
    simp only [Option.some.injEq] at ha'
    rw [ha']
   have htk : L.take (i + 1) = L.take i ++ [a] := by rw [List.take_add_one, ha]; rfl
   have hnext : ∀ w', Sat (HeapH H v b :: Row b2 [.int .u64 (e0.kh : Int), .int .u64 (a.x : Int)] 96 :: Own 96 2 lp L.length lc (pairsV (L.map Kid.pr)) :: Row cb (cen b t r e0.key (n + (i + 1))) 193 :: Blk r (setObj' (l ++ [c.x])) :: F) w' -> k0 w' := by
    intro w' h'
    refine hk0 _ ?_
    unfold S_tree_census_meet_j0
    refine ⟨⟨i + 1, e0.key, by rw [wrapI64 (by omega) (by omega)]; omega, by omega, ?_, fun _ => ?_, Sat.p1 (h'.del 1 rfl)⟩, by rw [wrapI64 (by omega) (by omega)]; dsimp only; omega⟩
    ·right
     intro e he
     have hsd : Srt (esOf (L.drop i)) := by
      have h0 := hsrt
      rw [g2] at h0
      rw [<- List.take_append_drop i L, esOf_append] at h0
      exact (srt_append.1 h0).2.1
     rw [hd1, esOf_cons, q1] at hsd
     exact (List.pairwise_cons.1 hsd).1 e he
    ·rw [htk, esOf_append, esOf_cons, q1]; simp [lastK]
   have hset : ∀ w', Sat (HeapH H v b :: Row b2 [.int .u64 (e0.kh : Int), .int .u64 (a.x : Int)] 96 :: Own 96 2 lp L.length lc (pairsV (L.map Kid.pr)) :: Row cb (cen b t r lk (n + i)) 193 :: Blk r (setObj' (l ++ [c.x])) :: F) w' ->
     StC w' (Addr.add ⟨cb, 0, none⟩ 3) (.string (str e0.key)) fun w25 => onSome (some ⟨cb, 0, none⟩) fun a15 => LdI .i64 w25 (Addr.add a15 4) fun n22 => onSome (some ⟨cb, 0, none⟩) fun a16 => StC w25 (Addr.add a16 4) (.int .i64 (IntKind.wrap .i64 (n22 + 1))) k0 := by
    intro w' h'
    refine StC.of h' 3 rfl (off := 3) rfl (add_mk _ _ _) fun w10 h10 => ?_
    refine onS (LdI.of h10 3 rfl (off := 4) rfl (add_mk _ _ _) (onS ?_))
    refine StC.of h10 3 rfl (off := 4) rfl (add_mk _ _ _) fun w11 h11 => hnext _ ?_
    rw [wrapI64 (by omega) (by omega)] at h11
    have e1 : (((n + i : Nat) : Int) + 1) = ((n + (i + 1) : Nat) : Int) := by omega
    rw [e1] at h11
    exact h11
   refine onS (LdI.of h9 3 rfl (off := 4) rfl (add_mk _ _ _) ?_)
   by_cases hn0 : n + i = 0
   ·refine cond_t (by simp; omega) ?_
    refine (must_c 4 rfl).mono ?_
    rintro e w10 ⟨rfl, rfl⟩
    exact ⟨rfl, onS (hset _ h9)⟩
   ·refine cond_f (by simp; omega) ?_
    refine onS (LdStr.of h9 3 rfl (off := 3) rfl (add_mk _ _ _) ?_)
    have hl1 : lt lk e0.key = true := by
     rcases hlk with h | h
     ·exact absurd h hn0
     ·exact h e0 (by rw [hd1, esOf_cons, q1]; simp)
    refine (must_c 4 (above_must hl1)).mono ?_
    rintro e w10 ⟨rfl, rfl⟩
    exact ⟨rfl, onS (hset _ h9)⟩
  ·have : i = L.length := by omega
   subst this
   refine cond_f (by simp) ⟨rfl, l ++ [c.x], fun z hz => ?_, ?_⟩
   ·rcases List.mem_append.1 hz with h | h
    ·exact .inl h
    ·simp only [List.mem_cons, List.not_mem_nil, or_false] at h
     subst h
     exact .inr (by rw [g3]; simp)
   ·have e1 : lk = lastK c.es := by rw [hlk2 (by omega), List.take_length, g2]
    rw [g2, hlen, <- g2, <- e1]
    exact h5.drop
 ·-- an inner node
  have g1 : H.ov c.x = some (nodeO true (L.map Kid.pr)) := by rw [g1]; simp
  rw [show decide (((d + 1 + 1 : Nat) : Int) > 1) = true by simp; omega]
  refine (pairs_c h2 t (by simpa using g5) g1).mono ?_
  rintro e w3 ⟨lp, lc, rfl, hlc, h3⟩
  rw [List.length_map] at h3 ⊢
  refine ⟨_, _, _, rfl, ?_⟩
  have hL0 : 0 < L.length := by omega
  refine (must_c 4 (by simpa using hL0)).mono ?_
  rintro e w4 ⟨rfl, rfl⟩
  refine ⟨rfl, ?_⟩
  rw [g2] at hsrt hlast hn ⊢
  rw [g3] at hnd hfresh
  obtain ⟨hndx, hndL⟩ := List.nodup_cons.1 hnd
  refine ⟨fun j w' => ∃ (i : Nat) (lk : K) (l1 : List Nat), j = i /\ i <= L.length /\ (n + (esOf (L.take i)).length = 0 ∨ ∀ e ∈ esOf (L.drop i), lt lk e.key = true) /\ (i ≠ 0 -> lk = lastK (esOf (L.take i))) /\ (∀ z ∈ l1, z ∈ l ∨ z = c.x ∨ z ∈ hsOf (L.take i)) /\
    Sat (Own 96 2 lp L.length lc (pairsV (L.map Kid.pr)) :: HeapH H v b :: Row cb (cen b t r lk (n + (esOf (L.take i)).length)) 193 :: Blk r (setObj' l1) :: F) w', fun j _ => ((L.length : Int) - j).toNat,
   ⟨0, last, l ++ [c.x], rfl, by omega, by simpa using hlast, fun h => absurd rfl h, fun z hz => by simpa [or_comm, or_left_comm] using hz, h3⟩, ?_⟩
  rintro j w5 ⟨i, lk, l1, rfl, hi, hlk, hlk2, hl1, h5⟩
  unfold S_tree_census_meet_l0
  by_cases hlt : i < L.length
  ·refine cond_t (by simp; omega) ?_
   intro k0 hk0
   obtain ⟨a, ha⟩ : ∃ a, L[i]? = some a := ⟨_, List.getElem?_eq_getElem hlt⟩
   have haL := List.mem_of_getElem? ha
   have hgi : (L.map Kid.pr)[i]? = some a.pr := by rw [List.getElem?_map, ha]; rfl
   have hra := g6 a haL
   obtain ⟨q5, q6, q7, q8⟩ := hra.keyOK (by omega)
   have hd1 : L.drop i = a :: L.drop (i + 1) := by
    have ha' := ha
    rw [List.getElem?_eq_getElem hlt] at ha'
    rw [List.drop_eq_getElem_cons hlt]
    simp only [Option.some.injEq] at ha'
    rw [ha']
   have htk : L.take (i + 1) = L.take i ++ [a] := by rw [List.take_add_one, ha]; rfl
   have hspl : esOf L = esOf (L.take i) ++ (a.es ++ esOf (L.drop (i + 1))) := by
    have := congrArg esOf (List.take_append_drop i L)
    rw [esOf_append, hd1, esOf_cons] at this
    exact this.symm
   have hsplH : hsOf L = hsOf (L.take i) ++ (a.hs ++ hsOf (L.drop (i + 1))) := by
    have := congrArg hsOf (List.take_append_drop i L)
    rw [hsOf_append, hd1, hsOf_cons] at this
    exact this.symm
   rw [hspl] at hsrt
   obtain ⟨s1, s2, s3⟩ := srt_append.1 hsrt
   obtain ⟨s4, s5, s6⟩ := srt_append.1 s2
   rw [hsplH] at hndL
   obtain ⟨u1, u2, u3⟩ := List.nodup_append.1 hndL
   obtain ⟨u4, u5, u6⟩ := List.nodup_append.1 u2
   refine IdxC.ownAt (k := i) h5 0 rfl hlt fun g hg => ?_
   refine LdI.at (n := (a.k : Int)) (Sat.ownAt h5 0 rfl hg (off := i * 2) (pairsV_get0 hgi)) ?_
   refine LdI.at (n := (a.x : Int)) (Sat.ownAt h5 0 rfl hg (off := i * 2 + 1) (pairsV_get1 hgi)) ?_
   refine NewC.ofRow h5 fun b2 w6 h6 => ?_
   refine StC.of h6 0 rfl (off := 0) rfl rfl fun w7 h7 => StC.of h7 0 rfl (off := 1) rfl (add_mk _ _ _) fun w8 h8 => ?_
   have h8 := h8.drew
   refine onS (LdP.of h8 3 rfl (off := 0) rfl rfl (LdI.of h8 3 rfl (off := 1) rfl (add_mk _ _ _) (LdI.of h8 0 rfl (off := 0) rfl rfl ?_)))
   refine (tkey_c (Sat.pull h8 2 rfl) t q6 q5).mono ?_
   rintro e w9 ⟨rfl, h9⟩
   refine ⟨_, rfl, cond_t (by simp; omega) ?_⟩
   have h9 : Sat (HeapH H v b :: Row cb (cen b t r lk (n + (esOf (L.take i)).length)) 193 :: Blk r (setObj' l1) :: Row b2 [.int .u64 (a.k : Int), .int .u64 (a.x : Int)] 96 :: Own 96 2 lp L.length lc (pairsV (L.map Kid.pr)) :: F) w9 :=
    Sat.pull (Sat.pull (Sat.pull h9 4 rfl) 4 rfl) 2 rfl
   have hlen : (esOf L).length = (esOf (L.take i)).length + (a.es.length + (esOf (L.drop (i + 1))).length) := by rw [hspl]; simp
   have hfr : ∀ z ∈ a.hs, z ∉ l1 := by
    intro z hz hz1
    rcases hl1 z hz1 with h | h | h
    ·exact hfresh z (by rw [hsplH]; simp [hz]) h
    ·subst h; exact hndx (by rw [hsplH]; simp [hz])
    ·exact u3 z h z (by simp [hz]) rfl
   have hnext : ∀ l' w', (∀ z ∈ l', z ∈ l1 ∨ z ∈ a.hs) -> Sat (HeapH H v b :: Row cb (cen b t r (lastK a.es) (n + (esOf (L.take i)).length + a.es.length)) 193 :: Blk r (setObj' l') :: Row b2 [.int .u64 (a.k : Int), .int .u64 (a.x : Int)] 96 :: Own 96 2 lp L.length lc (pairsV (L.map Kid.pr)) :: F) w' -> k0 w' := by
    intro l' w' hl' h'
    refine hk0 _ ?_
    unfold S_tree_census_meet_j0
    have e1 : n + (esOf (L.take i)).length + a.es.length = n + (esOf (L.take (i + 1))).length := by rw [htk, esOf_append, esOf_cons]; simp; omega
    rw [e1] at h'
    refine ⟨⟨i + 1, lastK a.es, l', by rw [wrapI64 (by omega) (by omega)]; omega, by omega, ?_, fun _ => ?_, fun z hz => ?_, Sat.pull (h'.del 3 rfl) 3 rfl⟩, by rw [wrapI64 (by omega) (by omega)]; dsimp only; omega⟩
    ·right
     intro e he
     obtain ⟨e1, h1, h2⟩ := lastK_mem q8
     rw [h2]
     exact s6 e1 h1 e he
    ·rw [htk, esOf_append, esOf_cons, esOf_nil, List.append_nil, lastK_app _ _ q8]
    ·rw [htk, hsOf_append, hsOf_cons, hsOf_nil, List.append_nil]
     rcases hl' z hz with h | h
     ·rcases hl1 z h with h | h | h
      ·exact .inl h
      ·exact .inr (.inl h)
      ·exact .inr (.inr (List.mem_append_left _ h))
     ·exact .inr (.inr (List.mem_append_right _ h))
   have hup : n + (esOf (L.take i)).length = 0 ∨ ∀ e ∈ a.es, lt lk e.key = true := by
    refine hlk.imp id fun h e he => h e ?_
    rw [hd1, esOf_cons]; simp [he]
   have edp : IntKind.wrap .i64 (((d + 1 + 1 : Nat) : Int) - 1) = ((d + 1 : Nat) : Int) := by rw [wrapI64 (by omega) (by omega)]; omega
   rw [edp]
   refine onS (LdI.of h9 1 rfl (off := 4) rfl (add_mk _ _ _) ?_)
   by_cases hn0 : n + (esOf (L.take i)).length = 0
   ·refine cond_t (by simp; omega) ?_
    refine (must_c 4 rfl).mono ?_
    rintro e w10 ⟨rfl, rfl⟩
    refine ⟨rfl, LdI.of h9 3 rfl (off := 1) rfl (add_mk _ _ _) ?_⟩
    refine (ih (by omega) hra (by omega) s4 u4 hfr hup (by omega) h9).mono ?_
    rintro e w11 ⟨rfl, l', hl', h11⟩
    exact ⟨rfl, cen_chk hra (by omega) h11 (fun w' h' => hnext l' w' hl' h')⟩
   ·refine cond_f (by simp; omega) ?_
    refine onS (LdStr.of h9 1 rfl (off := 3) rfl (add_mk _ _ _) ?_)
    have hl2 : lt lk a.key = true := by
     obtain ⟨e, rr, he, hek, _⟩ := key_head q8
     rw [<- hek]
     exact (hup.resolve_left hn0) e (by rw [he]; simp)
    refine (must_c 4 (above_must hl2)).mono ?_
    rintro e w10 ⟨rfl, rfl⟩
    refine ⟨rfl, LdI.of h9 3 rfl (off := 1) rfl (add_mk _ _ _) ?_⟩
    refine (ih (by omega) hra (by omega) s4 u4 hfr hup (by omega) h9).mono ?_
    rintro e w11 ⟨rfl, l', hl', h11⟩
    exact ⟨rfl, cen_chk hra (by omega) h11 (fun w' h' => hnext l' w' hl' h')⟩
  ·have : i = L.length := by omega
   subst this
   refine cond_f (by simp) ⟨rfl, l1, fun z hz => ?_, ?_⟩
   ·rw [g3]
    rcases hl1 z hz with h | h | h
    ·exact .inl h
    ·exact .inr (by simp [h])
    ·rw [List.take_length] at h
     exact .inr (by simp [h])
   ·have hlk3 := hlk2 (by omega)
    rw [List.take_length] at hlk3 h5
    rw [<- hlk3]
    exact h5.drop
end
end Go.Proofs.YtpicofkhioalkaaGreat
/- What Check comes to, and Make. -/
set_option maxRecDepth 100000
namespace Go.Proofs.YtpicofkhioalkaaGreat
open Go Go.Lw Go.Wd Go.Am Go.Tb Go.Hm Go.Kd Go.Td
section
variable {H : Hp} {v : Value} {b : Nat} {F : List HP} {w : World}
theorem tcheck_c (hs : Sat (HeapH H v b :: F) w) {t : Nat} {es : List Ent} {ts : List Nat} (hT : Tree H.ov t es ts) (hn : es.length <= 1000000) :
  Calls Tryz.prog 63 #[.pointer (some ⟨b, 0, none⟩), .int .u64 (t : Int)] w (Ret (.int .i64 0) (Sat (HeapH H v b :: F))) := by
 obtain ⟨D, x, hD, ho⟩ := depth_le hT hn
 refine S_tree_Check_ok _ _ _ _ ?_
 unfold S_tree_Check
 refine NewC.of hs fun m0 w0 h0 => ?_
 have h0 : Sat (Blk m0 (setObj' []) :: HeapH H v b :: F) w0 := h0
 suffices hh : Calls Tryz.prog 112 #[.pointer (some ⟨b, 0, none⟩), .int .u64 (t : Int), .map (some m0)] w0 (Ret (.int .i64 0) (Sat (HeapH H v b :: F))) by
  refine hh.mono ?_
  rintro e w1 ⟨rfl, h1⟩
  exact ⟨_, rfl, rfl, h1⟩
 refine S_tree_Whole_ok _ _ _ _ _ ?_
 unfold S_tree_Whole
 refine NewC.ofRow h0 fun b0 w1 h1 => ?_
 refine (treeof_ok (h1.pull 2 rfl) _ _ _ (ofE_tree ho (by omega))).mono ?_
 rintro e w2 ⟨rfl, h2⟩
 refine ⟨_, _, _, rfl, ?_⟩
 refine NewC.ofRow h2 fun b1 w3 h3 => ?_
 refine StC.of h3 0 rfl (off := 0) rfl rfl fun w4 h4 => StC.of h4 0 rfl (off := 1) rfl (add_mk _ _ _) fun w5 h5 => ?_
 refine StC.of h5 2 rfl (off := 0) rfl rfl fun w6 h6 => ?_
 refine LdI.of h6 2 rfl (off := 0) rfl rfl (cond_f rfl ?_)
 have h6 : Sat (Row b1 (trc b t) 73 :: HeapH H v b :: Row b0 [.int .i64 0] 31 :: Blk m0 (setObj' []) :: F) w6 := h6
 refine ⟨false, lookSet us us_u64 us_zero (h6.blk 3 rfl) (by simp), ?_⟩
 refine NewC.ofRow h6 fun be w7 h7 => ?_
 have h7 := h7.drop
 refine (must_c 4 rfl).mono ?_
 rintro e w8 ⟨rfl, rfl⟩
 refine ⟨rfl, ?_⟩
 refine putSet us us_u64 h7 3 rfl (by simp) fun w9 h9 => ?_
 refine LdP.of h9 0 rfl (off := 0) rfl rfl (LdI.of h9 0 rfl (off := 1) rfl (add_mk _ _ _) ?_)
 refine NewC.ofRow h9 fun b4 w10 h10 => ?_
 have h10 : Sat (Row b4 (cen b t m0 [] 0) 193 :: Row b1 (trc b t) 73 :: HeapH H v b :: Row b0 [.int .i64 0] 31 :: Blk m0 (setObj' [t]) :: F) w10 := h10
 intro k0 hk0
 have fin : ∀ (lk : K) (l' : List Nat) w', Sat (HeapH H v b :: Row b4 (cen b t m0 lk es.length) 193 :: Blk m0 (setObj' l') :: Row b1 (trc b t) 73 :: Row b0 [.int .i64 0] 31 :: F) w' -> k0 w' := by
  intro lk l' w' h'
  refine hk0 _ ?_
  unfold S_tree_Whole_j0
  refine ⟨fun w' => ∃ T, Sat (Row b4 (cen b t m0 lk es.length) 193 :: Row b1 (trc b t) 73 :: T) w', ⟨_, Sat.pull (Sat.pull h'.drew 3 rfl) 2 rfl⟩, ?_⟩
  refine ⟨(es.length : Nat), fun w ⟨T, h⟩ => LdI.of h 0 rfl (off := 4) rfl (add_mk _ _ _) rfl, ?_⟩
  refine ⟨_, _, fun w ⟨T, h⟩ => trv_ld h.drop 0 rfl, ?_⟩
  refine (tcount_c h'.drew ho (by omega)).mono ?_
  rintro e w11 ⟨rfl, h11⟩
  refine ⟨_, rfl, _, fun _ h => h, ⟨_, Sat.pull (Sat.pull h11 3 rfl) 2 rfl⟩, ?_⟩
  refine (must_c 4 (by simp)).mono ?_
  rintro e w12 ⟨rfl, rfl⟩
  refine ⟨rfl, _, fun _ h => h, ⟨_, Sat.pull (Sat.pull h11 3 rfl) 2 rfl⟩, ?_⟩
  refine StC.of h11 4 rfl (off := 0) rfl rfl fun w13 h13 => LdI.of h13 4 rfl (off := 0) rfl rfl ⟨rfl, ?_⟩
  exact (((h13.del 1 rfl).del 1 rfl).del 1 rfl).del 1 rfl
 have h11 : Sat (HeapH H v b :: Row b4 (cen b t m0 [] 0) 193 :: Blk m0 (setObj' [t]) :: Row b1 (trc b t) 73 :: Row b0 [.int .i64 0] 31 :: F) w10 := Sat.pull (Sat.pull (Sat.pull (Sat.pull (Sat.pull h10 3 rfl) 2 rfl) 4 rfl) 3 rfl) 4 rfl
 refine LdP.of h11 3 rfl (off := 0) rfl rfl (LdI.of h11 3 rfl (off := 1) rfl (add_mk _ _ _) ?_)
 refine (ttop_c h11 ho).mono ?_
 rintro e w12 ⟨rfl, h12⟩
 refine ⟨_, rfl, ?_⟩
 have hz := ov_zero (sat_wf hs)
 rcases hT.at_ with ⟨e1, e2, e3⟩ | ⟨d, c, e1, e2, e3, e4⟩
 ·have hh : x = 0 /\ D = 0 := by
   rw [ho] at e3
   simp only [treeO, Option.some.injEq, Ov.mk.injEq, List.cons.injEq] at e3
   exact ⟨e3.2.2.1, e3.2.2.2.2.1⟩
  obtain ⟨rfl, rfl⟩ := hh
  refine cond_f rfl ?_
  refine LdP.of h12 3 rfl (off := 0) rfl rfl (LdI.of h12 3 rfl (off := 1) rfl (add_mk _ _ _) ?_)
  refine (tdepth_c h12 ho (by omega)).mono ?_
  rintro e w13 ⟨rfl, h13⟩
  refine ⟨_, rfl, ?_⟩
  refine (must_c 4 rfl).mono ?_
  rintro e w14 ⟨rfl, rfl⟩
  refine ⟨rfl, fin [] [t] _ ?_⟩
  rw [e1]; exact h13
 ·have hh : x = c.x /\ D = d + 1 := by
   rw [ho] at e1
   simp only [treeO, Option.some.injEq, Ov.mk.injEq, List.cons.injEq] at e1
   exact ⟨e1.2.2.1, e1.2.2.2.2.1⟩
  obtain ⟨rfl, rfl⟩ := hh
  have hx0 := xne hz e2
  refine cond_t (by simpa using fun h => hx0 (by omega)) ?_
  refine LdP.of h12 3 rfl (off := 0) rfl rfl (LdI.of h12 3 rfl (off := 1) rfl (add_mk _ _ _) ?_)
  refine (tdepth_c h12 ho (by omega)).mono ?_
  rintro e w13 ⟨rfl, h13⟩
  refine ⟨_, rfl, ?_⟩
  refine (must_c 4 (by first | (simp; done) | (simp; omega))).mono ?_
  rintro e w14 ⟨rfl, rfl⟩
  refine ⟨rfl, ?_⟩
  refine LdP.of h13 3 rfl (off := 0) rfl rfl (LdI.of h13 3 rfl (off := 1) rfl (add_mk _ _ _) ?_)
  refine (tdepth_c h13 ho (by omega)).mono ?_
  rintro e w15 ⟨rfl, h15⟩
  refine ⟨_, rfl, ?_⟩
  have hnd := e4.nodup_iff.1 hT.nd
  obtain ⟨n1, n2⟩ := List.nodup_cons.1 hnd
  refine (cmeet_c (b := b) (t := t) d (by omega) e2 (by split <;> omega) (by rw [<- e3]; exact hT.srt) n2 (fun z hz => by
   simp only [List.mem_cons, List.not_mem_nil, or_false]
   intro e; subst e; exact n1 hz) (.inl rfl) (by rw [<- e3]; omega) h15).mono ?_
  rintro e w16 ⟨rfl, l', hl', h16⟩
  refine ⟨rfl, fin (lastK c.es) l' _ ?_⟩
  rw [Nat.zero_add, <- e3] at h16
  rw [<- e3]
  exact h16
end
section
variable {v : Value} {b : Nat} {E : Eng v b} {s : E.σ} {F : List HP} {w : World}
theorem tmake_c (hs : Sat (E.S s F) w) (hi : E.inv s) (h4 : (E.H s).m.top + 4 <= (E.H s).m.n) (h5 : (E.H s).t.count < (E.H s).t.n) :
  Calls Tryz.prog 35 #[.pointer (some ⟨b, 0, none⟩)] w fun e w' =>
   ∃ (s' : E.σ) (x : Nat), e = .returned (.tuple #[.int .u64 (x : Int), .int .i64 0]) /\ E.Mv s s' 1 4 /\ x ≠ 0 /\ E.ov s x = none /\ E.ok s' x /\ E.ov s' = updO (E.ov s) x (treeO 0 0 0) /\ Sat (E.S s' F) w' := by
 refine S_tree_Make_ok _ _ _ ?_
 unfold S_tree_Make
 refine emk_c hs hi (tag := 20) (refs := 1) (size := 3) (by omega) (by omega) (by omega) (by omega) h5 ?_
 intro s1 k w3 m1 x0 xl xn xk xo h3
 exact ⟨_, _, rfl, cond_f rfl ⟨s1, k, rfl, m1, x0, xn, xk, xo, h3⟩⟩
end
end Go.Proofs.YtpicofkhioalkaaGreat
