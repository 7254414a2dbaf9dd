
/- What Put and Take come to, where there is room; what is answered to one that is no tree, or to a key that is too long. -/
import Derived.Test.YtpicofkhioalkaaGreatEa
set_option maxRecDepth 100000
namespace Go.Proofs.YtpicofkhioalkaaGreat
open Go Go.Lw Go.Wd Go.Am Go.Tb Go.Hm Go.Kd Go.Td
section
variable {H : Hp} {v : Value} {b : Nat} {F : List HP} {w : World}
def Hp.room (H : Hp) (n k : Nat) : Bool := decide (n <= H.m.n - H.m.top /\ k <= H.t.n - H.t.count)
theorem droom_c (hs : Sat (HeapH H v b :: F) w) {n k : Nat} (hn : n <= 1073741824) (hk : k <= 1073741824) :
  Calls Tryz.prog 48 #[.pointer (some ⟨b, 0, none⟩), .int .i64 (n : Int), .int .i64 (k : Int)] w (Ret (.bool (Hp.room H n k)) (Sat (HeapH H v b :: F))) := by
 have hm := sat_wf hs
 have hc := count_le hm.tab
 have htn := hm.tab.most
 have ham := hm.am.top
 have ham2 := hm.am.most
 refine S_doc_Room_ok _ _ _ _ _ ?_
 unfold S_doc_Room
 refine (harena_c hs).mono ?_
 rintro e w1 ⟨rfl, ba, bt, rfl, h1⟩
 refine ⟨_, rfl, ?_⟩
 refine (free2 (h1.pull 1 rfl)).mono ?_
 rintro e w2 ⟨rfl, h2⟩
 have h2 := heap_shut hm (Sat.p1 h2)
 refine ⟨_, rfl, ?_⟩
 by_cases h0 : n <= H.m.n - H.m.top
 ·refine cond_t (by simp; omega) ?_
  refine (htable_c h2).mono ?_
  rintro e w3 ⟨rfl, ba, bt, rfl, h3⟩
  refine ⟨_, rfl, ?_⟩
  refine (slots_c (h3.pull 2 rfl)).mono ?_
  rintro e w4 ⟨rfl, rfl⟩
  refine ⟨_, rfl, ?_⟩
  refine (htable_c (heap_shut hm h3)).mono ?_
  rintro e w5 ⟨rfl, ba, bt, rfl, h5⟩
  refine ⟨_, rfl, ?_⟩
  refine (count_c (h5.pull 2 rfl)).mono ?_
  rintro e w6 ⟨rfl, rfl⟩
  refine ⟨_, rfl, ?_, heap_shut hm h5⟩
  rw [wrapI64 (by omega) (by omega)]
  congr 2
  unfold Hp.room
  simp only [decide_eq_decide]
  omega
 ·refine cond_f (by simp; omega) ⟨?_, h2⟩
  congr 2
  unfold Hp.room
  simp only [false_eq_decide_iff]
  omega
end
section
variable {v : Value} {b : Nat} {E : Eng v b} {s : E.σ} {F : List HP} {w : World}
def TakeQ (E : Eng v b) (s : E.σ) (t : Nat) (es : List Ent) (us : List Nat) (key : K) (F : List HP) (e : Ending) (w' : World) : Prop :=
 ∃ (s' : E.σ) (es' : List Ent) (us' : List Nat) (old : Nat) (had : Bool) (A o C : KV), e = .returned (.tuple #[.int .u64 (old : Int), .bool had, .int .i64 0]) /\ Cut (kv es) key A o C /\ kv es' = A ++ C /\ (o = [] /\ had = false /\ old = 0 ∨ o = [(key, old)] /\ had = true) /\
  TrS E s' t es' us' /\ St E s us s' us' 0 0 /\ Sat (E.S s' F) w'
def PutQ (E : Eng v b) (s : E.σ) (t : Nat) (es : List Ent) (us : List Nat) (key : K) (x D : Nat) (F : List HP) (e : Ending) (w' : World) : Prop :=
 ∃ (s' : E.σ) (es' : List Ent) (us' : List Nat) (k m old : Nat) (had : Bool) (A o C : KV), e = .returned (.tuple #[.int .u64 (old : Int), .bool had, .int .i64 0]) /\ Cut (kv es) key A o C /\ kv es' = A ++ (key, x) :: C /\ (o = [] /\ had = false /\ old = 0 ∨ o = [(key, old)] /\ had = true) /\
  TrS E s' t es' us' /\ St E s us s' us' k m /\ k <= D + 2 /\ m <= 26 * (D + 1) + 3 + key.length / 8 /\ Sat (E.S s' F) w'
abbrev r3 (b0 b1 b2 : Nat) : List HP := [Row b2 [.int .i64 0] 31, Row b1 [.bool false] 4, Row b0 [.int .u64 0] 32]
theorem old_told {b0 b1 b2 : Nat} {G : List HP} {old : Nat} {had : Bool} (g : Sat (r3 b0 b1 b2 ++ G) w) {R : Ending -> World -> Prop} (h : ∀ w', Sat G w' -> R (.returned (.tuple #[.int .u64 (old : Int), .bool had, .int .i64 0])) w') :
  StC w (⟨b0, 0, none⟩) (.int .u64 (old : Int)) fun w12 => StC w12 (⟨b1, 0, none⟩) (.bool had) fun w13 =>
  ∃ C1 : World -> Prop, C1 (World.drew w13) /\ LdIQ .u64 C1 (⟨b0, 0, none⟩) fun n5 => LdBQ C1 (⟨b1, 0, none⟩) fun b5 =>
  StC (World.drew w13) (⟨b0, 0, none⟩) (.int .u64 n5) fun w14 => C1 w14 /\ StC w14 (⟨b1, 0, none⟩) (.bool b5) fun w15 => StC w15 (⟨b2, 0, none⟩) (.int .i64 0) fun w16 =>
  LdI .u64 w16 (⟨b0, 0, none⟩) fun n6 => LdB w16 (⟨b1, 0, none⟩) fun b6 => LdI .i64 w16 (⟨b2, 0, none⟩) fun n7 => R (.returned (.tuple #[.int .u64 n6, .bool b6, .int .i64 n7])) w16 := by
 refine StC.of g 2 rfl (off := 0) rfl rfl fun w5 h5 => StC.of h5 1 rfl (off := 0) rfl rfl fun w6 h6 => ?_
 refine ⟨fun w' => ∃ T, Sat (Row b0 [.int .u64 (old : Int)] 32 :: Row b1 [.bool had] 4 :: T) w', ⟨_, Sat.p2 h6.drew |> fun g => Sat.pull g 0 rfl |> fun g => Sat.pull (Sat.pull h6.drew 1 rfl) 2 rfl⟩, ?_⟩
 refine LdIQ.row (cs := [.int .u64 (old : Int)]) (fun w ⟨T, h⟩ => ⟨_, h⟩) (off := 0) rfl rfl ?_
 refine LdBQ.row (cs := [.bool had]) (fun w ⟨T, h⟩ => ⟨_, h.p1⟩) (off := 0) rfl rfl ?_
 refine StC.of h6.drew 2 rfl (off := 0) rfl rfl fun w7 h7 => ⟨⟨_, Sat.pull (Sat.pull h7 1 rfl) 2 rfl⟩, ?_⟩
 refine StC.of h7 1 rfl (off := 0) rfl rfl fun w8 h8 => StC.of h8 0 rfl (off := 0) rfl rfl fun w9 h9 => ?_
 refine LdI.of h9 2 rfl (off := 0) rfl rfl (LdB.of h9 1 rfl (off := 0) rfl rfl (LdI.of h9 0 rfl (off := 0) rfl rfl (h _ h9.drop.drop.drop)))
theorem eTake_c (hs : Sat (E.S s F) w) (hi : E.inv s) {t : Nat} {es : List Ent} {us : List Nat} (hT : TrS E s t es us) (hn : es.length <= 1000000) {key : K} (hkl : key.length <= 16384) {kp : Option Addr} {kl kc : Nat} (hl : kl = key.length) (hk : RdB F kp key) :
  Calls Tryz.prog 10 #[.pointer (some ⟨b, 0, none⟩), .int .u64 (t : Int), .slice kp kl kc] w (TakeQ E s t es us key F) := by
 obtain ⟨D, x, hD, ho⟩ := depth_le hT.tree hn
 refine S_tree_Take_ok _ _ _ _ _ _ _ ?_
 unfold S_tree_Take
 refine NewC.ofRow hs fun b0 w1 h1 => NewC.ofRow h1 fun b1 w2 h2 => NewC.ofRow h2 fun b2 w3 h3 => ?_
 refine (treeof_ok (h3.pull 3 rfl) _ _ _ (ofE_tree ho (by omega))).mono ?_
 rintro e w3 ⟨rfl, h3⟩
 refine ⟨_, _, _, rfl, ?_⟩
 refine NewC.ofRow h3 fun b3 w4 h4 => ?_
 refine StC.of h4 0 rfl (off := 0) rfl rfl fun w5 h5 => StC.of h5 0 rfl (off := 1) rfl (add_mk _ _ _) fun w6 h6 => ?_
 refine StC.of h6 2 rfl (off := 0) rfl rfl fun w7 h7 => ?_
 refine LdI.of h7 2 rfl (off := 0) rfl rfl (cond_f rfl ?_)
 refine LdP.of h7 0 rfl (off := 0) rfl rfl (LdI.of h7 0 rfl (off := 1) rfl (add_mk _ _ _) ?_)
 have g7 : Sat (E.S s (Row b3 (trc b t) 73 :: (r3 b0 b1 b2 ++ F))) w7 := Sat.pull (Sat.pull h7 1 rfl) 5 rfl |> fun g => Sat.p1 g
 have hk7 : RdB (E.S s (Row b3 (trc b t) 73 :: (r3 b0 b1 b2 ++ F))) kp key := hk.tail.tail.tail.tail.tail.tail
 refine hk7.run g7 hl ?_
 refine (ttake_c g7 hi hT hkl ⟨_, _, ho⟩ (by omega) hn).mono ?_
 rintro e w8 ⟨s', es', us', old, had, A, o, C, rfl, q1, q2, q3, q4, q5, g8⟩
 refine ⟨_, _, rfl, ?_⟩
 refine old_told (G := E.S s' F) (Sat.pull (Sat.pull (Sat.pull (g8.del 2 rfl) 4 rfl) 4 rfl) 4 rfl) fun w' h' => ?_
 exact ⟨s', es', us', old, had, A, o, C, rfl, q1, q2, q3, q4, q5, h'⟩
theorem ePut_c (hs : Sat (E.S s F) w) (hi : E.inv s) {t : Nat} {es : List Ent} {us : List Nat} (hT : TrS E s t es us) (hn : es.length <= 1000000) {key : K} (hkl : key.length <= 16384) {kp : Option Addr} {kl kc : Nat} (hl : kl = key.length) (hk : RdB F kp key)
  {x D : Nat} (hx : x = 0 ∨ E.ok s x) (hD : Deep (E.ov s) t D) (hroom : Hp.room (E.H s) (26 * (D + 1) + 3 + key.length / 8) (D + 2) = true) :
  Calls Tryz.prog 11 #[.pointer (some ⟨b, 0, none⟩), .int .u64 (t : Int), .slice kp kl kc, .int .u64 (x : Int)] w (PutQ E s t es us key x D F) := by
 obtain ⟨D', y, hD8, ho⟩ := depth_le hT.tree hn
 have hDD : D = D' := deep_of hD ho
 subst hDD
 subst hl
 have hm0 := sat_S hs
 have hxl : x < 18446744073709551616 := by
  rcases hx with rfl | hx
  ·omega
  ·exact ok_lt hi hm0 hx
 have hrm : 26 * (D + 1) + 3 + key.length / 8 <= (E.H s).m.n - (E.H s).m.top /\ D + 2 <= (E.H s).t.n - (E.H s).t.count := by unfold Hp.room at hroom; simpa using hroom
 refine S_tree_Put_ok _ _ _ _ _ _ _ _ ?_
 unfold S_tree_Put
 refine NewC.ofRow hs fun b0 w1 h1 => NewC.ofRow h1 fun b1 w2 h2 => NewC.ofRow h2 fun b2 w3 h3 => ?_
 refine (treeof_ok (h3.pull 3 rfl) _ _ _ (ofE_tree ho (by omega))).mono ?_
 rintro e w3 ⟨rfl, h3⟩
 refine ⟨_, _, _, rfl, ?_⟩
 refine NewC.ofRow h3 fun b3 w4 h4 => ?_
 refine StC.of h4 0 rfl (off := 0) rfl rfl fun w5 h5 => StC.of h5 0 rfl (off := 1) rfl (add_mk _ _ _) fun w6 h6 => ?_
 refine StC.of h6 2 rfl (off := 0) rfl rfl fun w7 h7 => ?_
 refine LdI.of h7 2 rfl (off := 0) rfl rfl (cond_f rfl ?_)
 have g7 : Sat (E.S s (Row b3 (trc b t) 73 :: (r3 b0 b1 b2 ++ F))) w7 := Sat.pull (Sat.pull h7 1 rfl) 5 rfl |> fun g => Sat.p1 g
 refine (htable_c g7).mono ?_
 rintro e w8 ⟨rfl, ba, bt, rfl, h8⟩
 refine ⟨_, rfl, ?_⟩
 refine (at_c (h8.pull 2 rfl) hxl).mono ?_
 rintro e w9 ⟨rfl, rfl⟩
 have g9 := heap_shut hm0 h8
 have hk7 : RdB (E.S s (Row b3 (trc b t) 73 :: (r3 b0 b1 b2 ++ F))) kp key := hk.tail.tail.tail.tail.tail.tail
 have fin : ∀ e w', PutP E s t es us key x D (Row b3 (trc b t) 73 :: (r3 b0 b1 b2 ++ F)) e w' -> ∃ (r9 : Int), ∃ (r10 : Bool), e = .returned (.tuple #[.int .u64 r9, .bool r10]) /\
   StC w' (⟨b0, 0, none⟩) (.int .u64 r9) fun w12 => StC w12 (⟨b1, 0, none⟩) (.bool r10) fun w13 =>
   ∃ C1 : World -> Prop, C1 (World.drew w13) /\ LdIQ .u64 C1 (⟨b0, 0, none⟩) fun n5 => LdBQ C1 (⟨b1, 0, none⟩) fun b5 =>
   StC (World.drew w13) (⟨b0, 0, none⟩) (.int .u64 n5) fun w14 => C1 w14 /\ StC w14 (⟨b1, 0, none⟩) (.bool b5) fun w15 => StC w15 (⟨b2, 0, none⟩) (.int .i64 0) fun w16 =>
   LdI .u64 w16 (⟨b0, 0, none⟩) fun n6 => LdB w16 (⟨b1, 0, none⟩) fun b6 => LdI .i64 w16 (⟨b2, 0, none⟩) fun n7 => PutQ E s t es us key x D F (.returned (.tuple #[.int .u64 n6, .bool b6, .int .i64 n7])) w16 := by
  rintro e w' ⟨s', es', us', k, m, old, had, A, o, C, rfl, q1, q2, q3, q4, q5, q6, q7, g8⟩
  refine ⟨_, _, rfl, ?_⟩
  refine old_told (G := E.S s' F) (Sat.pull (Sat.pull (Sat.pull (g8.del 2 rfl) 4 rfl) 4 rfl) 4 rfl) fun w' h' => ?_
  exact ⟨s', es', us', k, m, old, had, A, o, C, rfl, q1, q2, q3, q4, q5, q6, q7, h'⟩
 have body : LdP w7 (⟨b3, 0, none⟩) fun p0 => LdI .u64 w7 (Addr.add (⟨b3, 0, none⟩) 1) fun n6 =>
   Calls Tryz.prog 46 #[.agg #[.pointer p0, .int .u64 n6],   .int .i64 (Nat.cast key.length : Int)] w7 fun e3 w16 => ∃ (r6 : Int), ∃ (r7 : Int), e3 = .returned (.tuple #[.int .i64 r6, .int .i64 r7]) /\
   Calls Tryz.prog 48 #[.pointer (some ⟨b, 0, none⟩), .int .i64 r6, .int .i64 r7] w16 fun e4 w17 => ∃ (r8 : Bool), e4 = .returned (.bool r8) /\
   Calls Tryz.prog 47 #[.bool r8, .int .i64 5] w17 fun e5 w18 => e5 = .returned (.tuple #[]) /\
   LdP w18 (⟨b3, 0, none⟩) fun p1 => LdI .u64 w18 (Addr.add (⟨b3, 0, none⟩) 1) fun n7 => RunStr Tryz.prog (convert 28 9 (.slice kp key.length kc)) w18 fun t1 =>
   Calls Tryz.prog 49 #[.agg #[.pointer p1, .int .u64 n7], .string t1, .int .u64 (x : Int)] w18 fun e w' => ∃ (r9 : Int), ∃ (r10 : Bool), e = .returned (.tuple #[.int .u64 r9, .bool r10]) /\
   StC w' (⟨b0, 0, none⟩) (.int .u64 r9) fun w12 => StC w12 (⟨b1, 0, none⟩) (.bool r10) fun w13 =>
   ∃ C1 : World -> Prop, C1 (World.drew w13) /\ LdIQ .u64 C1 (⟨b0, 0, none⟩) fun n5 => LdBQ C1 (⟨b1, 0, none⟩) fun b5 =>
   StC (World.drew w13) (⟨b0, 0, none⟩) (.int .u64 n5) fun w14 => C1 w14 /\ StC w14 (⟨b1, 0, none⟩) (.bool b5) fun w15 => StC w15 (⟨b2, 0, none⟩) (.int .i64 0) fun w16 =>
   LdI .u64 w16 (⟨b0, 0, none⟩) fun n6 => LdB w16 (⟨b1, 0, none⟩) fun b6 => LdI .i64 w16 (⟨b2, 0, none⟩) fun n7 => PutQ E s t es us key x D F (.returned (.tuple #[.int .u64 n6, .bool b6, .int .i64 n7])) w16 := by
  refine LdP.of g9 2 rfl (off := 0) rfl rfl (LdI.of g9 2 rfl (off := 1) rfl (add_mk _ _ _) ?_)
  refine (troom_c g9 ho (by omega) (by omega)).mono ?_
  rintro e w10 ⟨rfl, h10⟩
  refine ⟨_, _, rfl, ?_⟩
  refine (droom_c h10 (by omega) (by omega)).mono ?_
  rintro e w11 ⟨rfl, h11⟩
  refine ⟨_, rfl, ?_⟩
  refine (must_c 5 hroom).mono ?_
  rintro e w12 ⟨rfl, rfl⟩
  refine ⟨rfl, ?_⟩
  refine LdP.of h11 2 rfl (off := 0) rfl rfl (LdI.of h11 2 rfl (off := 1) rfl (add_mk _ _ _) ?_)
  refine hk7.run h11 rfl ?_
  exact (tput_c h11 hi hT hkl hx hD (by omega) hn (by omega) (by omega)).mono fin
 have hcase : ∃ r4 r5 : Int, (match (E.H s).t.find x with | some i => Value.tuple #[.int .i64 ((E.H s).t.atOf i : Nat), .int .i64 0] | none => .tuple #[.int .i64 0, .int .i64 6]) = .tuple #[.int .i64 r4, .int .i64 r5] /\ (x ≠ 0 -> r5 = 0) := by
  cases hf : (E.H s).t.find x with
  | some i => exact ⟨_, _, rfl, fun _ => rfl⟩
  | none =>
   refine ⟨_, _, rfl, fun h0 => ?_⟩
   have := E.live hi (hx.resolve_left h0)
   rw [(look_none hm0).2 hf] at this
   cases this
 obtain ⟨r4, r5, hr, hr5⟩ := hcase
 refine ⟨_, _, congrArg Ending.returned hr, ?_⟩
 by_cases hx0 : x = 0
 ·refine cond_f (by simp [hx0]) body
 ·refine cond_t (by simp; omega) (cond_f (by rw [hr5 hx0]; rfl) body)
end
end Go.Proofs.YtpicofkhioalkaaGreat
/- What Get, Seek, Last, Put and Take answer to one that is no tree, or to a key that is too long. -/
set_option maxRecDepth 100000
namespace Go.Proofs.YtpicofkhioalkaaGreat
open Go Go.Lw Go.Wd Go.Am Go.Tb Go.Hm Go.Kd Go.Td
section
variable {H : Hp} {v : Value} {b : Nat} {F : List HP} {w : World}
theorem tget_no (hs : Sat (HeapH H v b :: F) w) {t : Nat} (ht : t < 18446744073709551616) (kp : Option Addr) (kl kc : Nat) (hE : ofE H t kl ≠ 0) :
  Calls Tryz.prog 15 #[.pointer (some ⟨b, 0, none⟩), .int .u64 (t : Int), .slice kp kl kc] w (Ret (.tuple #[.int .u64 0, .bool false, .int .i64 (ofE H t kl : Nat)]) (Sat (HeapH H v b :: F))) := by
 refine S_tree_Get_ok _ _ _ _ _ _ _  ?_
 unfold S_tree_Get
 refine NewC.ofRow hs fun b0 w1 h1 => NewC.ofRow h1 fun b1 w2 h2 => NewC.ofRow h2 fun b2 w3 h3 => ?_
 refine (treeof_no (h3.pull 3 rfl) ht _ _ _ hE).mono ?_
 rintro e w5 ⟨rfl, h5⟩
 refine ⟨_, _, _, rfl, ?_⟩
 refine NewC.ofRow h5 fun b9 w6 h6 => ?_
 refine StC.of h6 0 rfl (off := 0) rfl rfl fun w7 h7 => StC.of h7 0 rfl (off := 1) rfl (add_mk _ _ _) fun w8 h8 => ?_
 refine StC.of h8 2 rfl (off := 0) rfl rfl fun w9 h9 => ?_
 refine LdI.of h9 2 rfl (off := 0) rfl rfl (cond_t (by simpa using hE) ?_)
 refine ⟨fun w' => ∃ T, Sat (Row b2 [.int .i64 (ofE H t kl : Nat)] 31 :: T) w', ⟨_, Sat.pull h9.drew 2 rfl⟩, ?_⟩
 refine LdIQ.row (cs := [.int .i64 (ofE H t kl : Nat)]) (fun w ⟨T, h⟩ => ⟨_, h⟩) (off := 0) rfl rfl ?_
 refine StC.of h9.drew 4 rfl (off := 0) rfl rfl fun u0 g0 => ⟨⟨_, Sat.pull g0 2 rfl⟩, ?_⟩
 refine StC.of g0 3 rfl (off := 0) rfl rfl fun u1 g1 => ⟨⟨_, Sat.pull g1 2 rfl⟩, ?_⟩
 refine StC.of g1 2 rfl (off := 0) rfl rfl fun u9 g9 => ?_
 refine LdI.of g9 4 rfl (off := 0) rfl rfl (LdB.of g9 3 rfl (off := 0) rfl rfl (LdI.of g9 2 rfl (off := 0) rfl rfl ⟨rfl, ?_⟩))
 exact (((g9.drop).del 1 rfl).del 1 rfl).del 1 rfl
theorem ttake_no (hs : Sat (HeapH H v b :: F) w) {t : Nat} (ht : t < 18446744073709551616) (kp : Option Addr) (kl kc : Nat) (hE : ofE H t kl ≠ 0) :
  Calls Tryz.prog 10 #[.pointer (some ⟨b, 0, none⟩), .int .u64 (t : Int), .slice kp kl kc] w (Ret (.tuple #[.int .u64 0, .bool false, .int .i64 (ofE H t kl : Nat)]) (Sat (HeapH H v b :: F))) := by
 refine S_tree_Take_ok _ _ _ _ _ _ _  ?_
 unfold S_tree_Take
 refine NewC.ofRow hs fun b0 w1 h1 => NewC.ofRow h1 fun b1 w2 h2 => NewC.ofRow h2 fun b2 w3 h3 => ?_
 refine (treeof_no (h3.pull 3 rfl) ht _ _ _ hE).mono ?_
 rintro e w5 ⟨rfl, h5⟩
 refine ⟨_, _, _, rfl, ?_⟩
 refine NewC.ofRow h5 fun b9 w6 h6 => ?_
 refine StC.of h6 0 rfl (off := 0) rfl rfl fun w7 h7 => StC.of h7 0 rfl (off := 1) rfl (add_mk _ _ _) fun w8 h8 => ?_
 refine StC.of h8 2 rfl (off := 0) rfl rfl fun w9 h9 => ?_
 refine LdI.of h9 2 rfl (off := 0) rfl rfl (cond_t (by simpa using hE) ?_)
 refine ⟨fun w' => ∃ T, Sat (Row b2 [.int .i64 (ofE H t kl : Nat)] 31 :: T) w', ⟨_, Sat.pull h9.drew 2 rfl⟩, ?_⟩
 refine LdIQ.row (cs := [.int .i64 (ofE H t kl : Nat)]) (fun w ⟨T, h⟩ => ⟨_, h⟩) (off := 0) rfl rfl ?_
 refine StC.of h9.drew 4 rfl (off := 0) rfl rfl fun u0 g0 => ⟨⟨_, Sat.pull g0 2 rfl⟩, ?_⟩
 refine StC.of g0 3 rfl (off := 0) rfl rfl fun u1 g1 => ⟨⟨_, Sat.pull g1 2 rfl⟩, ?_⟩
 refine StC.of g1 2 rfl (off := 0) rfl rfl fun u9 g9 => ?_
 refine LdI.of g9 4 rfl (off := 0) rfl rfl (LdB.of g9 3 rfl (off := 0) rfl rfl (LdI.of g9 2 rfl (off := 0) rfl rfl ⟨rfl, ?_⟩))
 exact (((g9.drop).del 1 rfl).del 1 rfl).del 1 rfl
theorem tput_no (hs : Sat (HeapH H v b :: F) w) {t : Nat} (ht : t < 18446744073709551616) (kp : Option Addr) (kl kc : Nat) (x : Int) (hE : ofE H t kl ≠ 0) :
  Calls Tryz.prog 11 #[.pointer (some ⟨b, 0, none⟩), .int .u64 (t : Int), .slice kp kl kc, .int .u64 x] w (Ret (.tuple #[.int .u64 0, .bool false, .int .i64 (ofE H t kl : Nat)]) (Sat (HeapH H v b :: F))) := by
 refine S_tree_Put_ok _ _ _ _ _ _ _ _  ?_
 unfold S_tree_Put
 refine NewC.ofRow hs fun b0 w1 h1 => NewC.ofRow h1 fun b1 w2 h2 => NewC.ofRow h2 fun b2 w3 h3 => ?_
 refine (treeof_no (h3.pull 3 rfl) ht _ _ _ hE).mono ?_
 rintro e w5 ⟨rfl, h5⟩
 refine ⟨_, _, _, rfl, ?_⟩
 refine NewC.ofRow h5 fun b9 w6 h6 => ?_
 refine StC.of h6 0 rfl (off := 0) rfl rfl fun w7 h7 => StC.of h7 0 rfl (off := 1) rfl (add_mk _ _ _) fun w8 h8 => ?_
 refine StC.of h8 2 rfl (off := 0) rfl rfl fun w9 h9 => ?_
 refine LdI.of h9 2 rfl (off := 0) rfl rfl (cond_t (by simpa using hE) ?_)
 refine ⟨fun w' => ∃ T, Sat (Row b2 [.int .i64 (ofE H t kl : Nat)] 31 :: T) w', ⟨_, Sat.pull h9.drew 2 rfl⟩, ?_⟩
 refine LdIQ.row (cs := [.int .i64 (ofE H t kl : Nat)]) (fun w ⟨T, h⟩ => ⟨_, h⟩) (off := 0) rfl rfl ?_
 refine StC.of h9.drew 4 rfl (off := 0) rfl rfl fun u0 g0 => ⟨⟨_, Sat.pull g0 2 rfl⟩, ?_⟩
 refine StC.of g0 3 rfl (off := 0) rfl rfl fun u1 g1 => ⟨⟨_, Sat.pull g1 2 rfl⟩, ?_⟩
 refine StC.of g1 2 rfl (off := 0) rfl rfl fun u9 g9 => ?_
 refine LdI.of g9 4 rfl (off := 0) rfl rfl (LdB.of g9 3 rfl (off := 0) rfl rfl (LdI.of g9 2 rfl (off := 0) rfl rfl ⟨rfl, ?_⟩))
 exact (((g9.drop).del 1 rfl).del 1 rfl).del 1 rfl
theorem tseek_no (hs : Sat (HeapH H v b :: F) w) {t : Nat} (ht : t < 18446744073709551616) (kp : Option Addr) (kl kc : Nat) (hE : ofE H t kl ≠ 0) :
  Calls Tryz.prog 13 #[.pointer (some ⟨b, 0, none⟩), .int .u64 (t : Int), .slice kp kl kc] w (Ret (.tuple #[.slice none 0 0, .int .u64 0, .bool false, .int .i64 (ofE H t kl : Nat)]) (Sat (HeapH H v b :: F))) := by
 refine S_tree_Seek_ok _ _ _ _ _ _ _  ?_
 unfold S_tree_Seek
 refine NewC.ofRow hs fun b0 w1 h1 => NewC.ofRow h1 fun b1 w2 h2 => NewC.ofRow h2 fun b2 w3 h3 => NewC.ofRow h3 fun b3 w4 h4 => ?_
 refine (treeof_no (h4.pull 4 rfl) ht _ _ _ hE).mono ?_
 rintro e w5 ⟨rfl, h5⟩
 refine ⟨_, _, _, rfl, ?_⟩
 refine NewC.ofRow h5 fun b9 w6 h6 => ?_
 refine StC.of h6 0 rfl (off := 0) rfl rfl fun w7 h7 => StC.of h7 0 rfl (off := 1) rfl (add_mk _ _ _) fun w8 h8 => ?_
 refine StC.of h8 2 rfl (off := 0) rfl rfl fun w9 h9 => ?_
 refine LdI.of h9 2 rfl (off := 0) rfl rfl (cond_t (by simpa using hE) ?_)
 refine ⟨fun w' => ∃ T, Sat (Row b3 [.int .i64 (ofE H t kl : Nat)] 31 :: T) w', ⟨_, Sat.pull h9.drew 2 rfl⟩, ?_⟩
 refine LdIQ.row (cs := [.int .i64 (ofE H t kl : Nat)]) (fun w ⟨T, h⟩ => ⟨_, h⟩) (off := 0) rfl rfl ?_
 refine StC.of h9.drew 5 rfl (off := 0) rfl rfl fun u0 g0 => ⟨⟨_, Sat.pull g0 2 rfl⟩, ?_⟩
 refine StC.of g0 4 rfl (off := 0) rfl rfl fun u1 g1 => ⟨⟨_, Sat.pull g1 2 rfl⟩, ?_⟩
 refine StC.of g1 3 rfl (off := 0) rfl rfl fun u2 g2 => ⟨⟨_, Sat.pull g2 2 rfl⟩, ?_⟩
 refine StC.of g2 2 rfl (off := 0) rfl rfl fun u9 g9 => ?_
 refine LdS.of g9 5 rfl (off := 0) rfl rfl (LdI.of g9 4 rfl (off := 0) rfl rfl (LdB.of g9 3 rfl (off := 0) rfl rfl (LdI.of g9 2 rfl (off := 0) rfl rfl ⟨rfl, ?_⟩)))
 exact ((((g9.drop).del 1 rfl).del 1 rfl).del 1 rfl).del 1 rfl
theorem tlast_no (hs : Sat (HeapH H v b :: F) w) {t : Nat} (ht : t < 18446744073709551616) (kp : Option Addr) (kl kc : Nat) (hE : ofE H t kl ≠ 0) :
  Calls Tryz.prog 14 #[.pointer (some ⟨b, 0, none⟩), .int .u64 (t : Int), .slice kp kl kc] w (Ret (.tuple #[.slice none 0 0, .int .u64 0, .bool false, .int .i64 (ofE H t kl : Nat)]) (Sat (HeapH H v b :: F))) := by
 refine S_tree_Last_ok _ _ _ _ _ _ _  ?_
 unfold S_tree_Last
 refine NewC.ofRow hs fun b0 w1 h1 => NewC.ofRow h1 fun b1 w2 h2 => NewC.ofRow h2 fun b2 w3 h3 => NewC.ofRow h3 fun b3 w4 h4 => ?_
 refine (treeof_no (h4.pull 4 rfl) ht _ _ _ hE).mono ?_
 rintro e w5 ⟨rfl, h5⟩
 refine ⟨_, _, _, rfl, ?_⟩
 refine NewC.ofRow h5 fun b9 w6 h6 => ?_
 refine StC.of h6 0 rfl (off := 0) rfl rfl fun w7 h7 => StC.of h7 0 rfl (off := 1) rfl (add_mk _ _ _) fun w8 h8 => ?_
 refine StC.of h8 2 rfl (off := 0) rfl rfl fun w9 h9 => ?_
 refine LdI.of h9 2 rfl (off := 0) rfl rfl (cond_t (by simpa using hE) ?_)
 refine ⟨fun w' => ∃ T, Sat (Row b3 [.int .i64 (ofE H t kl : Nat)] 31 :: T) w', ⟨_, Sat.pull h9.drew 2 rfl⟩, ?_⟩
 refine LdIQ.row (cs := [.int .i64 (ofE H t kl : Nat)]) (fun w ⟨T, h⟩ => ⟨_, h⟩) (off := 0) rfl rfl ?_
 refine StC.of h9.drew 5 rfl (off := 0) rfl rfl fun u0 g0 => ⟨⟨_, Sat.pull g0 2 rfl⟩, ?_⟩
 refine StC.of g0 4 rfl (off := 0) rfl rfl fun u1 g1 => ⟨⟨_, Sat.pull g1 2 rfl⟩, ?_⟩
 refine StC.of g1 3 rfl (off := 0) rfl rfl fun u2 g2 => ⟨⟨_, Sat.pull g2 2 rfl⟩, ?_⟩
 refine StC.of g2 2 rfl (off := 0) rfl rfl fun u9 g9 => ?_
 refine LdS.of g9 5 rfl (off := 0) rfl rfl (LdI.of g9 4 rfl (off := 0) rfl rfl (LdB.of g9 3 rfl (off := 0) rfl rfl (LdI.of g9 2 rfl (off := 0) rfl rfl ⟨rfl, ?_⟩)))
 exact ((((g9.drop).del 1 rfl).del 1 rfl).del 1 rfl).del 1 rfl
end
end Go.Proofs.YtpicofkhioalkaaGreat
