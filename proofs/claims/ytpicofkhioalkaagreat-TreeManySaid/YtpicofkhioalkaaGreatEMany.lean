
/- 'TreeMany' answers true: many entries put in rising, falling or mixed order, and taken in another one: told in order all the while; emptied, the tree has none. No conditions. -/
import Derived.Test.YtpicofkhioalkaaGreatEn
set_option maxRecDepth 100000
namespace Go.Proofs.YtpicofkhioalkaaGreat
open Go Go.Lw Go.Wd Go.Am Go.Tb Go.Hm Go.Kd Go.Td Go.ChangeShapes Go.WideShapes Go.ChangeAt Go.RowKit

theorem xor_small (i : Nat) (hi : i < 256) : ∃ y : Nat, y < 256 ∧ bXor .i64 (i : Int) 21 = (y : Int) := by
  have e : bXor .i64 (i : Int) 21 = IntKind.wrap .i64 (((BitVec.ofInt 64 (i : Int) ^^^ BitVec.ofInt 64 21).toNat : Nat) : Int) := rfl
  have h1 : (BitVec.ofInt 64 (i : Int)).toNat = i := by
    rw [BitVec.ofInt_natCast, BitVec.toNat_ofNat, Nat.mod_eq_of_lt (by omega)]
  have h2 : (BitVec.ofInt 64 (21 : Int)).toNat = 21 := by decide
  rw [BitVec.toNat_xor, h1, h2] at e
  have h3 : i ^^^ 21 < 2 ^ 8 := Nat.xor_lt_two_pow (by omega) (by omega)
  refine ⟨i ^^^ 21, by omega, ?_⟩
  rw [e, wrapI64 (by omega) (by omega)]
theorem u8_nat (k : Nat) (hk : k < 256) : (UInt8.ofNat k).toNat = k := by
  rw [UInt8.toNat_ofNat']
  omega
set_option maxHeartbeats 2000000 in
theorem many_c (W : World) (n0 way : Int) : Calls Tryz.prog 5 #[.int .i64 n0, .int .i64 way] W (Ret (.bool true) (Go.RowKit.Below W.heap.size W)) := by
  refine S_law13_TreeMany_ok _ _ _ _ ?_
  unfold S_law13_TreeMany
  refine (awake13_c (Sat.ofBase W)).mono ?_
  rintro e w0 ⟨rfl, h0⟩
  refine ⟨_, rfl, cond_f rfl ?_⟩
  refine (ground_c keeps_any (n := 262144) (k := 65536) (m := 1) (by omega) (by omega) (by omega) (by omega) (by omega) h0).mono ?_
  rintro e w1 ⟨b, H, ts, xs, r, tp, xp, tc, xc, g, hts, hxs, rfl, h1⟩
  refine ⟨_, _, _, _, _, _, _, _, rfl, cond_f rfl ?_⟩
  obtain ⟨t, rfl⟩ : ∃ t, ts = [t] := List.length_eq_one_iff.1 hts
  obtain ⟨a0, ha0, hae0⟩ := bAnd_le n0 127 (by omega)
  have hae0 : bAnd .i64 n0 127 = (a0 : Int) := hae0
  have hmany : IntKind.wrap .i64 (30 + bAnd .i64 n0 127) = ((30 + a0 : Nat) : Int) := by rw [hae0, wrapI64 (by omega) (by omega)]; omega
  refine ⟨fun lp ll lc i w' => ∃ (j : Nat) (s : Hp × Nat) (es : List Ent) (us : List Nat), i = j ∧ j ≤ 30 + a0 ∧ Am1 s b t es us xs j 2 ∧ ll = (kv es).length ∧
      Sat (HeapH s.1 .nilIface b :: Own 32 1 tp 1 tc (words [t]) :: Own 32 1 xp 5 xc (words xs) :: Own 49 2 lp ll lc (entsV (kv es)) :: [Base W]) w', fun _ _ _ i _ => (((30 + a0 : Nat) : Int) - i).toNat,
    ⟨0, (H, 0), [], [t], rfl, by omega, gnd_am g hxs 2, rfl, Sat.pull (Sat.pull (Sat.pull (Sat.ownNil h1 49 2) 3 rfl) 3 rfl) 3 rfl⟩, ?_⟩
  clear g h1 h0
  rintro lp ll lc i w2 ⟨j, s, es, us, rfl, hj, am, rfl, h2⟩
  unfold S_law13_TreeMany_l1
  rw [hmany]
  have hsr := srt_kv.1 am.tr.tree.srt
  have hkl := kv_len es
  have hel := am.len
  by_cases hlt : j < 30 + a0
  · refine cond_t (by simp; omega) ?_
    intro k0 hk0
    have go : ∀ k : Nat, k < 256 → k0 (k : Int) w2 := by
      intro k hk
      refine hk0 _ _ ?_
      unfold S_law13_TreeMany_j0
      have e1 : Int.tdiv (k : Int) 256 = 0 := by rw [show Int.tdiv (k : Int) 256 = ((k / 256 : Nat) : Int) from tdiv_nat k 256]; omega
      have e2 : Int.tmod (k : Int) 256 = (k : Int) := by rw [show Int.tmod (k : Int) 256 = ((k % 256 : Nat) : Int) from tmod_nat k 256]; omega
      have e3 : Int.tmod (k : Int) 5 = ((k % 5 : Nat) : Int) := tmod_nat k 5
      have ew : IntKind.wrap .u8 ((k : Int)) = ((k : Nat) : Int) := by rw [wrapU8m]; omega
      rw [e1, e2, e3, ew]
      refine ⟨by omega, by omega, ?_⟩
      refine NewC.ofRow h2 fun b0 w3 h3 => ?_
      have h3 : Sat (Row b0 (bytesV [0, UInt8.ofNat k]) 5 :: HeapH s.1 .nilIface b :: Own 32 1 tp 1 tc (words [t]) :: Own 32 1 xp 5 xc (words xs) :: Own 49 2 lp (kv es).length lc (entsV (kv es)) :: [Base W]) w3 := by
        have : bytesV [0, UInt8.ofNat k] = [.int .u8 0, .int .u8 (k : Int)] := by simp [bytesV, u8_nat k hk]
        rw [this]; exact h3
      have hk5 : k % 5 < 5 := Nat.mod_lt _ (by omega)
      obtain ⟨x, hx⟩ : ∃ x, xs[k % 5]? = some x := ⟨_, List.getElem?_eq_getElem (by omega)⟩
      refine ⟨fun w' => ∃ T, Sat (Own 32 1 tp 1 tc (words [t]) :: Own 32 1 xp 5 xc (words xs) :: T) w', ⟨_, Sat.pull (Sat.pull h3.drew 3 rfl) 3 rfl⟩, ?_⟩
      refine own_wordQ h3 2 rfl (fun w ⟨T, h⟩ => ⟨_, 0, h, rfl⟩) rfl (j := 0) rfl rfl ?_
      refine ⟨by omega, ?_⟩
      refine own_wordQ h3 3 rfl (fun w ⟨T, h⟩ => ⟨_, 1, h, rfl⟩) hxs.symm hx rfl ?_
      have hrow : ∀ {G : List HP} {w'}, Sat (Row b0 (bytesV [0, UInt8.ofNat k]) 5 :: G) w' → Reads w' (some ⟨b0, 0, none⟩) (bytesV [0, UInt8.ofNat k]) := by
        intro G w' h a ha j v hj
        cases ha
        rw [add_mk, Nat.zero_add]
        exact h.cell 0 rfl hj
      refine (am_put am (by omega) (Sat.pull h3.drew 1 rfl) (key := [0, UInt8.ofNat k]) (by simp) (by omega) (by rfl) ⟨fun w' h => hrow h, fun _ => ⟨_, rfl⟩⟩ (List.mem_of_getElem? hx)).mono ?_
      rintro e w4 ⟨s', es', us', old, had, A, o, C, rfl, c1, c2, c3, am', h4⟩
      refine ⟨_, _, _, rfl, cond_f rfl ?_⟩
      refine ⟨fun w' => ∃ T, Sat (Row b0 (bytesV [0, UInt8.ofNat k]) 5 :: Own 32 1 xp 5 xc (words xs) :: T) w', ⟨_, Sat.pull (Sat.pull h4.drew 3 rfl) 2 rfl⟩, ?_⟩
      refine ⟨str [0, UInt8.ofNat k], fun w' ⟨T, h⟩ => ?_, ?_⟩
      · obtain ⟨bb, hb1, hb2⟩ := run_str (P := Tryz.prog) (s := 28) (d := 9) (e := 5) (x := [0, UInt8.ofNat k]) (p := some ⟨b0, 0, none⟩) (l := 2) (c := 2) (w := w') (Q := fun b => b = str [0, UInt8.ofNat k]) (by kernel_rfl) (by kernel_rfl) (by kernel_rfl) (hrow h) rfl (fun _ => ⟨_, rfl⟩) rfl
        rw [hb1, hb2]
      refine ⟨by omega, ?_⟩
      refine own_wordQ h4 3 rfl (fun w ⟨T, h⟩ => ⟨_, 1, h, rfl⟩) hxs.symm hx rfl ?_
      have h5 := Sat.pull h4.drew 4 rfl
      refine (lput_c (F := _) h5 rfl (RdE.own 0 rfl (ent_some h5 (k := 0) rfl rfl)) (by omega) c1 hsr).mono ?_
      rintro e w5 ⟨p', c', old', had', rfl, q1, h6⟩
      refine ⟨_, _, _, _, _, rfl, ?_⟩
      refine ⟨⟨j + 1, s', es', us', by rw [wrapI64 (by omega) (by omega)]; omega, by omega, am', by rw [c2], ?_⟩, by rw [wrapI64 (by omega) (by omega)]; dsimp only; omega⟩
      rw [c2]
      exact Sat.pull (Sat.pull (Sat.pull ((h6.del 1 rfl).del 2 rfl) 3 rfl) 3 rfl) 3 rfl
    have h30 : (30 + a0 : Nat) ≤ 157 := by omega
    by_cases hw1 : bAnd .i64 way 3 == 1
    · refine cond_t hw1 ?_
      rw [wrapI64 (n := ((30 + a0 : Nat) : Int) - 1) (by omega) (by omega), wrapI64 (by omega) (by omega), show ((30 + a0 : Nat) : Int) - 1 - (j : Int) = ((30 + a0 - 1 - j : Nat) : Int) by omega]
      exact go _ (by omega)
    · refine cond_f (by simpa using hw1) ?_
      by_cases hw2 : bAnd .i64 way 3 == 2
      · refine cond_t hw2 ⟨by omega, ?_⟩
        rw [wrapI64 (n := (j : Int) * 37) (by omega) (by omega), show (j : Int) * 37 = ((j * 37 : Nat) : Int) by omega, show Int.tmod ((j * 37 : Nat) : Int) ((30 + a0 : Nat) : Int) = ((j * 37 % (30 + a0) : Nat) : Int) from tmod_nat _ _]
        exact go _ (by have := Nat.mod_lt (j * 37) (show 0 < 30 + a0 by omega); omega)
      · refine cond_f (by simpa using hw2) ?_
        by_cases hw3 : bAnd .i64 way 3 == 3
        · refine cond_t hw3 ?_
          obtain ⟨y, hy, hye⟩ := xor_small j (by omega)
          rw [hye]
          exact go y hy
        · exact cond_f (by simpa using hw3) (go j (by omega))
  · refine cond_f (by simp; omega) ?_
    refine own_word h2 1 rfl rfl (j := 0) rfl rfl ?_
    refine (holds_c h2 am.tr.tree (by omega) (fun a ha => by have := am.kl a ha; omega) rfl (RdE.own 2 rfl (ent_some h2 (k := 3) rfl rfl))).mono ?_
    rintro e w3 ⟨rfl, h3⟩
    refine ⟨_, rfl, cond_f rfl ?_⟩
    refine ⟨fun lp ll lc w' => ∃ (s : Hp × Nat) (es : List Ent) (us : List Nat), Am1 s b t es us xs (30 + a0) 2 ∧ ll = (kv es).length ∧
        Sat (HeapH s.1 .nilIface b :: Own 32 1 tp 1 tc (words [t]) :: Own 32 1 xp 5 xc (words xs) :: Own 49 2 lp ll lc (entsV (kv es)) :: [Base W]) w', fun _ ll _ _ => ll,
      ⟨s, es, us, by have : j = 30 + a0 := by omega
                     rw [← this]; exact am, rfl, h3⟩, ?_⟩
    clear h3 h2 am hsr hkl hel
    rintro lp ll lc w4 ⟨s, es, us, am, rfl, h4⟩
    unfold S_law13_TreeMany_l0
    have hsr := srt_kv.1 am.tr.tree.srt
    have hkl := kv_len es
    have hel := am.len
    by_cases h0 : 0 < (kv es).length
    · refine cond_t (by simp; omega) ?_
      intro k2 hk2
      refine ⟨by omega, ?_⟩
      obtain ⟨a7, ha7, hae7⟩ := bAnd_le way 7 (by omega)
      have hae7 : bAnd .i64 way 7 = (a7 : Int) := hae7
      have ei : Int.tmod (IntKind.wrap .i64 (IntKind.wrap .i64 (((kv es).length : Int) * 7) + bAnd .i64 way 7)) ((kv es).length : Int) = ((((kv es).length * 7 + a7) % (kv es).length : Nat) : Int) := by
        rw [hae7, wrapI64 (n := ((kv es).length : Int) * 7) (by omega) (by omega), wrapI64 (by omega) (by omega), show ((kv es).length : Int) * 7 + (a7 : Int) = (((kv es).length * 7 + a7 : Nat) : Int) by omega]
        exact tmod_nat _ _
      rw [ei]
      have hml := Nat.mod_lt ((kv es).length * 7 + a7) h0
      generalize ((kv es).length * 7 + a7) % (kv es).length = i at hml
      obtain ⟨p, hp⟩ : ∃ p, (kv es)[i]? = some p := ⟨_, List.getElem?_eq_getElem hml⟩
      have hpl := am.kl p (List.mem_of_getElem? hp)
      refine idxE (RdE.own 3 rfl (ent_some h4 (k := 3) rfl rfl)) h4 rfl rfl hp fun a c0 c1 => LdStr.at c0 ?_
      refine own_word h4 1 rfl rfl (j := 0) rfl rfl ?_
      refine ofStr_c h4 (by omega) fun g3 c3 w5 h5 => ?_
      refine (am_take am (by omega) (Sat.pull h5 1 rfl) (key := p.1) (by omega) rfl (RdB.str 0 rfl ⟨_, rfl⟩)).mono ?_
      rintro e w6 ⟨s', es', us', old, had, A, o, C, rfl, c1, c2, c3, am', h6⟩
      have hho : had = true ∧ o.length = 1 := by
        rcases c3 with ⟨rfl, _⟩ | ⟨rfl, h⟩
        · have := List.mem_of_getElem? hp
          rw [c1.eq] at this
          simp only [List.append_nil, List.mem_append] at this
          rcases this with h | h
          · have := c1.lo _ h; rw [lt_irrefl] at this; cases this
          · have := c1.hi _ h; rw [lt_irrefl] at this; cases this
        · exact ⟨h, rfl⟩
      obtain ⟨rfl, ho1⟩ := hho
      refine ⟨_, _, _, rfl, cond_f rfl (cond_f rfl ?_)⟩
      have h7 := Sat.pull (h6.del 1 rfl) 3 rfl
      refine (ltake_c h7 rfl (RdE.own 0 rfl (ent_some h7 (k := 0) rfl rfl)) (by omega) c1).mono ?_
      rintro e w7 ⟨p', c', old', had', rfl, q1, h8⟩
      refine ⟨_, _, _, _, _, rfl, by omega, ?_⟩
      have h9 : Sat (HeapH s'.1 .nilIface b :: Own 32 1 tp 1 tc (words [t]) :: Own 32 1 xp 5 xc (words xs) :: Own 49 2 p' (A ++ C).length c' (entsV (A ++ C)) :: [Base W]) w7 := Sat.pull (Sat.pull (Sat.pull (h8.del 1 rfl) 3 rfl) 3 rfl) 3 rfl
      have hless : (A ++ C).length < (kv es).length := by rw [c1.eq]; simp; omega
      have fin : ∀ w', Sat (HeapH s'.1 .nilIface b :: Own 32 1 tp 1 tc (words [t]) :: Own 32 1 xp 5 xc (words xs) :: Own 49 2 p' (A ++ C).length c' (entsV (A ++ C)) :: [Base W]) w' → k2 p' (A ++ C).length c' w' := by
        intro w' h'
        refine hk2 _ _ _ _ ?_
        unfold S_law13_TreeMany_j1
        exact ⟨⟨s', es', us', am', by rw [c2], by rw [c2]; exact h'⟩, hless⟩
      by_cases h16 : (Int.tmod (((A ++ C).length : Nat) : Int) 16) == 0
      · refine cond_t h16 ?_
        refine own_word h9 1 rfl rfl (j := 0) rfl rfl ?_
        have hrd : RdE (Own 32 1 tp 1 tc (words [t]) :: Own 32 1 xp 5 xc (words xs) :: Own 49 2 p' (A ++ C).length c' (entsV (A ++ C)) :: [Base W]) p' (kv es') := by
          rw [c2]; exact RdE.own 2 rfl (ent_some h9 (k := 3) rfl rfl)
        have hel' := am'.len
        refine (holds_c h9 am'.tr.tree (by omega) (fun a ha => by have := am'.kl a ha; omega) (by rw [c2]) hrd).mono ?_
        rintro e w8 ⟨rfl, h10⟩
        exact ⟨_, rfl, cond_f rfl (fin _ h10)⟩
      · exact cond_f (by simpa using h16) (fin _ h9)
    · refine cond_f (by simpa using h0) ⟨rfl, h4.below 4 rfl⟩

set_option maxRecDepth 100000 in
theorem many_lifted (os : Os) (started : os.Started) (H : Type) (enc : TypeId × Value → H) :
    ReturnsInHanded {} Tryz.checked os 5 .any (Rows.treeManySpec.pre6 enc Tryz.prog Tryz.f5 Rows.treeManyRow.domain false) (Rows.treeManySpec.post enc Tryz.prog Tryz.f5 false true false false) := by
  refine returnsInHanded_of_change (C := Tryz.checked) own started (by kernel_rfl) Tryz.func5
    (ChangeSpec.witness6 (enc := enc) (C := Tryz.checked) false ⟨#[], #[.int .i64 0, .int .i64 0], []⟩ 8 (by kernel_rfl) (by kernel_rfl) (by kernel_rfl) (by kernel_rfl)) ?_
  intro W base args ds gs before hval hW hcnd _
  have hval : ∀ (j : Nat) t v, Tryz.f5.params[j]? = some t → args[j]? = some v → Value.okWide Tryz.prog W .any base t v := hval
  have hW' : DataW.Whole enc Tryz.prog Tryz.f5.params.toList Rows.treeManySpec.vars false W args.toList ds gs before := hW
  obtain ⟨p, q, hA, hV, _⟩ := hW'
  rw [Tryz.params5] at hA hval
  obtain ⟨v0, v1, d0, d1, p0, p1, rfl, rfl, rfl, h0, h1⟩ := trodAll_two hA
  obtain ⟨n0, rfl, rfl, rfl, wn0⟩ := open_int Tryz.underlying3 (hval 0 3 v0 rfl rfl) h0
  obtain ⟨n1, rfl, rfl, rfl, wn1⟩ := open_int Tryz.underlying3 (hval 1 3 v1 rfl rfl) h1
  refine (many_c W n0 n1).mono fun e W' ⟨he, hs⟩ => ?_
  exact ⟨_, he, law_post (tb := 4) laidOut (by decide +kernel) (by kernel_rfl) Tryz.underlying4 rfl hW ⟨rfl, rfl, rfl⟩ hs⟩

theorem many_holds : Rows.TreeManySaid :=
  OpenClaim.holds_of_wide 5 Tryz.f5 rfl rfl rfl rfl rfl rfl rfl ⟨rfl, rfl, rfl, rfl, rfl⟩ rfl rfl rfl rfl rfl (by kernel_rfl) Tryz.func5 (by kernel_rfl)
    (of_decide_eq_true (by kernel_rfl)) (by unfold Func.isWrapper; first | (rw [if_pos (by decide +kernel)]; kernel_rfl) | (rw [if_neg (by decide +kernel)]; exact ⟨rfl, rfl⟩))
    (fun os started H enc _ => many_lifted os started H enc)
end Go.Proofs.YtpicofkhioalkaaGreat
