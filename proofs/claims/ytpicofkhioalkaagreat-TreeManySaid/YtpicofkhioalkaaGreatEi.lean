
/- What Check comes to, and Make. -/
import Derived.Test.YtpicofkhioalkaaGreatEh
set_option maxRecDepth 100000
namespace Go.Proofs.YtpicofkhioalkaaGreat
open Go Go.Lw Go.Wd Go.Am Go.Tb Go.Hm Go.Kd Go.Td
section
variable {H : Hp} {v : Value} {b : Nat} {F : List HP} {w : World}
theorem tcheck_c (hs : Sat (HeapH H v b :: F) w) {t : Nat} {es : List Ent} {ts : List Nat} (hT : Tree H.ov t es ts) (hn : es.length ≤ 1000000) :
    Calls Tryz.prog 63 #[.pointer (some ⟨b, 0, none⟩), .int .u64 (t : Int)] w (Ret (.int .i64 0) (Sat (HeapH H v b :: F))) := by
  obtain ⟨D, x, hD, ho⟩ := depth_le hT hn
  refine S_tree_Check_ok _ _ _ _ ?_
  unfold S_tree_Check
  refine NewC.of hs fun m0 w0 h0 => ?_
  have h0 : Sat (Blk m0 (setObj' []) :: HeapH H v b :: F) w0 := h0
  suffices hh : Calls Tryz.prog 112 #[.pointer (some ⟨b, 0, none⟩), .int .u64 (t : Int), .map (some m0)] w0 (Ret (.int .i64 0) (Sat (HeapH H v b :: F))) by
    refine hh.mono ?_
    rintro e w1 ⟨rfl, h1⟩
    exact ⟨_, rfl, rfl, h1⟩
  refine S_tree_Whole_ok _ _ _ _ _ ?_
  unfold S_tree_Whole
  refine NewC.ofRow h0 fun b0 w1 h1 => ?_
  refine (treeof_ok (h1.pull 2 rfl) _ _ _ (ofE_tree ho (by omega))).mono ?_
  rintro e w2 ⟨rfl, h2⟩
  refine ⟨_, _, _, rfl, ?_⟩
  refine NewC.ofRow h2 fun b1 w3 h3 => ?_
  refine StC.of h3 0 rfl (off := 0) rfl rfl fun w4 h4 => StC.of h4 0 rfl (off := 1) rfl (add_mk _ _ _) fun w5 h5 => ?_
  refine StC.of h5 2 rfl (off := 0) rfl rfl fun w6 h6 => ?_
  refine LdI.of h6 2 rfl (off := 0) rfl rfl (cond_f rfl ?_)
  have h6 : Sat (Row b1 (trc b t) 73 :: HeapH H v b :: Row b0 [.int .i64 0] 31 :: Blk m0 (setObj' []) :: F) w6 := h6
  refine ⟨false, lookSet us us_u64 us_zero (h6.blk 3 rfl) (by simp), ?_⟩
  refine NewC.ofRow h6 fun be w7 h7 => ?_
  have h7 := h7.drop
  refine (must_c 4 rfl).mono ?_
  rintro e w8 ⟨rfl, rfl⟩
  refine ⟨rfl, ?_⟩
  refine putSet us us_u64 h7 3 rfl (by simp) fun w9 h9 => ?_
  refine LdP.of h9 0 rfl (off := 0) rfl rfl (LdI.of h9 0 rfl (off := 1) rfl (add_mk _ _ _) ?_)
  refine NewC.ofRow h9 fun b4 w10 h10 => ?_
  have h10 : Sat (Row b4 (cen b t m0 [] 0) 193 :: Row b1 (trc b t) 73 :: HeapH H v b :: Row b0 [.int .i64 0] 31 :: Blk m0 (setObj' [t]) :: F) w10 := h10
  intro k0 hk0
  have fin : ∀ (lk : K) (l' : List Nat) w', Sat (HeapH H v b :: Row b4 (cen b t m0 lk es.length) 193 :: Blk m0 (setObj' l') :: Row b1 (trc b t) 73 :: Row b0 [.int .i64 0] 31 :: F) w' → k0 w' := by
    intro lk l' w' h'
    refine hk0 _ ?_
    unfold S_tree_Whole_j0
    refine ⟨fun w' => ∃ T, Sat (Row b4 (cen b t m0 lk es.length) 193 :: Row b1 (trc b t) 73 :: T) w', ⟨_, Sat.pull (Sat.pull h'.drew 3 rfl) 2 rfl⟩, ?_⟩
    refine ⟨(es.length : Nat), fun w ⟨T, h⟩ => LdI.of h 0 rfl (off := 4) rfl (add_mk _ _ _) rfl, ?_⟩
    refine ⟨_, _, fun w ⟨T, h⟩ => trv_ld h.drop 0 rfl, ?_⟩
    refine (tcount_c h'.drew ho (by omega)).mono ?_
    rintro e w11 ⟨rfl, h11⟩
    refine ⟨_, rfl, _, fun _ h => h, ⟨_, Sat.pull (Sat.pull h11 3 rfl) 2 rfl⟩, ?_⟩
    refine (must_c 4 (by simp)).mono ?_
    rintro e w12 ⟨rfl, rfl⟩
    refine ⟨rfl, _, fun _ h => h, ⟨_, Sat.pull (Sat.pull h11 3 rfl) 2 rfl⟩, ?_⟩
    refine StC.of h11 4 rfl (off := 0) rfl rfl fun w13 h13 => LdI.of h13 4 rfl (off := 0) rfl rfl ⟨rfl, ?_⟩
    exact (((h13.del 1 rfl).del 1 rfl).del 1 rfl).del 1 rfl
  have h11 : Sat (HeapH H v b :: Row b4 (cen b t m0 [] 0) 193 :: Blk m0 (setObj' [t]) :: Row b1 (trc b t) 73 :: Row b0 [.int .i64 0] 31 :: F) w10 := Sat.pull (Sat.pull (Sat.pull (Sat.pull (Sat.pull h10 3 rfl) 2 rfl) 4 rfl) 3 rfl) 4 rfl
  refine LdP.of h11 3 rfl (off := 0) rfl rfl (LdI.of h11 3 rfl (off := 1) rfl (add_mk _ _ _) ?_)
  refine (ttop_c h11 ho).mono ?_
  rintro e w12 ⟨rfl, h12⟩
  refine ⟨_, rfl, ?_⟩
  have hz := ov_zero (sat_wf hs)
  rcases hT.at_ with ⟨e1, e2, e3⟩ | ⟨d, c, e1, e2, e3, e4⟩
  · have hh : x = 0 ∧ D = 0 := by
      rw [ho] at e3
      simp only [treeO, Option.some.injEq, Ov.mk.injEq, List.cons.injEq] at e3
      exact ⟨e3.2.2.1, e3.2.2.2.2.1⟩
    obtain ⟨rfl, rfl⟩ := hh
    refine cond_f rfl ?_
    refine LdP.of h12 3 rfl (off := 0) rfl rfl (LdI.of h12 3 rfl (off := 1) rfl (add_mk _ _ _) ?_)
    refine (tdepth_c h12 ho (by omega)).mono ?_
    rintro e w13 ⟨rfl, h13⟩
    refine ⟨_, rfl, ?_⟩
    refine (must_c 4 rfl).mono ?_
    rintro e w14 ⟨rfl, rfl⟩
    refine ⟨rfl, fin [] [t] _ ?_⟩
    rw [e1]; exact h13
  · have hh : x = c.x ∧ D = d + 1 := by
      rw [ho] at e1
      simp only [treeO, Option.some.injEq, Ov.mk.injEq, List.cons.injEq] at e1
      exact ⟨e1.2.2.1, e1.2.2.2.2.1⟩
    obtain ⟨rfl, rfl⟩ := hh
    have hx0 := xne hz e2
    refine cond_t (by simpa using fun h => hx0 (by omega)) ?_
    refine LdP.of h12 3 rfl (off := 0) rfl rfl (LdI.of h12 3 rfl (off := 1) rfl (add_mk _ _ _) ?_)
    refine (tdepth_c h12 ho (by omega)).mono ?_
    rintro e w13 ⟨rfl, h13⟩
    refine ⟨_, rfl, ?_⟩
    refine (must_c 4 (by first | (simp; done) | (simp; omega))).mono ?_
    rintro e w14 ⟨rfl, rfl⟩
    refine ⟨rfl, ?_⟩
    refine LdP.of h13 3 rfl (off := 0) rfl rfl (LdI.of h13 3 rfl (off := 1) rfl (add_mk _ _ _) ?_)
    refine (tdepth_c h13 ho (by omega)).mono ?_
    rintro e w15 ⟨rfl, h15⟩
    refine ⟨_, rfl, ?_⟩
    have hnd := e4.nodup_iff.1 hT.nd
    obtain ⟨n1, n2⟩ := List.nodup_cons.1 hnd
    refine (cmeet_c (b := b) (t := t) d (by omega) e2 (by split <;> omega) (by rw [← e3]; exact hT.srt) n2 (fun z hz => by
      simp only [List.mem_cons, List.not_mem_nil, or_false]
      intro e; subst e; exact n1 hz) (.inl rfl) (by rw [← e3]; omega) h15).mono ?_
    rintro e w16 ⟨rfl, l', hl', h16⟩
    refine ⟨rfl, fin (lastK c.es) l' _ ?_⟩
    rw [Nat.zero_add, ← e3] at h16
    rw [← e3]
    exact h16
end
section
variable {v : Value} {b : Nat} {E : Eng v b} {s : E.σ} {F : List HP} {w : World}
theorem tmake_c (hs : Sat (E.S s F) w) (hi : E.inv s) (h4 : (E.H s).m.top + 4 ≤ (E.H s).m.n) (h5 : (E.H s).t.count < (E.H s).t.n) :
    Calls Tryz.prog 35 #[.pointer (some ⟨b, 0, none⟩)] w fun e w' =>
      ∃ (s' : E.σ) (x : Nat), e = .returned (.tuple #[.int .u64 (x : Int), .int .i64 0]) ∧ E.Mv s s' 1 4 ∧ x ≠ 0 ∧ E.ov s x = none ∧ E.ok s' x ∧ E.ov s' = updO (E.ov s) x (treeO 0 0 0) ∧ Sat (E.S s' F) w' := by
  refine S_tree_Make_ok _ _ _ ?_
  unfold S_tree_Make
  refine emk_c hs hi (tag := 20) (refs := 1) (size := 3) (by omega) (by omega) (by omega) (by omega) h5 ?_
  intro s1 k w3 m1 x0 xl xn xk xo h3
  exact ⟨_, _, rfl, cond_f rfl ⟨s1, k, rfl, m1, x0, xn, xk, xo, h3⟩⟩
end
end Go.Proofs.YtpicofkhioalkaaGreat
