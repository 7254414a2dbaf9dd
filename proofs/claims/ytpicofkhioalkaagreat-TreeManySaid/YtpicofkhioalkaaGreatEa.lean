
/- What Make, Count and Get come to; what a search tells. -/
import Derived.Test.YtpicofkhioalkaaGreatTf
import Derived.Test.YtpicofkhioalkaaGreatBt
set_option maxRecDepth 100000
namespace Go.Td
open Go Go.Hm Go.Kd
/-- what is known of the leaf that a way leads to. -/
structure LeafR (ov : Lk) (es : List Ent) (bs : List Fr) (k : Kid) (L : List Kid) : Prop where
  ne : L ≠ []
  eq : es = lefts bs ++ esOf L ++ rights bs
  srt : Srt (esOf L)
  reps : ∀ a ∈ L, Rep ov 0 6 a
  zip : Zip ov bs 1 k.pr
theorem leafR_of {ov : Lk} {I : List Ent → Kid → List Ent → Prop} {d : Nat} {es : List Ent} {c k : Kid} {bs : List Fr} {L : List Kid} (hs : Srt es) (e3 : es = c.es)
    (hDn : Dn ov c (if d = 0 then 1 else 2) I bs k 1) (hkes : k.es = esOf L) (hmin : (if bs = [] then 1 else 6) ≤ L.length) (hreps : ∀ a ∈ L, Rep ov 0 6 a) : LeafR ov es bs k L := by
  have hL : L ≠ [] := by
    intro e0; rw [e0] at hmin
    split at hmin <;> simp at hmin
  have hes0 : es = lefts bs ++ esOf L ++ rights bs := by rw [e3, hDn.es, hkes]
  have hsrt := hs
  rw [hes0] at hsrt
  exact ⟨hL, hes0, (srt_append.1 (srt_append.1 hsrt).1).2.1, hreps, hDn.zip⟩
/-- a tree that is not too large is not too deep. -/
theorem depth_le {ov : Lk} {t : Nat} {es : List Ent} {hs : List Nat} (h : Tree ov t es hs) (hn : es.length ≤ 1000000) : ∃ D x, D ≤ 8 ∧ ov t = some (treeO x es.length D) := by
  rcases h.at_ with ⟨e1, e2, e3⟩ | ⟨d, c, e1, e2, e3, e4⟩
  · exact ⟨0, 0, by omega, by rw [e3, e1]; rfl⟩
  · refine ⟨d + 1, c.x, ?_, e1⟩
    have := e2.lenm
    rw [← e3] at this
    rcases Nat.lt_or_ge d 8 with hd | hd
    · omega
    · have h8 : 6 ^ 8 ≤ 6 ^ d := Nat.pow_le_pow_right (by omega) hd
      rw [if_neg (by omega)] at this
      have : 2 * 6 ^ 8 ≤ es.length := Nat.le_trans (Nat.mul_le_mul_left _ h8) this
      omega
theorem esOf_one {ov : Lk} {L : List Kid} (h : ∀ c ∈ L, Rep ov 0 6 c) : ∀ c ∈ L, ∃ e, c.es = [e] ∧ c.x = e.x ∧ c.k = e.kh ∧ c.key = e.key ∧ ov e.kh = some (keyO e.key) ∧ e.key.length ≤ 16384 := by
  intro c hc
  obtain ⟨e, h1, h2, _, h4, h5⟩ := h c hc
  exact ⟨e, h1, h2, by unfold Kid.k; rw [h1], by unfold Kid.key; rw [h1], h4, h5⟩
/-- what a search in a leaf tells of all entries. -/
theorem found_cut {ov : Lk} {es : List Ent} {bs : List Fr} {k : Kid} {L : List Kid} {key : K} {i : Nat} (h : LeafR ov es bs k L) (hI : InKey key (lefts bs) k (rights bs)) (hAt : At L key i) :
    (∀ a ∈ kv (lefts bs ++ esOf (L.take i)), lt a.1 key = true) ∧ (∀ a ∈ kv (esOf (L.drop i) ++ rights bs), lt a.1 key = false) ∧ es = (lefts bs ++ esOf (L.take i)) ++ (esOf (L.drop i) ++ rights bs) ∧
    (same L key i = false → ∀ a ∈ kv (esOf (L.drop i) ++ rights bs), lt key a.1 = true) ∧ (same L key i = true → ∃ c, L[i]? = some c ∧ c.key = key ∧ ∀ a ∈ kv (esOf (L.drop (i + 1)) ++ rights bs), lt key a.1 = true) := by
  obtain ⟨c1, c2, c3⟩ := at_cut hAt h.reps h.srt
  have hspl : L.take i ++ L.drop i = L := List.take_append_drop i L
  have hesL : esOf L = esOf (L.take i) ++ esOf (L.drop i) := (congrArg esOf hspl.symm).trans (esOf_append _ _)
  have hlo : ∀ a ∈ kv (lefts bs ++ esOf (L.take i)), lt a.1 key = true := by
    intro a ha
    rw [kv_append] at ha
    rcases List.mem_append.1 ha with ha | ha
    · exact kv_lo hI.1 a ha
    · exact kv_lo c1 a ha
  have hhi : same L key i = false → ∀ a ∈ kv (esOf (L.drop i) ++ rights bs), lt key a.1 = true := by
    intro hs a ha
    rw [kv_append] at ha
    rcases List.mem_append.1 ha with ha | ha
    · exact kv_hi (c2 hs) a ha
    · exact kv_hi hI.2.1 a ha
  have hhi2 : same L key i = true → ∃ c, L[i]? = some c ∧ c.key = key ∧ ∀ a ∈ kv (esOf (L.drop (i + 1)) ++ rights bs), lt key a.1 = true := by
    intro hs
    obtain ⟨c, g1, g2, g3⟩ := c3 hs
    refine ⟨c, g1, g2, fun a ha => ?_⟩
    rw [kv_append] at ha
    rcases List.mem_append.1 ha with ha | ha
    · exact kv_hi g3 a ha
    · exact kv_hi hI.2.1 a ha
  refine ⟨hlo, ?_, by rw [h.eq, hesL]; simp, hhi, hhi2⟩
  intro a ha
  cases hs : same L key i with
  | false => exact lt_asymm (hhi hs a ha)
  | true =>
    obtain ⟨c, g1, g2, g3⟩ := hhi2 hs
    obtain ⟨sp1, sp2⟩ := split_at g1
    have hd : L.drop i = c :: L.drop (i + 1) := by
      have hil := kget_lt g1
      rw [List.getElem?_eq_getElem hil] at g1
      rw [List.drop_eq_getElem_cons hil]
      simp only [Option.some.injEq] at g1
      rw [g1]
    rw [hd, esOf_cons, List.append_assoc, kv_append] at ha
    rcases List.mem_append.1 ha with ha | ha
    · obtain ⟨e, he, _, _, hke, _⟩ := esOf_one h.reps c (List.mem_of_getElem? g1)
      rw [he] at ha
      simp only [kv_cons, kv_nil, List.mem_cons, List.not_mem_nil, or_false] at ha
      subst ha
      show lt e.key key = false
      rw [← hke, g2, lt_irrefl]
    · exact lt_asymm (g3 a ha)
end Go.Td
namespace Go.Proofs.YtpicofkhioalkaaGreat
open Go Go.Lw Go.Wd Go.Am Go.Tb Go.Hm Go.Kd Go.Td

theorem _root_.Go.Lw.Sat.del {L : List HP} {w : World} {A : HP} (hs : Sat L w) (i : Nat) (hi : L[i]? = some A) : Sat (L.eraseIdx i) w := (hs.pull i hi).drop
theorem LdBQ.row {C : World → Prop} {b off : Nat} {cs : List Value} {T : TypeId} {a : Addr} {n : Bool} {K : Bool → Prop} (hC : ∀ w, C w → ∃ L, Sat (Row b cs T :: L) w) (hc : cs[off]? = some (.bool n)) (ha : a = ⟨b, off, none⟩) (h : K n) : LdBQ C a K :=
  ⟨n, fun w hw => by obtain ⟨L, hL⟩ := hC w hw; exact LdB.of hL 0 rfl hc ha rfl, h⟩
section
variable {H : Hp} {v : Value} {b : Nat} {F : List HP} {w : World}
theorem ofE_tree {t x n d l : Nat} (h : H.ov t = some (treeO x n d)) (hl : l ≤ 16384) : ofE H t l = 0 := by
  unfold ofE; rw [h]
  simp [treeO, Nat.not_lt.2 hl]
theorem treeof_ok (hs : Sat (HeapH H v b :: F) w) {t : Nat} (kp : Option Addr) (kl kc : Nat) (hE : ofE H t kl = 0) :
    Calls Tryz.prog 40 #[.pointer (some ⟨b, 0, none⟩), .int .u64 (t : Int), .slice kp kl kc] w (Ret (.tuple #[trv b t, .int .i64 0]) (Sat (HeapH H v b :: F))) := by
  have ht : t < 18446744073709551616 := by
    unfold ofE at hE
    cases ho : H.ov t with
    | none => rw [ho] at hE; simp at hE
    | some o => exact ov_lt hs ho
  have h := treeof_c hs ht kp kl kc
  rw [hE, if_pos rfl] at h
  exact h
theorem treeof_no (hs : Sat (HeapH H v b :: F) w) {t : Nat} (ht : t < 18446744073709551616) (kp : Option Addr) (kl kc : Nat) (hE : ofE H t kl ≠ 0) :
    Calls Tryz.prog 40 #[.pointer (some ⟨b, 0, none⟩), .int .u64 (t : Int), .slice kp kl kc] w (Ret (.tuple #[.agg #[.pointer none, .int .u64 0], .int .i64 (ofE H t kl : Nat)]) (Sat (HeapH H v b :: F))) := by
  have h := treeof_c hs ht kp kl kc
  rw [if_neg hE] at h
  exact h

theorem tcnt_c (hs : Sat (HeapH H v b :: F) w) {t : Nat} {es : List Ent} {us : List Nat} (hT : Tree H.ov t es us) (hn : es.length ≤ 1000000) :
    Calls Tryz.prog 12 #[.pointer (some ⟨b, 0, none⟩), .int .u64 (t : Int)] w (Ret (.tuple #[.int .i64 (es.length : Nat), .int .i64 0]) (Sat (HeapH H v b :: F))) := by
  obtain ⟨D, x, hD, ho⟩ := depth_le hT hn
  refine S_tree_Count_ok _ _ _ _ ?_
  unfold S_tree_Count
  refine NewC.ofRow hs fun b0 w1 h1 => NewC.ofRow h1 fun b1 w2 h2 => ?_
  refine (treeof_ok (h2.pull 2 rfl) _ _ _ (ofE_tree ho (by omega))).mono ?_
  rintro e w3 ⟨rfl, h3⟩
  refine ⟨_, _, _, rfl, ?_⟩
  refine NewC.ofRow h3 fun b2 w4 h4 => ?_
  refine StC.of h4 0 rfl (off := 0) rfl rfl fun w5 h5 => StC.of h5 0 rfl (off := 1) rfl (add_mk _ _ _) fun w6 h6 => ?_
  refine StC.of h6 2 rfl (off := 0) rfl rfl fun w7 h7 => ?_
  refine LdI.of h7 2 rfl (off := 0) rfl rfl (cond_f rfl ?_)
  refine LdP.of h7 0 rfl (off := 0) rfl rfl (LdI.of h7 0 rfl (off := 1) rfl (add_mk _ _ _) ?_)
  refine (tcount_c (Sat.pull h7 1 rfl) ho (by omega)).mono ?_
  rintro e w8 ⟨rfl, h8⟩
  refine ⟨_, rfl, ?_⟩
  refine StC.of h8 3 rfl (off := 0) rfl rfl fun w9 h9 => StC.of h9 2 rfl (off := 0) rfl rfl fun w10 h10 => ?_
  refine LdI.of h10 3 rfl (off := 0) rfl rfl (LdI.of h10 2 rfl (off := 0) rfl rfl ⟨rfl, ?_⟩)
  exact ((h10.del 1 rfl).del 1 rfl).del 1 rfl
end
end Go.Proofs.YtpicofkhioalkaaGreat
