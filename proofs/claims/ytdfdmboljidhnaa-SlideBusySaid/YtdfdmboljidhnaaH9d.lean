
/- What the document's own heap's (ref9's) With and Make come to. -/
import Derived.Test.YtdfdmboljidhnaaH9c
set_option maxRecDepth 100000
namespace Go.Proofs.Ytdfdmboljidhnaa
open Go Go.Lw Go.Wd Go.Am Go.Tb Go.Hm

theorem eok_ob9 : EOK Try.prog 41 133 4 64 := ⟨by kernel_rfl, ⟨_, _, rfl, rfl, rfl, rfl, rfl⟩, by omega⟩
/-- a slice of zeros, all of it in use. -/
theorem RunS.zeros {L : List HP} {w : World} {n : Nat} {K : Option Addr → Nat → Nat → World → Prop} (hs : Sat L w) (hn : n ≤ 1048576) (h : ∀ p w', Sat (Own 24 1 p n n (words (List.replicate n 0)) :: L) w' → K p n n w') :
    RunS Try.prog (Instr.makeSlice 45 (.int .i64 (n : Int)) (.int .i64 (n : Int))) w K := by
  refine RunS.make eok_u64 #[.int .u64 0] (by kernel_rfl) hs (by omega) (by omega) (by omega) (by omega) fun g w' h' => ?_
  simp only [Int.toNat_natCast] at h' ⊢
  have e : (madeCells #[.int .u64 0] (n * 1)).toList = words (List.replicate n 0) ++ [] := by
    apply List.ext_getElem?
    intro k
    by_cases hk : k < n
    · rw [madeCells_get _ _ _ (by omega)]; simp [words, hk, Nat.mod_one]
    · rw [List.getElem?_eq_none (by simp [madeCells]; omega), List.getElem?_eq_none (by simp [words]; omega)]
  rw [e] at h'
  refine h _ _ ?_
  exact Sat.mkOwn (xs := words (List.replicate n 0)) (rest := []) h' 0 rfl (by simp [words]) (Nat.le_refl _) (by simp only [maxLen]; omega) (by simp [words])

section
variable {r : Rh} {ns : List R9} {om : List (R9 × Gq)} {w W : World} {S : Mem} {L : List HP}
/-- With: one object is another one. -/
theorem with9_c (hS : Sat (Ro W S :: L) w) (hM : R9s S ns om r.p r.l r.c) {q : Nat} {i : Int} (hi : i = q) (hq : q < ns.length) {y : R9 × Gq} (hy : R9R S y) : Calls Try.prog 82 #[r.agg, .int .i64 i, ragg y] w fun e w' =>
    ∃ S' p l c, e = .returned ((r.withL p l c).agg) ∧ Ext S S' ∧ R9s S' (ns.set q y.1) (om.set q y) p l c ∧ Sat (Ro W S' :: L) w' := by
  subst hi
  have hlen := hM.len; have holen := hM.omlen; have hlim := hM.row.lim
  refine S_ref9_With_ok r.p r.l r.c r.a0 r.a1 r.a2 r.a3 r.a4 r.a5 r.a6 r.a7 r.a8 r.a9 r.a10 r.a11 r.a12 r.a13 r.a14 r.a15 q y.1.h y.1.tag y.2.pr y.1.refs.length y.2.cr y.2.pw y.1.words.length y.2.cw w _ ?_
  unfold S_ref9_With
  refine NewC.ofRow hS fun b0 w1 h1 => ?_
  refine NewC.ofRow h1 fun b1 w2 h2 => ?_
  refine NewC.ofRow h2 fun b2 w3 h3 => ?_
  have h4 : Sat (Own 133 4 none 0 0 [] :: Row b2 Rh.zero.cells 44 :: Row b1 (rcell y) 133 :: Row b0 r.cells 44 :: Ro W S :: L) w3 := Sat.ownNil h3 _ _
  refine LdS.of h4 3 rfl (off := 0) rfl rfl ?_
  refine RunS.appRo eok_ob9 h4 0 rfl 4 rfl hM.row (by omega) (by omega) fun p c w4 h5 => ?_
  rw [Nat.zero_add] at h5 ⊢
  refine StC.of h5 3 rfl (off := 0) rfl rfl fun w5 h6 => ?_
  have h6 : Sat (Own 133 4 p r.l c (rcells om) :: Row b2 Rh.zero.cells 44 :: Row b1 (rcell y) 133 :: Row b0 (r.withL p r.l c).cells 44 :: Ro W S :: L) w5 := h6
  refine LdS.of h6 3 rfl (off := 0) rfl rfl ?_
  refine LdI.of h6 2 rfl (off := 0) rfl rfl (LdI.of h6 2 rfl (off := 1) rfl (add_mk _ _ _) (LdS.of h6 2 rfl (off := 2) rfl (add_mk _ _ _) (LdS.of h6 2 rfl (off := 3) rfl (add_mk _ _ _) ?_)))
  refine IdxC.ownAt h6 0 rfl (by show q < r.l; omega) fun g hg => ?_
  have hol : q < om.length := by omega
  have hget : om[q]? = some (om[q]'hol) := List.getElem?_eq_getElem hol
  have c0 : (rcells om)[q * 4 + 0]? = some _ := (rcells_get hget (by omega)).trans rfl
  have c1 : (rcells om)[q * 4 + 1]? = some _ := (rcells_get hget (by omega)).trans rfl
  have c2 : (rcells om)[q * 4 + 2]? = some _ := (rcells_get hget (by omega)).trans rfl
  have c3 : (rcells om)[q * 4 + 3]? = some _ := (rcells_get hget (by omega)).trans rfl
  refine StC.ownAt h6 0 rfl hg (off := q * 4) (by rw [← Nat.add_zero (q * 4)]; exact c0) rfl fun w6 h7 => ?_
  simp only [List.set_cons_zero] at h7
  refine StC.ownAt h7 0 rfl hg (off := q * 4 + 1) (by rw [List.getElem?_set_ne (by omega)]; exact c1) (add_mk _ _ _) fun w7 h8 => ?_
  simp only [List.set_cons_zero] at h8
  refine StC.ownAt h8 0 rfl hg (off := q * 4 + 2) (by rw [List.getElem?_set_ne (by omega), List.getElem?_set_ne (by omega)]; exact c2) (add_mk _ _ _) fun w8 h9 => ?_
  simp only [List.set_cons_zero] at h9
  refine StC.ownAt h9 0 rfl hg (off := q * 4 + 3) (by rw [List.getElem?_set_ne (by omega), List.getElem?_set_ne (by omega), List.getElem?_set_ne (by omega)]; exact c3) (add_mk _ _ _) fun w9 h10 => ?_
  simp only [List.set_cons_zero] at h10
  rw [rcells_set om q y hol] at h10
  refine cpRh (r := r.withL p r.l c) rfl h10 3 rfl 1 rfl fun w10 h11 => ?_
  have h12 : Sat (Own 133 4 p r.l c (rcells (om.set q y)) :: Ro W S :: Row b2 _ 44 :: Row b1 _ 133 :: Row b0 _ 44 :: L) w10 := (Sat.pull h11 4 rfl).p1
  obtain ⟨S', hE, hC, h13⟩ := Sat.freezeCRs h12 (by omega) (rcells_one _)
  refine ⟨S', p, r.l, c, rfl, hE, ⟨?_, fun z hz => ?_, hC⟩, ?_⟩
  · rw [List.map_set, hM.same]
  · rcases List.mem_or_eq_of_mem_set hz with hz | rfl
    · exact (hM.parts z hz).mono hE
    · exact hy.mono hE
  · exact (((Sat.p1 h13).drop.p1.drop).p1.drop)

/-- what holds behind Make. -/
def MkPost (r : Rh) (ns : List R9) (om : List (R9 × Gq)) (x tag refs size : Nat) (W : World) (S : Mem) (L : List HP) (e : Ending) (w' : World) : Prop :=
  ∃ S' p l c y, e = .returned ((r.withL p l c).agg) ∧ Ext S S' ∧ R9s S' (ns ++ [⟨x, tag, List.replicate refs 0, List.replicate size 0⟩]) (om ++ [y]) p l c ∧ Sat (Ro W S' :: L) w'
def MkS (r : Rh) (om : List (R9 × Gq)) (x tag refs size b b0 b1 : Nat) (p pr pw : Option Addr) (c : Nat) (W : World) (S : Mem) (L : List HP) : List HP :=
  Row b [.int .u64 (x : Int), .int .i64 (tag : Int), .slice pr refs refs, .slice pw size size] 133 :: Own 133 4 p r.l c (rcells om) :: Own 24 1 pr refs refs (words (List.replicate refs 0)) :: Own 24 1 pw size size (words (List.replicate size 0)) ::
    Row b1 Rh.zero.cells 44 :: Row b0 r.cells 44 :: Ro W S :: L
theorem mk9_app (hM : R9s S ns om r.p r.l r.c) {x tag refs size b b0 b1 : Nat} (hr : refs ≤ 4096) (hz : size ≤ 4096) (hl : ns.length ≤ 1048575) {p pr pw : Option Addr} {c : Nat} (h : Sat (MkS r om x tag refs size b b0 b1 p pr pw c W S L) w) {K : Option Addr → Nat → Nat → World → Prop}
    (hK : ∀ p' c' w' S' y, Ext S S' → y.1 = (⟨x, tag, List.replicate refs 0, List.replicate size 0⟩ : R9) → R9R S' y → Sat (Own 133 4 p' (r.l + 1) c' (rcells (om ++ [y])) :: Row b1 Rh.zero.cells 44 :: Row b0 r.cells 44 :: Ro W S' :: L) w' → K p' (r.l + 1) c' w') :
    RunS Try.prog (Builtin.append_ #[41, 41] 41 #[.slice p r.l c, .slice (some ⟨b, 0, none⟩) 1 1]) w K := by
  have hlen := hM.len; have holen := hM.omlen; have hlim := hM.row.lim
  have lr : (List.replicate refs 0 : List Nat).length = refs := List.length_replicate
  have ls : (List.replicate size 0 : List Nat).length = size := List.length_replicate
  unfold MkS at h
  refine RunS.own eok_ob9 h 1 rfl (q := ⟨b, 0, none⟩) (news := [.int .u64 (x : Int), .int .i64 (tag : Int), .slice pr refs refs, .slice pw size size]) (m := 1) ?_ rfl (by intro u hu; simp at hu; rcases hu with rfl | rfl | rfl | rfl <;> rfl) (by omega) (by simp only [maxLen]; omega) fun p' c' w' h' => ?_
  · intro a ha j u hj
    cases ha
    have := h.cell 0 rfl (off := j) (v := u) hj
    rw [add_mk, Nat.zero_add]; exact this
  have g1 : Sat (Own 133 4 p' (r.l + 1) c' (rcells om ++ [.int .u64 (x : Int), .int .i64 (tag : Int), .slice pr refs refs, .slice pw size size]) :: Own 24 1 pr refs refs (words (List.replicate refs 0)) :: Own 24 1 pw size size (words (List.replicate size 0)) :: Row b1 Rh.zero.cells 44 :: Row b0 r.cells 44 :: Ro W S :: L) w' := Sat.drop h'
  obtain ⟨S1, hE1, hC1, g2⟩ := Sat.freezeCRs ((g1.pull 5 rfl).pull 2 rfl) (by omega) (words_one _)
  obtain ⟨S2, hE2, hC2, g3⟩ := Sat.freezeCRs (Sat.pull g2 2 rfl) (by omega) (words_one _)
  refine hK p' c' w' S2 (⟨x, tag, List.replicate refs 0, List.replicate size 0⟩, ⟨pr, refs, pw, size⟩) (hE1.trans hE2) rfl ⟨?_, ?_⟩ ?_
  · have := hC1.mono hE2
    dsimp only
    rw [lr]; exact this
  · dsimp only
    rw [ls]; exact hC2
  · rw [rcells_snoc]
    have e : rcell ((⟨x, tag, List.replicate refs 0, List.replicate size 0⟩, ⟨pr, refs, pw, size⟩) : R9 × Gq) = [.int .u64 (x : Int), .int .i64 (tag : Int), .slice pr refs refs, .slice pw size size] := by
      simp only [rcell]; rw [lr, ls]
    rw [e]
    exact (((g3.pull 3 rfl).pull 3 rfl).pull 3 rfl)
theorem mk9_ret (hM : R9s S ns om r.p r.l r.c) {x tag refs size b0 b1 : Nat} (hl : ns.length ≤ 1048575) {p' : Option Addr} {c' : Nat} {S' : Mem} {y : R9 × Gq} (hE : Ext S S') (hy : y.1 = (⟨x, tag, List.replicate refs 0, List.replicate size 0⟩ : R9)) (hR : R9R S' y)
    (h' : Sat (Own 133 4 p' (r.l + 1) c' (rcells (om ++ [y])) :: Row b1 Rh.zero.cells 44 :: Row b0 r.cells 44 :: Ro W S' :: L) w) :
    StC w ⟨b0, 0, none⟩ (.slice p' (r.l + 1) c') fun w7 => Ld_tidemarkref9_Heap w7 (⟨b0, 0, none⟩) fun s5p s5l s5c n0 n1 n2 n3 n4 n5 n6 n7 n8 n9 n10 n11 n12 n13 n14 n15 =>
      St_tidemarkref9_Heap w7 (⟨b1, 0, none⟩) s5p s5l s5c n0 n1 n2 n3 n4 n5 n6 n7 n8 n9 n10 n11 n12 n13 n14 n15 fun w8 =>
      Ld_tidemarkref9_Heap w8 (⟨b1, 0, none⟩) fun s6p s6l s6c n16 n17 n18 n19 n20 n21 n22 n23 n24 n25 n26 n27 n28 n29 n30 n31 =>
      MkPost r ns om x tag refs size W S L (.returned (.agg #[.slice s6p s6l s6c, .int .u64 n16, .int .u64 n17, .int .u64 n18, .int .u64 n19, .int .u64 n20, .int .u64 n21, .int .u64 n22, .int .u64 n23, .int .u64 n24, .int .u64 n25, .int .u64 n26, .int .u64 n27, .int .u64 n28, .int .u64 n29, .int .u64 n30, .int .u64 n31])) w8 := by
  have hlen := hM.len
  refine StC.of h' 2 rfl (off := 0) rfl rfl fun w7 h7 => ?_
  have h7 : Sat (Own 133 4 p' (r.l + 1) c' (rcells (om ++ [y])) :: Row b1 Rh.zero.cells 44 :: Row b0 (r.withL p' (r.l + 1) c').cells 44 :: Ro W S' :: L) w7 := h7
  refine cpRh (r := r.withL p' (r.l + 1) c') rfl h7 2 rfl 1 rfl fun w8 h8 => ?_
  have h9 : Sat (Own 133 4 p' (r.l + 1) c' (rcells (om ++ [y])) :: Ro W S' :: Row b1 _ 44 :: Row b0 _ 44 :: L) w8 := (Sat.pull h8 3 rfl).p1
  obtain ⟨S2, hE2, hC2, h10⟩ := Sat.freezeCRs h9 (by omega) (rcells_one _)
  refine ⟨S2, p', r.l + 1, c', y, rfl, hE.trans hE2, ⟨?_, fun z hz => ?_, hC2⟩, (Sat.p1 h10).drop.p1.drop⟩
  · rw [List.map_append, hM.same]; simp [hy]
  · rcases List.mem_append.1 hz with hz | hz
    · exact ((hM.parts z hz).mono hE).mono hE2
    · simp only [List.mem_singleton] at hz; subst hz; exact hR.mono hE2
theorem mk9_tail (hM : R9s S ns om r.p r.l r.c) {x tag refs size b b0 b1 : Nat} (hr : refs ≤ 4096) (hz : size ≤ 4096) (hl : ns.length ≤ 1048575) {p pr pw : Option Addr} {c : Nat} (h : Sat (MkS r om x tag refs size b b0 b1 p pr pw c W S L) w) :
    RunS Try.prog (Builtin.append_ #[41, 41] 41 #[.slice p r.l c, .slice (some ⟨b, 0, none⟩) 1 1]) w fun p' l' c' w' =>
      StC w' ⟨b0, 0, none⟩ (.slice p' l' c') fun w7 => Ld_tidemarkref9_Heap w7 (⟨b0, 0, none⟩) fun s5p s5l s5c n0 n1 n2 n3 n4 n5 n6 n7 n8 n9 n10 n11 n12 n13 n14 n15 =>
      St_tidemarkref9_Heap w7 (⟨b1, 0, none⟩) s5p s5l s5c n0 n1 n2 n3 n4 n5 n6 n7 n8 n9 n10 n11 n12 n13 n14 n15 fun w8 =>
      Ld_tidemarkref9_Heap w8 (⟨b1, 0, none⟩) fun s6p s6l s6c n16 n17 n18 n19 n20 n21 n22 n23 n24 n25 n26 n27 n28 n29 n30 n31 =>
      MkPost r ns om x tag refs size W S L (.returned (.agg #[.slice s6p s6l s6c, .int .u64 n16, .int .u64 n17, .int .u64 n18, .int .u64 n19, .int .u64 n20, .int .u64 n21, .int .u64 n22, .int .u64 n23, .int .u64 n24, .int .u64 n25, .int .u64 n26, .int .u64 n27, .int .u64 n28, .int .u64 n29, .int .u64 n30, .int .u64 n31])) w8 :=
  mk9_app hM hr hz hl h fun _ _ _ _ _ hE hy hR h' => mk9_ret hM hl hE hy hR h'
theorem mk9_cp (hM : R9s S ns om r.p r.l r.c) {G : List HP} (k : Nat) (hG : Sat G w) (hk : G[k]? = some (Ro W S)) {K : Option Addr → Nat → Nat → World → Prop} (hK : ∀ p c w', Sat (Own 133 4 p r.l c (rcells om) :: G) w' → K p r.l c w') :
    RunS Try.prog (Builtin.append_ #[41, 41] 41 #[.slice none 0 0, .slice r.p r.l r.c]) w K := by
  have hlim := hM.row.lim
  have h0 := hG.ownNil 133 4
  refine RunS.appRo eok_ob9 h0 0 rfl (k + 1) (by simpa using hk) hM.row (by omega) (by omega) fun p c w4 h5 => ?_
  rw [Nat.zero_add] at h5 ⊢
  exact hK p c w4 h5

/-- Make: one object more. -/
theorem make9_c (hS : Sat (Ro W S :: L) w) (hM : R9s S ns om r.p r.l r.c) {x tag refs size : Nat} (hr : refs ≤ 4096) (hz : size ≤ 4096) (hl : ns.length ≤ 1048575) : Calls Try.prog 81 #[r.agg, .int .u64 (x : Int), .int .i64 (tag : Int), .int .i64 (refs : Int), .int .i64 (size : Int)] w (MkPost r ns om x tag refs size W S L) := by
  refine S_ref9_Make_ok r.p r.l r.c r.a0 r.a1 r.a2 r.a3 r.a4 r.a5 r.a6 r.a7 r.a8 r.a9 r.a10 r.a11 r.a12 r.a13 r.a14 r.a15 x tag refs size w _ ?_
  unfold S_ref9_Make
  refine NewC.ofRow hS fun b0 w1 h1 => ?_
  refine NewC.ofRow h1 fun b1 w2 h2 => ?_
  have h3 : Sat (Row b1 Rh.zero.cells 44 :: Row b0 r.cells 44 :: Ro W S :: L) w2.drew := Sat.drew h2
  clear h1 h2 hS
  generalize w2.drew = w3 at h3
  refine ⟨fun w => ∃ L', Sat (Row b0 r.cells 44 :: L') w, ⟨_, h3.p1⟩, ?_⟩
  refine ⟨_, _, _, fun w ⟨L', hw⟩ => LdS.of hw 0 rfl (off := 0) rfl rfl rfl, ?_⟩
  refine ⟨?_, ?_, ?_⟩
  · refine mk9_cp hM 2 h3 rfl fun p c w4 h4 => ?_
    refine ⟨?_, ?_⟩
    · refine RunS.zeros h4 (by omega) fun pr w5 h5 => ?_
      refine RunS.zeros h5 (by omega) fun pw w6 h6 => ?_
      refine NewC.ofRow h6 fun b w7 h7 => ?_
      exact mk9_tail hM hr hz hl ((((Sat.pull h7 1 rfl).pull 2 rfl).pull 3 rfl).pull 3 rfl)
    · refine RunS.zeros h4 (by omega) fun pw w5 h5 => ?_
      refine RunS.zeros h5 (by omega) fun pr w6 h6 => ?_
      refine NewC.ofRow h6 fun b w7 h7 => ?_
      exact mk9_tail hM hr hz hl ((((Sat.pull h7 2 rfl).pull 2 rfl).pull 3 rfl).pull 3 rfl)
  · refine RunS.zeros h3 (by omega) fun pr w5 h5 => ?_
    refine ⟨⟨_, h5.pull 2 rfl⟩, ?_, ?_⟩
    · refine mk9_cp hM 3 h5 rfl fun p c w4 h4 => ?_
      refine RunS.zeros h4 (by omega) fun pw w6 h6 => ?_
      refine NewC.ofRow h6 fun b w7 h7 => ?_
      exact mk9_tail hM hr hz hl ((((Sat.pull h7 1 rfl).pull 3 rfl).pull 3 rfl).pull 3 rfl)
    · refine RunS.zeros h5 (by omega) fun pw w6 h6 => ?_
      refine ⟨⟨_, h6.pull 3 rfl⟩, ?_, ?_⟩
      · refine mk9_cp hM 4 h6 rfl fun p c w4 h4 => ?_
        refine NewC.ofRow h4 fun b w7 h7 => ?_
        exact mk9_tail hM hr hz hl ((((Sat.pull h7 2 rfl).pull 3 rfl).pull 3 rfl).pull 3 rfl)
      · refine NewC.ofRow h6 fun b w7 h7 => ?_
        refine ⟨⟨_, Sat.pull h7 4 rfl⟩, ?_⟩
        refine mk9_cp hM 5 h7 rfl fun p c w8 h8 => ?_
        exact mk9_tail hM hr hz hl ((((Sat.pull h8 2 rfl).pull 3 rfl).pull 2 rfl).pull 3 rfl)
  · refine RunS.zeros h3 (by omega) fun pw w5 h5 => ?_
    refine ⟨⟨_, h5.pull 2 rfl⟩, ?_, ?_⟩
    · refine mk9_cp hM 3 h5 rfl fun p c w4 h4 => ?_
      refine RunS.zeros h4 (by omega) fun pr w6 h6 => ?_
      refine NewC.ofRow h6 fun b w7 h7 => ?_
      exact mk9_tail hM hr hz hl ((((Sat.pull h7 3 rfl).pull 2 rfl).pull 3 rfl).pull 3 rfl)
    · refine RunS.zeros h5 (by omega) fun pr w6 h6 => ?_
      refine ⟨⟨_, h6.pull 3 rfl⟩, ?_, ?_⟩
      · refine mk9_cp hM 4 h6 rfl fun p c w4 h4 => ?_
        refine NewC.ofRow h4 fun b w7 h7 => ?_
        exact mk9_tail hM hr hz hl h7
      · refine NewC.ofRow h6 fun b w7 h7 => ?_
        refine ⟨⟨_, Sat.pull h7 4 rfl⟩, ?_⟩
        refine mk9_cp hM 5 h7 rfl fun p c w8 h8 => ?_
        exact mk9_tail hM hr hz hl (Sat.pull h8 1 rfl)
end
end Go.Proofs.Ytdfdmboljidhnaa
